/- law01: errors.Is, Has: the walks. -/
import Derived.Test.YtpgkbnefhhcfcaaGreatDoorFi
import Derived.Test.YtpgkbnefhhcfcaaGreatDoorD45
set_option linter.unusedVariables false
set_option linter.unusedSimpArgs false
set_option linter.constructorNameAsVariable false
namespace Go.Proofs.YtpgkbnefhhcfcaaGreatDoor
open Go Go.RowKit Go.Proofs.YtpgkbnefhhcfcaaGreatDoor.DL
set_option linter.unusedVariables false
set_option linter.unusedSimpArgs false
attribute [local irreducible] DCode DOps OpVal DCalls DCallsM DCallsB DCallsR thenQ seqQ inBlockQ endQ endQM OpNew DCf DDr

/-- A type, as reflectlite has it. -/
abbrev rty (t : Nat) : Value := .pointer (some ⟨14, t, none⟩)
abbrev rtI (t : Nat) : Value := .iface 108 (.agg #[rty t])
theorem tyOf_E : ∀ u w, (Extern.ReflectliteType.typeOf #[.iface 53 u]).run Tryz.prog w = .ok (rtI 53) w := by intro u w; kernel_rfl
theorem me_cmp : ∀ w, (Go.method (Tryz.prog.types.size + Made.depth) 108 (.agg #[rty 53]) "Comparable").run Tryz.prog w = .ok (137, .agg #[rty 53]) w := by intro w; kernel_rfl
theorem cmp_E : ∀ w, (Extern.ReflectliteType.method (fun t => do Extern.Rtype.noPackHeld "Comparable" t; pure (.bool (← typeInfo t).comparable)) #[.agg #[rty 53]]).run Tryz.prog w = .ok (.bool true) w := by intro w; kernel_rfl
set_option maxRecDepth 10000 in
set_option maxHeartbeats 8000000 in
theorem is2_m (c p k : Int) (st : List (List UInt8)) : DCallsM Tryz.prog 29 [.one (.d (errC c p st)), .one (.ifp 53 13)] [(13, some (tgB k))] (fun us M' => us = [bt (decide (k = c))] ∧ mget M' 13 = some (tgB k)) := by
  have ci := is_m c p k st
  obtain ⟨t, y, hy⟩ := errC_ifc c p st
  rw [hy] at ci ⊢
  generalize decide (k = c) = r at *
  refine DCallsM.enter tt_ok Tryz.func29 rfl Tryz.ntmps29 (by simp) ?_
  /- Tryz.prog 29 -/
  repeat (first | first | refine q_seq ?_ | refine q_seqX ?_ | refine q_seqR ?_ | refine q_then ?_ | refine q_thenX ?_ | refine q_thenR ?_ | refine q_block ?_ | refine q_blockX ?_ | refine q_blockY rfl ?_ | refine q_blockR ?_ | refine DCode.seq ?_ | refine DCode.region ?_ | refine DCode.skip ?_ | refine DCode.exit ?_ | refine DCode.ret ?_ | refine DCode.condT rfl ?_ | refine DCode.condF rfl ?_ | refine DCode.condD rfl (fun _ => ?_) (fun _ => ?_) | (refine DOps.valK 12 rfl rfl rfl rfl ?_; refine ⟨_, OpVal.eqNilP tt_ok rfl rfl rfl, ?_⟩) | (refine DOps.valK 12 rfl rfl rfl rfl ?_; refine ⟨_, OpVal.eqNilF tt_ok rfl rfl rfl, ?_⟩) | (refine DOps.valK 17 rfl rfl rfl rfl ?_; refine ⟨_, OpVal.extP rfl rfl rfl Tryz.func40 (by kernel_rfl) (by kernel_rfl) (by kernel_rfl) (by kernel_rfl) rfl rfl tyOf_E, ?_⟩) | (refine DOps.valK 17 rfl rfl rfl rfl ?_; refine ⟨_, OpVal.extI rfl rfl rfl rfl me_cmp Tryz.func137 (by kernel_rfl) (by kernel_rfl) (by kernel_rfl) (by kernel_rfl) rfl cmp_E, ?_⟩) | (refine DOps.callM1 (b := 13) (k := tgB k) (k' := tgB k) (rs := [bt r]) rfl rfl rfl (ent_call rfl rfl Tryz.func41 rfl (by kernel_rfl) rfl) rfl (tgB_ok k _) (tg_ok2 k trivial (pures_cons trivial pures_nil)) ci ?_) | first | refine DOps.nil ?_ | refine DOps.off rfl rfl rfl ?_ | (refine DOps.valK 0 rfl rfl rfl rfl ?_; first | refine ⟨_, (OpVal.move rfl rfl), ?_⟩ | refine ⟨_, (OpVal.moveT rfl rfl), ?_⟩) | (refine DOps.valK 1 rfl rfl rfl rfl ?_; first | refine ⟨_, (OpVal.assign rfl rfl), ?_⟩) | (refine DOps.valK 12 rfl rfl rfl rfl ?_; first | refine ⟨_, (OpVal.eqlST rfl rfl rfl (by first | assumption | with_reducible rfl)), ?_⟩ | refine ⟨_, (OpVal.eqlSF rfl rfl rfl (by first | assumption | with_reducible rfl)), ?_⟩) | (refine DOps.valK 2 rfl rfl rfl rfl ?_; first | refine ⟨_, (OpVal.pickT rfl rfl rfl), ?_⟩ | refine ⟨_, (OpVal.pickF rfl rfl rfl), ?_⟩) | (refine DOps.k 12 rfl ?_; first | refine DOps.cmpT rfl rfl rfl rfl rfl rfl rfl (by omega) ?_ | refine DOps.cmpF rfl rfl rfl rfl rfl rfl rfl (by omega) ?_))
  exact endQM.boxK (.inr rfl) rfl (.cons (.tmp rfl) .nil) (pures_cons trivial pures_nil) rfl (tgB_ok k _)
set_option maxRecDepth 10000 in
set_option maxHeartbeats 8000000 in
theorem has_d (c p k : Int) (st : List (List UInt8)) (hl : st.length ≤ 9223372036854775806) : DCalls Tryz.prog 18 [ft c p, tL st, it k] (fun ts => ts = [bt (decide (k = c))]) := by
  have cc := chain_d c p st hl
  have ci := is2_m c p k st
  obtain ⟨t, y, hy⟩ := errC_ifc c p st
  rw [hy] at ci cc
  generalize decide (k = c) = r at *
  refine DCalls.enter tt_ok Tryz.func18 rfl Tryz.ntmps18 (by simp) (by repeat (first | exact pures_nil | refine pures_cons ?_ ?_ | exact trivial | exact pure_aggB rfl | exact arr_pure _ | exact Load.pure _ | exact Area.pure _ | exact dvs_pure _ | exact pure_sc | exact pure_sl)) ?_
  repeat (first | first | refine q_seq ?_ | refine q_seqX ?_ | refine q_seqR ?_ | refine q_then ?_ | refine q_thenX ?_ | refine q_thenR ?_ | refine q_block ?_ | refine q_blockX ?_ | refine q_blockY rfl ?_ | refine q_blockR ?_ | refine DCode.seq ?_ | refine DCode.region ?_ | refine DCode.skip ?_ | refine DCode.exit ?_ | refine DCode.ret ?_ | refine DCode.condT rfl ?_ | refine DCode.condF rfl ?_ | refine DCode.condD rfl (fun _ => ?_) (fun _ => ?_) | (refine DOps.valK 3 rfl rfl rfl rfl ?_; refine ⟨.v (ft c p), OpVal.cast (OpVal.load tt_ok rfl rfl rfl rfl rfl rfl) rfl, ?_⟩) | refine DOps.call1 (ts := [ft c p, tL st]) rfl rfl rfl rfl rfl Tryz.func25 rfl (by kernel_rfl) rfl (by repeat (first | exact pures_nil | refine pures_cons ?_ ?_ | exact trivial | exact pure_aggB rfl | exact arr_pure _ | exact Load.pure _ | exact Area.pure _ | exact dvs_pure _ | exact pure_sc | exact pure_sl)) (cc) ?_ | (refine DOps.valK 32 rfl rfl rfl rfl ?_; refine ⟨_, OpVal.mkIfp tt_ok rfl rfl rfl rfl, ?_⟩) | (refine DOps.callM1 (b := 13) (k := tgB k) (k' := tgB k) (rs := [bt r]) rfl rfl rfl (ent_call rfl rfl Tryz.func29 rfl (by kernel_rfl) rfl) rfl (tgB_ok k _) (tg_ok2 k trivial pures_nil) ci ?_) | first | refine DOps.nil ?_ | refine DOps.off rfl rfl rfl ?_ | (refine DOps.valK 0 rfl rfl rfl rfl ?_; first | refine ⟨_, (OpVal.move rfl rfl), ?_⟩ | refine ⟨_, (OpVal.moveT rfl rfl), ?_⟩) | (refine DOps.valK 1 rfl rfl rfl rfl ?_; first | refine ⟨_, (OpVal.assign rfl rfl), ?_⟩) | (refine DOps.valK 3 rfl rfl rfl rfl ?_; first | refine ⟨_, (OpVal.ldS tt_ok rfl rfl rfl rfl (Int.toNat_natCast _)), ?_⟩ | refine ⟨_, (OpVal.load1 tt_ok rfl rfl rfl rfl rfl rfl), ?_⟩) | (refine DOps.valK 25 rfl rfl rfl rfl ?_; first | refine ⟨_, (OpVal.buildS tt_ok rfl rfl rfl rfl rfl rfl rfl rfl), ?_⟩ | refine ⟨_, (OpVal.buildA tt_ok rfl rfl rfl rfl rfl rfl rfl rfl), ?_⟩) | (refine DOps.k 30 rfl ?_; refine DOps.boxS rfl rfl rfl rfl rfl rfl ?_))
  exact endQ.ret rfl (.cons (.tmp rfl) .nil) (pures_cons trivial pures_nil) rfl
end Go.Proofs.YtpgkbnefhhcfcaaGreatDoor
