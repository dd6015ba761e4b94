/- law01: FaultTexts: the walk. -/
import Derived.Test.YtpgkbnefhhcfcaaGreatDoorFv
set_option linter.unusedVariables false
set_option linter.unusedSimpArgs false
set_option linter.constructorNameAsVariable false
namespace Go.Proofs.YtpgkbnefhhcfcaaGreatDoor
open Go Go.RowKit Go.Proofs.YtpgkbnefhhcfcaaGreatDoor.DL
set_option linter.unusedVariables false
set_option linter.unusedSimpArgs false
attribute [local irreducible] DCode DOps OpVal DCalls DCallsM DCallsB DCallsR thenQ seqQ inBlockQ endQ endQM OpNew DCf DDr

theorem bool_eqv (b : Bool) : decide (b = b) = true := decide_eq_true rfl
theorem text_len {c p : Int} (hc : in64 c) (hp : in64 p) (st : List (List UInt8)) : (textB c p st).length ≤ (stgT st).length + 52 := by
  have l1 := itoa_len hc
  have l2 := itoa_len hp
  rw [textB_stg, List.length_append, tailB]
  split <;> simp only [List.length_append, fltS, atS, List.length_cons, List.length_nil] <;> omega
theorem st_len (st : List (List UInt8)) : st.length ≤ (stgT st).length := by
  induction st with
  | nil => exact Nat.le_refl _
  | cons n st ih =>
    rw [stgT, List.flatMap_cons, ← stgT, List.length_append, List.length_append, List.length_cons]
    simp only [colS, List.length_cons, List.length_nil]; omega
/-- What a text's reading hands back. -/
theorem readP_facts {s : List UInt8} {x : Fd} (h : readP s = some x) : in64 x.1.1 ∧ in64 x.1.2 ∧ textB x.1.1 x.1.2 x.2 = s ∧ x.2.length ≤ s.length := by
  obtain ⟨h1, h2, _, _, h5⟩ := (readP_iff s x).1 h
  refine ⟨h1, h2, h5, ?_⟩
  have := congrArg List.length h5
  rw [textB_stg, List.length_append] at this
  have := st_len x.2
  omega
theorem resF_cases (R : Option Fd) : ∃ c p l b, resF R = [ft c p, tL l, bt b] ∧ (R = none → l = []) ∧ ∀ x, R = some x → c = x.1.1 ∧ p = x.1.2 ∧ l = x.2 ∧ b = true := by
  cases R with
  | none =>
    refine ⟨0, 0, [], false, rfl, fun _ => rfl, ?_⟩
    intro x h; cases h
  | some x =>
    refine ⟨x.1.1, x.1.2, x.2, true, rfl, ?_, ?_⟩
    · intro h; cases h
    · intro y h
      obtain rfl := Option.some.inj h
      exact ⟨rfl, rfl, rfl, rfl⟩
set_option maxRecDepth 10000 in
set_option maxHeartbeats 8000000 in
theorem texts_d (c p : Int) (st : List (List UInt8)) (s : List UInt8) (hc : in64 c) (hp : in64 p) (hst : (stgT st).length ≤ 140737488350000) (hs : s.length ≤ 4294967200) : DCalls Tryz.prog 3 [ft c p, tL st, tT s] (fun ts => ts = [bt true]) := by
  have hsl := st_len st
  have htl := text_len hc hp st
  have c1 := read_d s hs
  have c2 := rread_d s (by omega)
  rw [← read_same] at c2
  have ct := text_d c p st hc hp (by omega) (by omega)
  have cr := rtext_d c p st hc hp (by omega) (by omega)
  generalize textB c p st = X at *
  obtain ⟨c', p', l, b, hR, hn, hx⟩ := resF_cases (readP s)
  rw [hR] at c1 c2
  have hll : l.length ≤ s.length := by
    cases e : readP s with
    | none => rw [hn e]; simp
    | some x =>
      obtain ⟨_, _, rfl, _⟩ := hx x e
      exact (readP_facts e).2.2.2
  clear hR hn hx
  have cx := rtexts_d l l (by omega) (by omega)
  rw [decide_eq_true rfl] at cx
  have e1 := ft_eqv c' p' c' p'
  rw [decide_eq_true ⟨rfl, rfl⟩] at e1
  have hbb := bool_eqv b
  refine DCalls.enter tt_ok Tryz.func3 rfl Tryz.ntmps3 (by simp) (by repeat (first | exact pures_nil | refine pures_cons ?_ ?_ | exact trivial | exact pure_aggB rfl | exact arr_pure _ | exact Load.pure _ | exact Area.pure _ | exact dvs_pure _ | exact pure_sc | exact pure_sl)) ?_
  repeat (first | first | refine q_seq ?_ | refine q_seqX ?_ | refine q_seqR ?_ | refine q_then ?_ | refine q_thenX ?_ | refine q_thenR ?_ | refine q_block ?_ | refine q_blockX ?_ | refine q_blockY rfl ?_ | refine q_blockR ?_ | refine DCode.seq ?_ | refine DCode.region ?_ | refine DCode.skip ?_ | refine DCode.exit ?_ | refine DCode.ret ?_ | refine DCode.condT rfl ?_ | refine DCode.condF rfl ?_ | refine DCode.condD rfl (fun _ => ?_) (fun _ => ?_) | (refine DOps.valK 3 rfl rfl rfl rfl ?_; refine ⟨.v (ft c p), OpVal.cast (OpVal.load tt_ok rfl rfl rfl rfl rfl rfl) rfl, ?_⟩) | refine DOps.call1 (ts := [tT s]) rfl rfl rfl rfl rfl Tryz.func8 rfl (by kernel_rfl) rfl (by repeat (first | exact pures_nil | refine pures_cons ?_ ?_ | exact trivial | exact pure_aggB rfl | exact arr_pure _ | exact Load.pure _ | exact Area.pure _ | exact dvs_pure _ | exact pure_sc | exact pure_sl)) (c1) ?_ | refine DOps.call1 (ts := [tT s]) rfl rfl rfl rfl rfl Tryz.func9 rfl (by kernel_rfl) rfl (by repeat (first | exact pures_nil | refine pures_cons ?_ ?_ | exact trivial | exact pure_aggB rfl | exact arr_pure _ | exact Load.pure _ | exact Area.pure _ | exact dvs_pure _ | exact pure_sc | exact pure_sl)) (c2) ?_ | first | refine DOps.nil ?_ | refine DOps.off rfl rfl rfl ?_ | (refine DOps.valK 0 rfl rfl rfl rfl ?_; first | refine ⟨_, (OpVal.move rfl rfl), ?_⟩ | refine ⟨_, (OpVal.moveT rfl rfl), ?_⟩) | (refine DOps.valK 1 rfl rfl rfl rfl ?_; first | refine ⟨_, (OpVal.assign rfl rfl), ?_⟩) | (refine DOps.valK 3 rfl rfl rfl rfl ?_; first | refine ⟨_, (OpVal.ldS tt_ok rfl rfl rfl rfl (Int.toNat_natCast _)), ?_⟩ | refine ⟨_, (OpVal.load1 tt_ok rfl rfl rfl rfl rfl rfl), ?_⟩) | (refine DOps.valK 23 rfl rfl rfl rfl ?_; first | refine ⟨_, (OpVal.extract rfl rfl rfl), ?_⟩) | (refine DOps.valK 12 rfl rfl rfl rfl ?_; first | refine ⟨_, (OpVal.eqlST rfl rfl rfl (by first | assumption | with_reducible rfl)), ?_⟩ | refine ⟨_, (OpVal.eqlSF rfl rfl rfl (by first | assumption | with_reducible rfl)), ?_⟩) | (refine DOps.valK 2 rfl rfl rfl rfl ?_; first | refine ⟨_, (OpVal.pickT rfl rfl rfl), ?_⟩ | refine ⟨_, (OpVal.pickF rfl rfl rfl), ?_⟩) | (refine DOps.k 12 rfl ?_; first | refine DOps.cmpT rfl rfl rfl rfl rfl rfl rfl (by omega) ?_ | refine DOps.cmpF rfl rfl rfl rfl rfl rfl rfl (by omega) ?_) | (refine DOps.k 30 rfl ?_; refine DOps.boxS rfl rfl rfl rfl rfl rfl ?_) | (refine DOps.k 29 rfl ?_; refine DOps.alS tt_ok rfl rfl rfl rfl rfl rfl rfl ?_) | (refine DOps.k 31 rfl ?_; refine DOps.store tt_ok rfl rfl rfl rfl rfl rfl rfl rfl (Nat.le_of_ble_eq_true rfl) rfl ?_))
  (repeat refine DCode.seq ?_) <;> refine DCode.conf [] [] (by kernel_rfl) (by kernel_rfl) ?_
  repeat (first | refine DCf.call (ts := []) rfl (fun _ => rfl) rfl rfl rfl rfl Tryz.func10 rfl (by kernel_rfl) (fun _ => rfl) (by repeat (first | exact pures_nil | refine pures_cons ?_ ?_ | exact trivial | exact pure_aggB rfl | exact arr_pure _ | exact Load.pure _ | exact Area.pure _ | exact dvs_pure _ | exact pure_sc | exact pure_sl)) (fixed_d) ?_ | refine DCf.call (ts := [ft c p, tL st]) rfl (fun _ => rfl) rfl rfl rfl rfl Tryz.func11 rfl (by kernel_rfl) (fun _ => rfl) (by repeat (first | exact pures_nil | refine pures_cons ?_ ?_ | exact trivial | exact pure_aggB rfl | exact arr_pure _ | exact Load.pure _ | exact Area.pure _ | exact dvs_pure _ | exact pure_sc | exact pure_sl)) (ct) ?_ | refine DCf.call (ts := [ft c p, tL st]) rfl (fun _ => rfl) rfl rfl rfl rfl Tryz.func12 rfl (by kernel_rfl) (fun _ => rfl) (by repeat (first | exact pures_nil | refine pures_cons ?_ ?_ | exact trivial | exact pure_aggB rfl | exact arr_pure _ | exact Load.pure _ | exact Area.pure _ | exact dvs_pure _ | exact pure_sc | exact pure_sl)) (cr) ?_ | refine DCf.call (ts := [tL l, tL l]) rfl (fun _ => rfl) rfl rfl rfl rfl Tryz.func13 rfl (by kernel_rfl) (fun _ => rfl) (by repeat (first | exact pures_nil | refine pures_cons ?_ ?_ | exact trivial | exact pure_aggB rfl | exact arr_pure _ | exact Load.pure _ | exact Area.pure _ | exact dvs_pure _ | exact pure_sc | exact pure_sl)) (cx) ?_ | (refine DCf.valK 3 rfl rfl (fun _ => rfl) rfl rfl ?_; refine ⟨_, fun _ _ _ => OpVal.cast (OpVal.load tt_ok rfl rfl rfl rfl rfl rfl) (rfl : _ = SV.v (ft c p)), ?_⟩) | (refine DCf.valK 3 rfl rfl (fun _ => rfl) rfl rfl ?_; refine ⟨_, fun _ _ _ => OpVal.cast (OpVal.load tt_ok rfl rfl rfl rfl rfl rfl) (rfl : _ = SV.v (ft c' p')), ?_⟩) | (refine DCf.valK 12 rfl rfl (fun _ => rfl) rfl rfl ?_; refine ⟨_, fun _ _ _ => OpVal.eqlA rfl rfl rfl (by kernel_rfl) e1, ?_⟩) | (refine DCf.valK 12 rfl rfl (fun _ => rfl) rfl rfl ?_; refine ⟨_, fun _ _ _ => OpVal.cast (OpVal.eqlBB tt_ok rfl rfl rfl rfl) (by rw [hbb]), ?_⟩) | first | refine DCf.off rfl (fun _ => rfl) rfl rfl ?_ | (refine DCf.valK 0 rfl rfl (fun _ => rfl) rfl rfl ?_; first | refine ⟨_, fun _ _ _ => (OpVal.move rfl rfl), ?_⟩ | refine ⟨_, fun _ _ _ => (OpVal.moveT rfl rfl), ?_⟩) | (refine DCf.valK 1 rfl rfl (fun _ => rfl) rfl rfl ?_; first | refine ⟨_, fun _ _ _ => (OpVal.assign rfl rfl), ?_⟩) | (refine DCf.valK 3 rfl rfl (fun _ => rfl) rfl rfl ?_; first | refine ⟨_, fun _ _ _ => (OpVal.ldS tt_ok rfl rfl rfl rfl (Int.toNat_natCast _)), ?_⟩ | refine ⟨_, fun _ _ _ => (OpVal.load1 tt_ok rfl rfl rfl rfl rfl rfl), ?_⟩) | (refine DCf.valK 23 rfl rfl (fun _ => rfl) rfl rfl ?_; first | refine ⟨_, fun _ _ _ => (OpVal.extract rfl rfl rfl), ?_⟩) | (refine DCf.valK 12 rfl rfl (fun _ => rfl) rfl rfl ?_; first | refine ⟨_, fun _ _ _ => (OpVal.eqlST rfl rfl rfl (by first | assumption | with_reducible rfl)), ?_⟩ | refine ⟨_, fun _ _ _ => (OpVal.eqlSF rfl rfl rfl (by first | assumption | with_reducible rfl)), ?_⟩ | refine ⟨_, fun _ _ _ => (OpVal.cmp rfl rfl rfl rfl).1 (by omega), ?_⟩ | refine ⟨_, fun _ _ _ => (OpVal.cmp rfl rfl rfl rfl).2 (by omega), ?_⟩) | (refine DCf.valK 2 rfl rfl (fun _ => rfl) rfl rfl ?_; first | refine ⟨_, fun _ _ _ => (OpVal.pickT rfl rfl rfl), ?_⟩ | refine ⟨_, fun _ _ _ => (OpVal.pickF rfl rfl rfl), ?_⟩) | (refine DCf.k 31 rfl ?_; refine DCf.store tt_ok rfl rfl (fun _ => rfl) rfl (fun _ => rfl) (fun _ => rfl) rfl rfl (fun _ _ => rfl) rfl (Nat.le_of_ble_eq_true rfl) rfl ?_) | (refine DCf.k 30 rfl ?_; refine DCf.boxS rfl (fun _ => rfl) rfl rfl rfl (fun _ => rfl) rfl (fun _ _ => rfl) ?_) | (refine DCf.k 29 rfl ?_; refine DCf.alS tt_ok rfl (fun _ => rfl) rfl rfl rfl rfl rfl rfl (fun _ _ => rfl) ?_))
  refine DCf.done ?_
  repeat (first | first | refine q_seq ?_ | refine q_seqX ?_ | refine q_seqR ?_ | refine q_then ?_ | refine q_thenX ?_ | refine q_thenR ?_ | refine q_block ?_ | refine q_blockX ?_ | refine q_blockY rfl ?_ | refine q_blockR ?_ | refine DCode.seq ?_ | refine DCode.region ?_ | refine DCode.skip ?_ | refine DCode.exit ?_ | refine DCode.ret ?_ | refine DCode.condT rfl ?_ | refine DCode.condF rfl ?_ | refine DCode.condD rfl (fun _ => ?_) (fun _ => ?_) | first | refine DOps.nil ?_ | refine DOps.off rfl rfl rfl ?_ | (refine DOps.valK 0 rfl rfl rfl rfl ?_; first | refine ⟨_, (OpVal.move rfl rfl), ?_⟩ | refine ⟨_, (OpVal.moveT rfl rfl), ?_⟩) | (refine DOps.valK 1 rfl rfl rfl rfl ?_; first | refine ⟨_, (OpVal.assign rfl rfl), ?_⟩) | (refine DOps.valK 3 rfl rfl rfl rfl ?_; first | refine ⟨_, (OpVal.ldS tt_ok rfl rfl rfl rfl (Int.toNat_natCast _)), ?_⟩ | refine ⟨_, (OpVal.load1 tt_ok rfl rfl rfl rfl rfl rfl), ?_⟩) | (refine DOps.valK 23 rfl rfl rfl rfl ?_; first | refine ⟨_, (OpVal.extract rfl rfl rfl), ?_⟩) | (refine DOps.valK 12 rfl rfl rfl rfl ?_; first | refine ⟨_, (OpVal.eqlST rfl rfl rfl (by first | assumption | with_reducible rfl)), ?_⟩ | refine ⟨_, (OpVal.eqlSF rfl rfl rfl (by first | assumption | with_reducible rfl)), ?_⟩) | (refine DOps.valK 2 rfl rfl rfl rfl ?_; first | refine ⟨_, (OpVal.pickT rfl rfl rfl), ?_⟩ | refine ⟨_, (OpVal.pickF rfl rfl rfl), ?_⟩) | (refine DOps.k 12 rfl ?_; first | refine DOps.cmpT rfl rfl rfl rfl rfl rfl rfl (by omega) ?_ | refine DOps.cmpF rfl rfl rfl rfl rfl rfl rfl (by omega) ?_) | (refine DOps.k 30 rfl ?_; refine DOps.boxS rfl rfl rfl rfl rfl rfl ?_) | (refine DOps.k 29 rfl ?_; refine DOps.alS tt_ok rfl rfl rfl rfl rfl rfl rfl ?_) | (refine DOps.k 31 rfl ?_; refine DOps.store tt_ok rfl rfl rfl rfl rfl rfl rfl rfl (Nat.le_of_ble_eq_true rfl) rfl ?_))
  exact endQ.ret rfl (.cons (.tmp rfl) .nil) (pures_cons trivial pures_nil) rfl
end Go.Proofs.YtpgkbnefhhcfcaaGreatDoor
