/- law01: calls whose answers the document fixes: the walk. -/
import Derived.Test.YtpgkbnefhhcfcaaGreatDoorFs
import Derived.Test.YtpgkbnefhhcfcaaGreatDoorFu
import Derived.Test.YtpgkbnefhhcfcaaGreatDoorFe
set_option linter.unusedVariables false
set_option linter.unusedSimpArgs false
set_option linter.constructorNameAsVariable false
namespace Go.Proofs.YtpgkbnefhhcfcaaGreatDoor
open Go Go.RowKit Go.Proofs.YtpgkbnefhhcfcaaGreatDoor.DL
set_option linter.unusedVariables false
set_option linter.unusedSimpArgs false
attribute [local irreducible] DCode DOps OpVal DCalls DCallsM DCallsB DCallsR thenQ seqQ inBlockQ endQ endQM OpNew DCf DDr

theorem ft_eqv (c p c' p' : Int) : EqV Tryz.prog 9 24 (ft c p) (ft c' p') (decide (c = c' ∧ p = p')) := by
  have h : EqV Tryz.prog 2 24 (ft c p) (ft c' p') (decide (c = c') && (decide (p = p') && true)) := by
    refine EqV.struct tt_ok rfl (by kernel_rfl) ?_
    refine ⟨_, .one (.d (di c)), .one (.d (di c')), _, _, by decide, rfl, ?_, ?_, EqV.le (Nat.zero_le 1) (EqV.int tt_ok rfl), ⟨_, .one (.d (di p)), .one (.d (di p')), _, _, by decide, rfl, ?_, ?_, EqV.le (Nat.zero_le 1) (EqV.int tt_ok rfl), rfl, rfl⟩, rfl⟩
    · exact ⟨_, rfl, rfl⟩
    · exact ⟨_, rfl, rfl⟩
    · exact ⟨_, rfl, rfl⟩
    · exact ⟨_, rfl, rfl⟩
  have h := EqV.le (h' := 9) (by omega) h
  rw [show (decide (c = c') && (decide (p = p') && true)) = decide (c = c' ∧ p = p') by simp] at h
  exact h
abbrev ediS : List UInt8 := [101, 100, 105, 116, 105, 111, 110]
abbrev lexS : List UInt8 := [108, 101, 120, 101, 114]
abbrev litS : List UInt8 := [101, 100, 105, 116, 105, 111, 110, 58, 32, 108, 101, 120, 101, 114, 58, 32, 102, 97, 117, 108, 116, 32, 52, 48, 32, 97, 116, 32, 55]
theorem lit_text : textB 40 7 [ediS, lexS] = litS := by decide +kernel
theorem lit_read : readP litS = some ((40, 7), [ediS, lexS]) := by
  rw [← lit_text]
  refine text_read ⟨by omega, by omega⟩ ⟨by omega, by omega⟩ (by omega) fun n hn => ?_
  simp only [List.mem_cons, List.mem_nil_iff, or_false] at hn
  rcases hn with rfl | rfl <;> decide
theorem first_nil : DCalls Tryz.prog 15 [.one (.d (.sc (.slice none 0 0)))] (fun ts => ts = [ft 0 0, bt false]) :=
  DCalls.arg (first_d [] (by decide)) fun γ Pr w v h => DEq.nil 2 _ Pr w v h
set_option maxRecDepth 10000 in
set_option maxHeartbeats 8000000 in
theorem fixed_d : DCalls Tryz.prog 10 [] (fun ts => ts = [bt true]) := by
  have cr := read_d litS (by decide)
  rw [lit_read] at cr
  have cr : DCalls Tryz.prog 8 [tT litS] (fun ts => ts = [ft 40 7, tL [ediS, lexS], bt true]) := cr
  have cf := first_d [(0, 0), (9, 8), (40, 7)] (by decide)
  have cf : DCalls Tryz.prog 15 [tF [(0, 0), (9, 8), (40, 7)]] (fun ts => ts = [ft 40 7, bt true]) := cf
  have ct := text_d 40 7 [ediS, lexS] ⟨by omega, by omega⟩ ⟨by omega, by omega⟩ (by decide) (by rw [lit_text]; decide)
  rw [lit_text] at ct
  have cx := rtexts_d [ediS, lexS] [ediS, lexS] (by decide) (by decide)
  rw [decide_eq_true rfl] at cx
  have h1 := has_d 40 7 40 [ediS, lexS] (by decide)
  have h2 := has_d 40 7 41 [ediS, lexS] (by decide)
  have h1 : DCalls Tryz.prog 18 [ft 40 7, tL [ediS, lexS], it 40] (fun ts => ts = [bt true]) := h1
  have h2 : DCalls Tryz.prog 18 [ft 40 7, tL [ediS, lexS], it 41] (fun ts => ts = [bt false]) := h2
  have e1 := ft_eqv 40 7 40 7
  rw [decide_eq_true ⟨rfl, rfl⟩] at e1
  refine DCalls.enter tt_ok Tryz.func10 rfl Tryz.ntmps10 (by simp) pures_nil ?_
  /- Tryz.prog 10 -/
  repeat (first | first | refine q_seq ?_ | refine q_seqX ?_ | refine q_seqR ?_ | refine q_then ?_ | refine q_thenX ?_ | refine q_thenR ?_ | refine q_block ?_ | refine q_blockX ?_ | refine q_blockY rfl ?_ | refine q_blockR ?_ | refine DCode.seq ?_ | refine DCode.region ?_ | refine DCode.skip ?_ | refine DCode.exit ?_ | refine DCode.ret ?_ | refine DCode.condT rfl ?_ | refine DCode.condF rfl ?_ | refine DCode.condD rfl (fun _ => ?_) (fun _ => ?_) | (refine DOps.valK 3 rfl rfl rfl rfl ?_; refine ⟨.v (ft 40 7), OpVal.cast (OpVal.load tt_ok rfl rfl rfl rfl rfl rfl) rfl, ?_⟩) | refine DOps.call1 (ts := [tT litS]) rfl rfl rfl rfl rfl Tryz.func8 rfl (by kernel_rfl) rfl (by repeat (first | exact pures_nil | refine pures_cons ?_ ?_ | exact trivial | exact pure_aggB rfl | exact arr_pure _ | exact Load.pure _ | exact Area.pure _ | exact dvs_pure _ | exact pure_sc | exact pure_sl)) (cr) ?_ | (refine DOps.k 28 rfl ?_; refine DOps.new (r := .v (tL [ediS, lexS])) rfl rfl rfl (OpNew.bsl tt_ok [dS ediS, dS lexS] _ rfl rfl rfl rfl rfl rfl rfl rfl rfl rfl (strs_flat [ediS, lexS])) ?_) | (refine DOps.k 28 rfl ?_; refine DOps.new (r := .v (tF [(0, 0), (9, 8), (40, 7)])) rfl rfl rfl (OpNew.bsl tt_ok [di 0, di 0, di 9, di 8, di 40, di 7] _ rfl rfl rfl rfl rfl rfl rfl rfl rfl rfl (flat_x (dv := dvF) (0, 0) (k := 2) (fun _ => rfl) [(0, 0), (9, 8), (40, 7)])) ?_) | refine DOps.call1 (ts := [tF [(0, 0), (9, 8), (40, 7)]]) rfl rfl rfl rfl rfl Tryz.func15 rfl (by kernel_rfl) rfl (by repeat (first | exact pures_nil | refine pures_cons ?_ ?_ | exact trivial | exact pure_aggB rfl | exact arr_pure _ | exact Load.pure _ | exact Area.pure _ | exact dvs_pure _ | exact pure_sc | exact pure_sl)) (cf) ?_ | refine DOps.call1 (ts := [.one (.d (.sc (.slice none 0 0)))]) rfl rfl rfl rfl rfl Tryz.func15 rfl (by kernel_rfl) rfl (by repeat (first | exact pures_nil | refine pures_cons ?_ ?_ | exact trivial | exact pure_aggB rfl | exact arr_pure _ | exact Load.pure _ | exact Area.pure _ | exact dvs_pure _ | exact pure_sc | exact pure_sl)) (first_nil) ?_ | refine DOps.call1 (ts := [ft 40 7, tL [ediS, lexS]]) rfl rfl rfl rfl rfl Tryz.func11 rfl (by kernel_rfl) rfl (by repeat (first | exact pures_nil | refine pures_cons ?_ ?_ | exact trivial | exact pure_aggB rfl | exact arr_pure _ | exact Load.pure _ | exact Area.pure _ | exact dvs_pure _ | exact pure_sc | exact pure_sl)) (ct) ?_ | refine DOps.call1 (ts := [tL [ediS, lexS], tL [ediS, lexS]]) rfl rfl rfl rfl rfl Tryz.func13 rfl (by kernel_rfl) rfl (by repeat (first | exact pures_nil | refine pures_cons ?_ ?_ | exact trivial | exact pure_aggB rfl | exact arr_pure _ | exact Load.pure _ | exact Area.pure _ | exact dvs_pure _ | exact pure_sc | exact pure_sl)) (cx) ?_ | refine DOps.call1 (ts := [ft 40 7, tL [ediS, lexS], it 40]) rfl rfl rfl rfl rfl Tryz.func18 rfl (by kernel_rfl) rfl (by repeat (first | exact pures_nil | refine pures_cons ?_ ?_ | exact trivial | exact pure_aggB rfl | exact arr_pure _ | exact Load.pure _ | exact Area.pure _ | exact dvs_pure _ | exact pure_sc | exact pure_sl)) (h1) ?_ | refine DOps.call1 (ts := [ft 40 7, tL [ediS, lexS], it 41]) rfl rfl rfl rfl rfl Tryz.func18 rfl (by kernel_rfl) rfl (by repeat (first | exact pures_nil | refine pures_cons ?_ ?_ | exact trivial | exact pure_aggB rfl | exact arr_pure _ | exact Load.pure _ | exact Area.pure _ | exact dvs_pure _ | exact pure_sc | exact pure_sl)) (h2) ?_ | (refine DOps.valK 12 rfl rfl rfl rfl ?_; refine ⟨_, OpVal.eqlA rfl rfl rfl (by kernel_rfl) e1, ?_⟩) | first | refine DOps.nil ?_ | refine DOps.off rfl rfl rfl ?_ | (refine DOps.valK 0 rfl rfl rfl rfl ?_; first | refine ⟨_, (OpVal.move rfl rfl), ?_⟩ | refine ⟨_, (OpVal.moveT rfl rfl), ?_⟩) | (refine DOps.valK 1 rfl rfl rfl rfl ?_; first | refine ⟨_, (OpVal.assign rfl rfl), ?_⟩) | (refine DOps.valK 3 rfl rfl rfl rfl ?_; first | refine ⟨_, (OpVal.ldS tt_ok rfl rfl rfl rfl (Int.toNat_natCast _)), ?_⟩ | refine ⟨_, (OpVal.load1 tt_ok rfl rfl rfl rfl rfl rfl), ?_⟩) | (refine DOps.valK 23 rfl rfl rfl rfl ?_; first | refine ⟨_, (OpVal.extract rfl rfl rfl), ?_⟩) | (refine DOps.valK 12 rfl rfl rfl rfl ?_; first | refine ⟨_, (OpVal.eqlST rfl rfl rfl (by first | assumption | with_reducible rfl)), ?_⟩ | refine ⟨_, (OpVal.eqlSF rfl rfl rfl (by first | assumption | with_reducible rfl)), ?_⟩) | (refine DOps.valK 2 rfl rfl rfl rfl ?_; first | refine ⟨_, (OpVal.pickT rfl rfl rfl), ?_⟩ | refine ⟨_, (OpVal.pickF rfl rfl rfl), ?_⟩) | (refine DOps.valK 25 rfl rfl rfl rfl ?_; first | refine ⟨_, (OpVal.buildS tt_ok rfl rfl rfl rfl rfl rfl rfl rfl), ?_⟩ | refine ⟨_, (OpVal.buildA tt_ok rfl rfl rfl rfl rfl rfl rfl rfl), ?_⟩) | (refine DOps.valK 16 rfl rfl rfl rfl ?_; first | refine ⟨_, (OpVal.neg64 rfl rfl (by omega) (by omega)), ?_⟩ | refine ⟨_, (OpVal.notB rfl rfl), ?_⟩) | (refine DOps.k 12 rfl ?_; first | refine DOps.cmpT rfl rfl rfl rfl rfl rfl rfl (by omega) ?_ | refine DOps.cmpF rfl rfl rfl rfl rfl rfl rfl (by omega) ?_) | (refine DOps.k 29 rfl ?_; refine DOps.alS tt_ok rfl rfl rfl rfl rfl rfl rfl ?_) | (refine DOps.k 31 rfl ?_; refine DOps.store tt_ok rfl rfl rfl rfl rfl rfl rfl rfl (Nat.le_of_ble_eq_true rfl) rfl ?_))
  exact endQ.ret rfl (.cons (.tmp rfl) .nil) (pures_cons trivial pures_nil) rfl
end Go.Proofs.YtpgkbnefhhcfcaaGreatDoor
