/- Layer 15: the fixed calls; what is told of any words. -/
import Derived.Test.YtdneiepigllnkaaDoorLf
namespace Go.Proofs.YtdneiepigllnkaaDoor
open Go Go.RowKit Go.Proofs.YtdneiepigllnkaaDoor.DL
set_option linter.unusedVariables false
set_option linter.unusedSimpArgs false
attribute [local irreducible] DCode DOps OpVal DCalls DCallsM DCallsB thenQ seqQ inBlockQ endQ endQM OpNew

abbrev aba : List (List UInt8) := [[97], [98], [97]]
abbrev abcd : List (List UInt8) := [[97], [98], [99], [100]]
theorem itoa_small {n : Nat} (h : n < 10) : Lib.itoa (n : Int) = [UInt8.ofNat (48 + n)] := by
  rw [Lib.itoa, if_neg (by omega), Int.toNat_natCast, Lib.decDigits_one h]
theorem aba_cnt0 : cnt aba 0 = (1, 2) := by decide
theorem aba_cnt1 : cnt aba 1 = (1, 1) := by decide
theorem aba_cnt2 : cnt aba 2 = (2, 2) := by decide
theorem aba_cnt3 : cnt aba 3 = (0, 0) := by decide
theorem aba_mark0 : mark aba 0 = [97, 94, 49] := by
  rw [mark, aba_cnt0, if_neg (by decide), if_neg (by decide)]
  show pl [97] ++ ([94] ++ Lib.itoa ((1 : Nat) : Int)) = _
  rw [itoa_small (by decide)]; rfl
theorem aba_mark1 : mark aba 1 = [98] := by
  rw [mark, aba_cnt1, if_neg (by decide), if_pos rfl]; rfl
theorem aba_mark2 : mark aba 2 = [97, 94, 50] := by
  rw [mark, aba_cnt2, if_neg (by decide), if_neg (by decide)]
  show pl [97] ++ ([94] ++ Lib.itoa ((2 : Nat) : Int)) = _
  rw [itoa_small (by decide)]; rfl
theorem aba_mark3 : mark aba 3 = [] := by
  rw [mark, aba_cnt3, if_pos rfl]
theorem aba_head : headW aba 0 2 = [97, 94, 49, 32, 98] := by
  rw [headW, if_neg (by decide)]
  have : marks aba (0 : Int).toNat (2 : Int).toNat = [mark aba 0, mark aba 1] := rfl
  rw [this, aba_mark0, aba_mark1]
  rfl
theorem abcd_short : shortW abcd = [97, 32, 46, 46, 46, 32, 100] := rfl
theorem aba_bnd : bnd aba 2097152 := by
  intro x hx
  simp only [aba, List.mem_cons, List.mem_nil_iff, or_false] at hx
  rcases hx with rfl | rfl | rfl <;> decide
theorem abcd_bnd : bnd abcd 2097152 := by
  intro x hx
  simp only [abcd, List.mem_cons, List.mem_nil_iff, or_false] at hx
  rcases hx with rfl | rfl | rfl | rfl <;> decide

set_option maxRecDepth 10000 in
set_option maxHeartbeats 4000000 in
theorem fixed_d : DCalls Tryd.prog 13 [] (fun ts => ts = [bt true]) := by
  have c14 := count_d aba 2 aba_bnd (by decide)
  rw [aba_cnt2] at c14
  have m2 := mark_d aba 2 aba_bnd (by decide)
  rw [aba_mark2] at m2
  have m1 := mark_d aba 1 aba_bnd (by decide)
  rw [aba_mark1] at m1
  have m3 := mark_d aba 3 aba_bnd (by decide)
  rw [aba_mark3] at m3
  have c22 := head_d aba 0 2 aba_bnd (by decide)
  rw [aba_head] at c22
  have c20 := short_d abcd abcd_bnd (by decide)
  rw [abcd_short] at c20
  have c16 : DCalls Tryd.prog 16 [tT [97, 194, 173, 98]] (fun ts => ts = [tT [97, 98]]) := plain_d [97, 194, 173, 98] (by decide)
  refine DCalls.enter tt_ok Tryd.func13 rfl Tryd.ntmps13 (by simp) (by repeat (first | exact pures_nil | refine pures_cons ?_ ?_ | exact pure_sc | exact arr_pure _ | exact Load.pure _ | exact Area.pure _ | exact pure_sl | exact dvs_pure _ | exact pure_aggB rfl)) ?_
  repeat' (first | first | refine q_seq ?_ | refine q_seqX ?_ | refine q_seqR ?_ | refine q_then ?_ | refine q_thenX ?_ | refine q_thenR ?_ | refine q_block ?_ | refine q_blockX ?_ | refine q_blockY rfl ?_ | refine q_blockR ?_ | refine DCode.seq ?_ | refine DCode.region ?_ | refine DCode.block ?_ | refine DCode.skip ?_ | refine DCode.exit ?_ | refine DCode.ret ?_ | refine DCode.condT rfl ?_ | refine DCode.condF rfl ?_ | refine DCode.condD rfl (fun _ => ?_) (fun _ => ?_) | refine DOps.new (r := .v (tL aba)) rfl rfl rfl (OpNew.bsl tt_ok (aba.map dS) _ rfl rfl rfl rfl rfl rfl rfl rfl rfl rfl (strs_flat aba)) ?_ | refine DOps.new (r := .v (tL abcd)) rfl rfl rfl (OpNew.bsl tt_ok (abcd.map dS) _ rfl rfl rfl rfl rfl rfl rfl rfl rfl rfl (strs_flat abcd)) ?_ | refine DOps.call1 (ts := [tL aba, it 2]) rfl rfl rfl rfl rfl Tryd.func14 rfl (by kernel_rfl) rfl (by repeat (first | exact pures_nil | refine pures_cons ?_ ?_ | exact pure_sc | exact arr_pure _ | exact Load.pure _ | exact Area.pure _ | exact pure_sl | exact dvs_pure _ | exact pure_aggB rfl)) (c14) ?_ | refine DOps.call1 (ts := [tL aba, it 2]) rfl rfl rfl rfl rfl Tryd.func18 rfl (by kernel_rfl) rfl (by repeat (first | exact pures_nil | refine pures_cons ?_ ?_ | exact pure_sc | exact arr_pure _ | exact Load.pure _ | exact Area.pure _ | exact pure_sl | exact dvs_pure _ | exact pure_aggB rfl)) (m2) ?_ | refine DOps.call1 (ts := [tL aba, it 1]) rfl rfl rfl rfl rfl Tryd.func18 rfl (by kernel_rfl) rfl (by repeat (first | exact pures_nil | refine pures_cons ?_ ?_ | exact pure_sc | exact arr_pure _ | exact Load.pure _ | exact Area.pure _ | exact pure_sl | exact dvs_pure _ | exact pure_aggB rfl)) (m1) ?_ | refine DOps.call1 (ts := [tL aba, it 3]) rfl rfl rfl rfl rfl Tryd.func18 rfl (by kernel_rfl) rfl (by repeat (first | exact pures_nil | refine pures_cons ?_ ?_ | exact pure_sc | exact arr_pure _ | exact Load.pure _ | exact Area.pure _ | exact pure_sl | exact dvs_pure _ | exact pure_aggB rfl)) (m3) ?_ | refine DOps.call1 (ts := [tL aba, it 0, it 2]) rfl rfl rfl rfl rfl Tryd.func22 rfl (by kernel_rfl) rfl (by repeat (first | exact pures_nil | refine pures_cons ?_ ?_ | exact pure_sc | exact arr_pure _ | exact Load.pure _ | exact Area.pure _ | exact pure_sl | exact dvs_pure _ | exact pure_aggB rfl)) (c22) ?_ | refine DOps.call1 (ts := [tL abcd]) rfl rfl rfl rfl rfl Tryd.func20 rfl (by kernel_rfl) rfl (by repeat (first | exact pures_nil | refine pures_cons ?_ ?_ | exact pure_sc | exact arr_pure _ | exact Load.pure _ | exact Area.pure _ | exact pure_sl | exact dvs_pure _ | exact pure_aggB rfl)) (c20) ?_ | refine DOps.call1 (ts := [tT [97, 194, 173, 98]]) rfl rfl rfl rfl rfl Tryd.func16 rfl (by kernel_rfl) rfl (by repeat (first | exact pures_nil | refine pures_cons ?_ ?_ | exact pure_sc | exact arr_pure _ | exact Load.pure _ | exact Area.pure _ | exact pure_sl | exact dvs_pure _ | exact pure_aggB rfl)) (c16) ?_ | refine DOps.eqST rfl rfl rfl rfl rfl rfl rfl ?_ | first | refine DOps.val rfl rfl rfl (OpVal.ldS tt_ok rfl rfl rfl rfl (Int.toNat_natCast _)) ?_ | refine DOps.nil ?_ | refine DOps.val rfl rfl rfl (OpVal.move rfl rfl) ?_ | refine DOps.val rfl rfl rfl (OpVal.moveT rfl rfl) ?_ | refine DOps.val rfl rfl rfl (OpVal.assign rfl rfl) ?_ | refine DOps.off rfl rfl rfl ?_ | refine DOps.cmpT rfl rfl rfl rfl rfl rfl rfl (by omega) ?_ | refine DOps.cmpF rfl rfl rfl rfl rfl rfl rfl (by omega) ?_ | refine DOps.val rfl rfl rfl (OpVal.add rfl rfl rfl (by omega) (by omega)) ?_ | refine DOps.val rfl rfl rfl (OpVal.sub rfl rfl rfl (by omega) (by omega)) ?_ | refine DOps.val rfl rfl rfl (OpVal.neg64 rfl rfl (by omega) (by omega)) ?_ | refine DOps.val rfl rfl rfl (OpVal.arith rfl rfl rfl rfl) ?_ | refine DOps.val rfl rfl rfl (OpVal.pickT rfl rfl rfl) ?_ | refine DOps.val rfl rfl rfl (OpVal.pickF rfl rfl rfl) ?_ | refine DOps.val rfl rfl rfl (OpVal.notB rfl rfl) ?_ | refine DOps.val rfl rfl rfl (OpVal.extract rfl rfl rfl) ?_ | refine DOps.val rfl rfl rfl (OpVal.fa tt_ok rfl rfl rfl rfl rfl rfl) ?_ | refine DOps.val rfl rfl rfl (OpVal.faD tt_ok rfl rfl rfl rfl rfl rfl) ?_ | refine DOps.val rfl rfl rfl (OpVal.load1 tt_ok rfl rfl rfl rfl rfl rfl) ?_ | refine DOps.val rfl rfl rfl (OpVal.lenD tt_ok rfl rfl rfl rfl rfl rfl rfl) ?_ | refine DOps.val rfl rfl rfl (OpVal.iaA tt_ok rfl rfl rfl rfl rfl (by omega) (by omega)) ?_ | refine DOps.val rfl rfl rfl (OpVal.iaD tt_ok rfl rfl rfl rfl rfl rfl (by omega) (by omega)) ?_ | refine DOps.val rfl rfl rfl (OpVal.iaDA tt_ok rfl rfl rfl rfl rfl (by omega) (by omega)) ?_ | refine DOps.val rfl rfl rfl (OpVal.nilCheckP rfl rfl) ?_ | refine DOps.val rfl rfl rfl (OpVal.nilCheckD rfl rfl) ?_ | refine DOps.val rfl rfl rfl (OpVal.buildS tt_ok rfl rfl rfl rfl rfl rfl rfl rfl) ?_ | refine DOps.val rfl rfl rfl (OpVal.buildA tt_ok rfl rfl rfl rfl rfl rfl rfl rfl) ?_ | refine DOps.boxS rfl rfl rfl rfl rfl rfl ?_ | refine DOps.alS tt_ok rfl rfl rfl rfl rfl rfl rfl ?_ | refine DOps.store tt_ok rfl rfl rfl rfl rfl rfl rfl rfl (Nat.le_of_ble_eq_true rfl) rfl ?_ | refine DOps.val rfl rfl rfl (OpVal.lenT tt_ok rfl rfl rfl rfl rfl rfl rfl) ?_ | refine DOps.val rfl rfl rfl (OpVal.cat rfl rfl rfl (by (try simp only [List.length_append, List.length_cons, List.length_nil, List.length_take, List.length_drop]); omega)) ?_ | refine DOps.val rfl rfl rfl (OpVal.lenRow tt_ok rfl rfl rfl rfl rfl rfl rfl rfl) ?_ | refine DOps.val rfl rfl rfl (OpVal.eqlST rfl rfl rfl (by first | assumption | with_reducible rfl)) ?_ | refine DOps.val rfl rfl rfl (OpVal.eqlSF rfl rfl rfl (by first | assumption | with_reducible rfl)) ?_ | refine DOps.val rfl rfl rfl (OpVal.neqST rfl rfl rfl (by first | assumption | with_reducible rfl)) ?_ | refine DOps.val rfl rfl rfl (OpVal.neqSF rfl rfl rfl (by first | assumption | with_reducible rfl)) ?_)
  exact endQ.ret rfl (.cons (.tmp rfl) .nil) (pures_cons trivial pures_nil) rfl
end Go.Proofs.YtdneiepigllnkaaDoor
