/- Layer 17: the fixed calls; RefsPages' walk. -/
import Derived.Test.YtdneiepigllnkaaDoorRF
import Derived.Test.YtdneiepigllnkaaDoorRG
namespace Go.Proofs.YtdneiepigllnkaaDoor
open Go Go.RowKit Go.Proofs.YtdneiepigllnkaaDoor.DL
set_option linter.unusedVariables false
set_option linter.unusedSimpArgs false
attribute [local irreducible] DCode DOps OpVal DCalls DCallsM DCallsB thenQ seqQ inBlockQ endQ endQM OpNew

abbrev six : List Rf := [⟨3, 5, 0⟩, ⟨3, 7, 0⟩, ⟨3, 5, 0⟩, ⟨3, 5, 0⟩, ⟨3, 6, 1⟩, ⟨3, 6, 2⟩]
abbrev three17 : List (List UInt8) := [[51, 46, 53, 45, 55], [], [54, 58, 49, 45, 58, 50]]
theorem fm17 (n : Nat) (h : n < 10) : Lib.itoa (n : Int) = [UInt8.ofNat (48 + n)] := by
  rw [itoa_nat, Lib.decDigits_one h]
theorem all17 : allW six = three17 := by
  have e3 := fm17 3 (by decide)
  have e5 := fm17 5 (by decide)
  have e7 := fm17 7 (by decide)
  have e6 := fm17 6 (by decide)
  have e1 := fm17 1 (by decide)
  have e2 := fm17 2 (by decide)
  show [refW six 0, refW six 1, refW six 2] = _
  have r0 : refW six 0 = [51, 46, 53, 45, 55] := by
    show fmtW ⟨3, 5, 0⟩ ⟨3, 7, 0⟩ rf0 false = _
    rw [fmtW, if_neg (by decide)]
    show (Lib.itoa ((3 : Nat) : Int) ++ [46]) ++ Lib.itoa ((5 : Nat) : Int) ++ ([45] ++ Lib.itoa ((7 : Nat) : Int)) = _
    rw [e3, e5, e7]; rfl
  have r1 : refW six 1 = [] := by
    show fmtW ⟨3, 5, 0⟩ ⟨3, 5, 0⟩ ⟨3, 5, 0⟩ true = _
    rw [fmtW, if_pos (by decide)]
  have r2 : refW six 2 = [54, 58, 49, 45, 58, 50] := by
    show fmtW ⟨3, 6, 1⟩ ⟨3, 6, 2⟩ ⟨3, 5, 0⟩ true = _
    rw [fmtW, if_neg (by decide)]
    show [] ++ (Lib.itoa ((6 : Nat) : Int) ++ [58] ++ Lib.itoa ((1 : Nat) : Int)) ++ ([45, 58] ++ Lib.itoa ((2 : Nat) : Int)) = _
    rw [e6, e1, e2]; rfl
  rw [r0, r1, r2]
theorem dec17a : decW [54, 58, 49, 45, 52, 46, 49] ⟨3, 5, 0⟩ true = (⟨3, 6, 1⟩, ⟨4, 1, 0⟩, true) := by
  refine decW_of ⟨.inl rfl, by decide, by decide, fun _ => by decide, ?_⟩
  rw [fmtW, if_neg (by decide)]
  show [] ++ (Lib.itoa ((6 : Nat) : Int) ++ [58] ++ Lib.itoa ((1 : Nat) : Int)) ++ ([45] ++ Lib.itoa ((4 : Nat) : Int) ++ [46] ++ Lib.itoa ((1 : Nat) : Int)) = _
  rw [fm17 6 (by decide), fm17 1 (by decide), fm17 4 (by decide)]; rfl
theorem dec17b : decW [51, 46, 54] ⟨3, 5, 0⟩ true = (rf0, rf0, false) := by
  refine decW_no fun a b h => ?_
  -- it would have to be read as page 3, line 6
  have e := decP_back h
  have e6 := numW_itoa (n := 6) (by decide)
  have e3 := numW_itoa (n := 3) (by decide)
  rw [show Lib.itoa 6 = [54] from fm17 6 (by decide)] at e6
  rw [show Lib.itoa 3 = [51] from fm17 3 (by decide)] at e3
  have c1 : Lib.cut [51, 46, 54] [45] = ([51, 46, 54], [], false) := cut_none (by decide)
  have c2 : Lib.cut [51, 46, 54] [46] = ([51], [54], true) := cut_hit (c := 46) (x := [51]) (y := [54]) (by decide)
  have c3 : Lib.cut [54] [58] = ([54], [], false) := cut_none (by decide)
  have hp : placeW [51, 46, 54] ⟨3, 5, 0⟩ = (⟨3, 6, 0⟩, true) := by
    unfold placeW
    simp [c2, c3, e3, e6]
  have hd : decP [51, 46, 54] ⟨3, 5, 0⟩ = (⟨3, 6, 0⟩, ⟨3, 6, 0⟩, true) := by
    unfold decP
    simp [c1, hp]
  rw [hd] at e
  simp only [Prod.mk.injEq] at e
  obtain ⟨rfl, rfl, _⟩ := e
  have hf := h.2.2.2.2
  rw [fmtW, if_neg (by decide)] at hf
  change [] ++ Lib.itoa ((6 : Nat) : Int) ++ [] = _ at hf
  rw [fm17 6 (by decide)] at hf
  exact absurd hf (by decide)

set_option maxRecDepth 10000 in
set_option maxHeartbeats 8000000 in
theorem fixed17_d : DCalls Tryd.prog 26 [] (fun ts => ts = [bt true]) := by
  have a50 := at_d 5 0
  have a70 := at_d 7 0
  have a61 := at_d 6 1
  have a62 := at_d 6 2
  have a11 := at_d 1 1
  have d1 := decode_d [54, 58, 49, 45, 52, 46, 49] ⟨3, 5, 0⟩ true (by decide)
  rw [dec17a] at d1
  have d2 := decode_d [51, 46, 54] ⟨3, 5, 0⟩ true (by decide)
  rw [dec17b] at d2
  have c30 := all_d six (by decide)
  rw [all17] at c30
  have c29 := texts_d three17 three17 (by decide) (by decide)
  rw [decide_eq_true rfl] at c29
  have m := may_T (r := ⟨3, 1, 1⟩) (by decide)
  simp only [] at d1 d2
  refine DCalls.enter tt_ok Tryd.func26 rfl Tryd.ntmps26 (by simp) (by repeat (first | exact pures_nil | refine pures_cons ?_ ?_ | exact trivial | exact pure_aggB rfl | exact arr_pure _ | exact Load.pure _ | exact Area.pure _ | exact dvs_pure _ | exact pure_sc | exact pure_sl)) ?_
  repeat' (first | refine q_seq ?_ | refine q_seqX ?_ | refine q_seqR ?_ | refine q_then ?_ | refine q_thenX ?_ | refine q_thenR ?_ | refine q_block ?_ | refine q_blockX ?_ | refine q_blockY rfl ?_ | refine q_blockR ?_ | refine DCode.seq ?_ | refine DCode.region ?_ | refine DCode.block ?_ | refine DCode.skip ?_ | refine DCode.exit ?_ | refine DCode.ret ?_ | refine DCode.condT rfl ?_ | refine DCode.condF rfl ?_ | refine DCode.condD rfl (fun _ => ?_) (fun _ => ?_) | refine DOps.nil ?_ | refine DOps.off rfl rfl rfl ?_ | first | refine DOps.new (r := .v (tR six)) rfl rfl rfl (OpNew.bsl tt_ok (six.flatMap Rf.dv) _ rfl rfl rfl rfl rfl rfl rfl rfl rfl rfl (refs_flat six)) ?_ | refine DOps.call1 (ts := [it 5, it 0]) rfl rfl rfl rfl rfl Tryd.func41 rfl (by kernel_rfl) rfl (by repeat (first | exact pures_nil | refine pures_cons ?_ ?_ | exact trivial | exact pure_aggB rfl | exact arr_pure _ | exact Load.pure _ | exact Area.pure _ | exact dvs_pure _ | exact pure_sc | exact pure_sl)) (a50) ?_ | refine DOps.call1 (ts := [it 7, it 0]) rfl rfl rfl rfl rfl Tryd.func41 rfl (by kernel_rfl) rfl (by repeat (first | exact pures_nil | refine pures_cons ?_ ?_ | exact trivial | exact pure_aggB rfl | exact arr_pure _ | exact Load.pure _ | exact Area.pure _ | exact dvs_pure _ | exact pure_sc | exact pure_sl)) (a70) ?_ | refine DOps.call1 (ts := [it 6, it 1]) rfl rfl rfl rfl rfl Tryd.func41 rfl (by kernel_rfl) rfl (by repeat (first | exact pures_nil | refine pures_cons ?_ ?_ | exact trivial | exact pure_aggB rfl | exact arr_pure _ | exact Load.pure _ | exact Area.pure _ | exact dvs_pure _ | exact pure_sc | exact pure_sl)) (a61) ?_ | refine DOps.call1 (ts := [it 6, it 2]) rfl rfl rfl rfl rfl Tryd.func41 rfl (by kernel_rfl) rfl (by repeat (first | exact pures_nil | refine pures_cons ?_ ?_ | exact trivial | exact pure_aggB rfl | exact arr_pure _ | exact Load.pure _ | exact Area.pure _ | exact dvs_pure _ | exact pure_sc | exact pure_sl)) (a62) ?_ | refine DOps.call1 (ts := [tT [54, 58, 49, 45, 52, 46, 49], Rf.tv ⟨3, 5, 0⟩, bt true]) rfl rfl rfl rfl rfl Tryd.func34 rfl (by kernel_rfl) rfl (by repeat (first | exact pures_nil | refine pures_cons ?_ ?_ | exact trivial | exact pure_aggB rfl | exact arr_pure _ | exact Load.pure _ | exact Area.pure _ | exact dvs_pure _ | exact pure_sc | exact pure_sl)) (d1) ?_ | refine DOps.call1 (ts := [tT [51, 46, 54], Rf.tv ⟨3, 5, 0⟩, bt true]) rfl rfl rfl rfl rfl Tryd.func34 rfl (by kernel_rfl) rfl (by repeat (first | exact pures_nil | refine pures_cons ?_ ?_ | exact trivial | exact pure_aggB rfl | exact arr_pure _ | exact Load.pure _ | exact Area.pure _ | exact dvs_pure _ | exact pure_sc | exact pure_sl)) (d2) ?_ | refine DOps.call1 (ts := [tR six]) rfl rfl rfl rfl rfl Tryd.func30 rfl (by kernel_rfl) rfl (by repeat (first | exact pures_nil | refine pures_cons ?_ ?_ | exact trivial | exact pure_aggB rfl | exact arr_pure _ | exact Load.pure _ | exact Area.pure _ | exact dvs_pure _ | exact pure_sc | exact pure_sl)) (c30) ?_ | first | (refine DOps.valE rfl rfl rfl ?_; first | refine ⟨_, (OpVal.ldS tt_ok rfl rfl rfl rfl (Int.toNat_natCast _)), ?_⟩ | refine ⟨_, (OpVal.move rfl rfl), ?_⟩ | refine ⟨_, (OpVal.moveT rfl rfl), ?_⟩ | refine ⟨_, (OpVal.assign rfl rfl), ?_⟩ | refine ⟨_, (OpVal.add rfl rfl rfl (by omega) (by omega)), ?_⟩ | refine ⟨_, (OpVal.sub rfl rfl rfl (by omega) (by omega)), ?_⟩ | refine ⟨_, (OpVal.neg64 rfl rfl (by omega) (by omega)), ?_⟩ | refine ⟨_, (OpVal.arith rfl rfl rfl rfl), ?_⟩ | refine ⟨_, (OpVal.pickT rfl rfl rfl), ?_⟩ | refine ⟨_, (OpVal.pickF rfl rfl rfl), ?_⟩ | refine ⟨_, (OpVal.notB rfl rfl), ?_⟩ | refine ⟨_, (OpVal.extract rfl rfl rfl), ?_⟩ | refine ⟨_, (OpVal.fa tt_ok rfl rfl rfl rfl rfl rfl), ?_⟩ | refine ⟨_, (OpVal.faD tt_ok rfl rfl rfl rfl rfl rfl), ?_⟩ | refine ⟨_, (OpVal.load1 tt_ok rfl rfl rfl rfl rfl rfl), ?_⟩ | refine ⟨_, (OpVal.lenD tt_ok rfl rfl rfl rfl rfl rfl rfl), ?_⟩ | refine ⟨_, (OpVal.iaA tt_ok rfl rfl rfl rfl rfl (by omega) (by omega)), ?_⟩ | refine ⟨_, (OpVal.iaD tt_ok rfl rfl rfl rfl rfl rfl (by omega) (by omega)), ?_⟩ | refine ⟨_, (OpVal.iaDA tt_ok rfl rfl rfl rfl rfl (by omega) (by omega)), ?_⟩ | refine ⟨_, (OpVal.nilCheckP rfl rfl), ?_⟩ | refine ⟨_, (OpVal.nilCheckD rfl rfl), ?_⟩ | refine ⟨_, (OpVal.buildS tt_ok rfl rfl rfl rfl rfl rfl rfl rfl), ?_⟩ | refine ⟨_, (OpVal.buildA tt_ok rfl rfl rfl rfl rfl rfl rfl rfl), ?_⟩ | refine ⟨_, (OpVal.lenT tt_ok rfl rfl rfl rfl rfl rfl rfl), ?_⟩ | refine ⟨_, (OpVal.cat rfl rfl rfl (by (try simp only [List.length_append, List.length_cons, List.length_nil, List.length_take, List.length_drop]); omega)), ?_⟩ | refine ⟨_, (OpVal.lenRow tt_ok rfl rfl rfl rfl rfl rfl rfl rfl), ?_⟩ | refine ⟨_, (OpVal.eqlST rfl rfl rfl (by first | assumption | with_reducible rfl)), ?_⟩ | refine ⟨_, (OpVal.eqlSF rfl rfl rfl (by first | assumption | with_reducible rfl)), ?_⟩ | refine ⟨_, (OpVal.neqST rfl rfl rfl (by first | assumption | with_reducible rfl)), ?_⟩ | refine ⟨_, (OpVal.neqSF rfl rfl rfl (by first | assumption | with_reducible rfl)), ?_⟩) | refine DOps.cmpT rfl rfl rfl rfl rfl rfl rfl (by omega) ?_ | refine DOps.cmpF rfl rfl rfl rfl rfl rfl rfl (by omega) ?_ | refine DOps.boxS rfl rfl rfl rfl rfl rfl ?_ | refine DOps.alS tt_ok rfl rfl rfl rfl rfl rfl rfl ?_ | refine DOps.store tt_ok rfl rfl rfl rfl rfl rfl rfl rfl (Nat.le_of_ble_eq_true rfl) rfl ?_)
  refine DCode.draw 24 (by kernel_rfl) (by kernel_rfl) ?_
  repeat (first | refine DDr.off rfl rfl rfl ?_ | refine DDr.new (r := .v (tL three17)) rfl rfl rfl (OpNew.bsl tt_ok (three17.map dS) _ rfl rfl rfl rfl rfl rfl rfl rfl rfl rfl (strs_flat three17)) ?_ | refine DDr.call (ts := [tL three17, tL three17]) rfl rfl rfl rfl rfl Tryd.func29 rfl (by kernel_rfl) rfl (by repeat (first | exact pures_nil | refine pures_cons ?_ ?_ | exact trivial | exact pure_aggB rfl | exact arr_pure _ | exact Load.pure _ | exact Area.pure _ | exact dvs_pure _ | exact pure_sc | exact pure_sl)) (c29) ?_ | refine DDr.call (ts := [it 6, it 1]) rfl rfl rfl rfl rfl Tryd.func41 rfl (by kernel_rfl) rfl (by repeat (first | exact pures_nil | refine pures_cons ?_ ?_ | exact trivial | exact pure_aggB rfl | exact arr_pure _ | exact Load.pure _ | exact Area.pure _ | exact dvs_pure _ | exact pure_sc | exact pure_sl)) (a61) ?_ | refine DDr.call (ts := [it 1, it 1]) rfl rfl rfl rfl rfl Tryd.func41 rfl (by kernel_rfl) rfl (by repeat (first | exact pures_nil | refine pures_cons ?_ ?_ | exact trivial | exact pure_aggB rfl | exact arr_pure _ | exact Load.pure _ | exact Area.pure _ | exact dvs_pure _ | exact pure_sc | exact pure_sl)) (a11) ?_ | refine DDr.call (ts := [Rf.tv ⟨3, 1, 1⟩]) rfl rfl rfl rfl rfl Tryd.func32 rfl (by kernel_rfl) rfl (by repeat (first | exact pures_nil | refine pures_cons ?_ ?_ | exact trivial | exact pure_aggB rfl | exact arr_pure _ | exact Load.pure _ | exact Area.pure _ | exact dvs_pure _ | exact pure_sc | exact pure_sl)) (m) ?_ | first | (refine DDr.valE rfl rfl rfl ?_; first | refine ⟨.v (Rf.tv ⟨3, 6, 1⟩), (OpVal.cast (OpVal.load (b := 1) tt_ok rfl rfl rfl rfl rfl rfl) rfl), ?_⟩ | refine ⟨.v (Rf.tv ⟨4, 1, 0⟩), (OpVal.cast (OpVal.load (b := 2) tt_ok rfl rfl rfl rfl rfl rfl) rfl), ?_⟩ | refine ⟨vB true, (OpVal.eqlA (xs := (⟨3, 6, 1⟩ : Rf).cs) (ys := (⟨3, 6, 1⟩ : Rf).cs) rfl rfl rfl (by kernel_rfl) (rf_eqT rfl)), ?_⟩ | refine ⟨vB true, (OpVal.eqlA (xs := (⟨4, 1, 0⟩ : Rf).cs) (ys := (⟨4, 1, 0⟩ : Rf).cs) rfl rfl rfl (by kernel_rfl) (rf_eqT rfl)), ?_⟩ | refine ⟨_, (OpVal.ldS tt_ok rfl rfl rfl rfl (Int.toNat_natCast _)), ?_⟩ | refine ⟨_, (OpVal.move rfl rfl), ?_⟩ | refine ⟨_, (OpVal.moveT rfl rfl), ?_⟩ | refine ⟨_, (OpVal.assign rfl rfl), ?_⟩ | refine ⟨_, (OpVal.add rfl rfl rfl (by omega) (by omega)), ?_⟩ | refine ⟨_, (OpVal.sub rfl rfl rfl (by omega) (by omega)), ?_⟩ | refine ⟨_, (OpVal.neg64 rfl rfl (by omega) (by omega)), ?_⟩ | refine ⟨_, (OpVal.arith rfl rfl rfl rfl), ?_⟩ | refine ⟨_, (OpVal.pickT rfl rfl rfl), ?_⟩ | refine ⟨_, (OpVal.pickF rfl rfl rfl), ?_⟩ | refine ⟨_, (OpVal.notB rfl rfl), ?_⟩ | refine ⟨_, (OpVal.extract rfl rfl rfl), ?_⟩ | refine ⟨_, (OpVal.fa tt_ok rfl rfl rfl rfl rfl rfl), ?_⟩ | refine ⟨_, (OpVal.faD tt_ok rfl rfl rfl rfl rfl rfl), ?_⟩ | refine ⟨_, (OpVal.load1 tt_ok rfl rfl rfl rfl rfl rfl), ?_⟩ | refine ⟨_, (OpVal.lenD tt_ok rfl rfl rfl rfl rfl rfl rfl), ?_⟩ | refine ⟨_, (OpVal.iaA tt_ok rfl rfl rfl rfl rfl (by omega) (by omega)), ?_⟩ | refine ⟨_, (OpVal.iaD tt_ok rfl rfl rfl rfl rfl rfl (by omega) (by omega)), ?_⟩ | refine ⟨_, (OpVal.iaDA tt_ok rfl rfl rfl rfl rfl (by omega) (by omega)), ?_⟩ | refine ⟨_, (OpVal.nilCheckP rfl rfl), ?_⟩ | refine ⟨_, (OpVal.nilCheckD rfl rfl), ?_⟩ | refine ⟨_, (OpVal.buildS tt_ok rfl rfl rfl rfl rfl rfl rfl rfl), ?_⟩ | refine ⟨_, (OpVal.buildA tt_ok rfl rfl rfl rfl rfl rfl rfl rfl), ?_⟩ | refine ⟨_, (OpVal.lenT tt_ok rfl rfl rfl rfl rfl rfl rfl), ?_⟩ | refine ⟨_, (OpVal.cat rfl rfl rfl (by (try simp only [List.length_append, List.length_cons, List.length_nil, List.length_take, List.length_drop]); omega)), ?_⟩ | refine ⟨_, ((OpVal.cmp rfl rfl rfl rfl).1 (by omega)), ?_⟩ | refine ⟨_, ((OpVal.cmp rfl rfl rfl rfl).2 (by omega)), ?_⟩ | refine ⟨_, (OpVal.eqlST rfl rfl rfl (by first | assumption | with_reducible rfl)), ?_⟩ | refine ⟨_, (OpVal.eqlSF rfl rfl rfl (by first | assumption | with_reducible rfl)), ?_⟩ | refine ⟨_, (OpVal.neqST rfl rfl rfl (by first | assumption | with_reducible rfl)), ?_⟩ | refine ⟨_, (OpVal.neqSF rfl rfl rfl (by first | assumption | with_reducible rfl)), ?_⟩))
  refine DDr.done ?_
  repeat' (first | refine q_seq ?_ | refine q_seqX ?_ | refine q_seqR ?_ | refine q_then ?_ | refine q_thenX ?_ | refine q_thenR ?_ | refine q_block ?_ | refine q_blockX ?_ | refine q_blockY rfl ?_ | refine q_blockR ?_ | refine DCode.seq ?_ | refine DCode.region ?_ | refine DCode.block ?_ | refine DCode.skip ?_ | refine DCode.exit ?_ | refine DCode.ret ?_ | refine DCode.condT rfl ?_ | refine DCode.condF rfl ?_ | refine DCode.condD rfl (fun _ => ?_) (fun _ => ?_) | refine DOps.nil ?_ | refine DOps.off rfl rfl rfl ?_ | first | first | (refine DOps.valE rfl rfl rfl ?_; first | refine ⟨_, (OpVal.ldS tt_ok rfl rfl rfl rfl (Int.toNat_natCast _)), ?_⟩ | refine ⟨_, (OpVal.move rfl rfl), ?_⟩ | refine ⟨_, (OpVal.moveT rfl rfl), ?_⟩ | refine ⟨_, (OpVal.assign rfl rfl), ?_⟩ | refine ⟨_, (OpVal.add rfl rfl rfl (by omega) (by omega)), ?_⟩ | refine ⟨_, (OpVal.sub rfl rfl rfl (by omega) (by omega)), ?_⟩ | refine ⟨_, (OpVal.neg64 rfl rfl (by omega) (by omega)), ?_⟩ | refine ⟨_, (OpVal.arith rfl rfl rfl rfl), ?_⟩ | refine ⟨_, (OpVal.pickT rfl rfl rfl), ?_⟩ | refine ⟨_, (OpVal.pickF rfl rfl rfl), ?_⟩ | refine ⟨_, (OpVal.notB rfl rfl), ?_⟩ | refine ⟨_, (OpVal.extract rfl rfl rfl), ?_⟩ | refine ⟨_, (OpVal.fa tt_ok rfl rfl rfl rfl rfl rfl), ?_⟩ | refine ⟨_, (OpVal.faD tt_ok rfl rfl rfl rfl rfl rfl), ?_⟩ | refine ⟨_, (OpVal.load1 tt_ok rfl rfl rfl rfl rfl rfl), ?_⟩ | refine ⟨_, (OpVal.lenD tt_ok rfl rfl rfl rfl rfl rfl rfl), ?_⟩ | refine ⟨_, (OpVal.iaA tt_ok rfl rfl rfl rfl rfl (by omega) (by omega)), ?_⟩ | refine ⟨_, (OpVal.iaD tt_ok rfl rfl rfl rfl rfl rfl (by omega) (by omega)), ?_⟩ | refine ⟨_, (OpVal.iaDA tt_ok rfl rfl rfl rfl rfl (by omega) (by omega)), ?_⟩ | refine ⟨_, (OpVal.nilCheckP rfl rfl), ?_⟩ | refine ⟨_, (OpVal.nilCheckD rfl rfl), ?_⟩ | refine ⟨_, (OpVal.buildS tt_ok rfl rfl rfl rfl rfl rfl rfl rfl), ?_⟩ | refine ⟨_, (OpVal.buildA tt_ok rfl rfl rfl rfl rfl rfl rfl rfl), ?_⟩ | refine ⟨_, (OpVal.lenT tt_ok rfl rfl rfl rfl rfl rfl rfl), ?_⟩ | refine ⟨_, (OpVal.cat rfl rfl rfl (by (try simp only [List.length_append, List.length_cons, List.length_nil, List.length_take, List.length_drop]); omega)), ?_⟩ | refine ⟨_, (OpVal.lenRow tt_ok rfl rfl rfl rfl rfl rfl rfl rfl), ?_⟩ | refine ⟨_, (OpVal.eqlST rfl rfl rfl (by first | assumption | with_reducible rfl)), ?_⟩ | refine ⟨_, (OpVal.eqlSF rfl rfl rfl (by first | assumption | with_reducible rfl)), ?_⟩ | refine ⟨_, (OpVal.neqST rfl rfl rfl (by first | assumption | with_reducible rfl)), ?_⟩ | refine ⟨_, (OpVal.neqSF rfl rfl rfl (by first | assumption | with_reducible rfl)), ?_⟩) | refine DOps.cmpT rfl rfl rfl rfl rfl rfl rfl (by omega) ?_ | refine DOps.cmpF rfl rfl rfl rfl rfl rfl rfl (by omega) ?_ | refine DOps.boxS rfl rfl rfl rfl rfl rfl ?_ | refine DOps.alS tt_ok rfl rfl rfl rfl rfl rfl rfl ?_ | refine DOps.store tt_ok rfl rfl rfl rfl rfl rfl rfl rfl (Nat.le_of_ble_eq_true rfl) rfl ?_)
  exact endQ.ret rfl (.cons (.tmp rfl) .nil) (pures_cons trivial pures_nil) rfl
end Go.Proofs.YtdneiepigllnkaaDoor
