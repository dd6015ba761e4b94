/- law25, the reference: numbers, boxes that may be: the walks. -/
import Derived.Test.YtejdeonbibbchaaGreatDoorHh
import Derived.Test.YtejdeonbibbchaaGreatDoorD41
import Derived.Test.YtejdeonbibbchaaGreatDoorHf

set_option linter.unusedVariables false
set_option linter.unusedSimpArgs false
set_option linter.constructorNameAsVariable false
namespace Go.Proofs.YtejdeonbibbchaaGreatDoor
open Go Go.RowKit Go.Proofs.YtejdeonbibbchaaGreatDoor.DL
set_option linter.unusedVariables false
set_option linter.unusedSimpArgs false
attribute [local irreducible] DCode DOps OpVal DCalls DCallsM DCallsB DCallsR thenQ seqQ inBlockQ endQ endQM OpNew DCf

set_option maxRecDepth 10000 in
set_option maxHeartbeats 8000000 in
theorem most_d : DCalls Tryz.prog 60 [] (fun ts => ts = [it 1073741823]) := by
  refine DCalls.enter tt_ok Tryz.func60 rfl Tryz.ntmps60 (by simp) pures_nil ?_
  repeat (first | refine q_seq ?_ | refine DCode.seq ?_ | refine DCode.region ?_ | refine DCode.ret ?_ | refine DOps.nil ?_ | (refine DOps.valK 1 rfl rfl rfl rfl ?_; first | refine ⟨_, (OpVal.assign rfl rfl), ?_⟩))
  exact endQ.ret rfl (.cons (.tmp rfl) .nil) (pures_cons trivial pures_nil) rfl
set_option maxRecDepth 10000 in
set_option maxHeartbeats 8000000 in
theorem rfits_d (n : Int) : DCalls Tryz.prog 45 [it n] (fun ts => ts = [bt (fitsB n)]) := by
  have cm := most_d
  refine DCalls.enter tt_ok Tryz.func45 rfl Tryz.ntmps45 (by simp) (by repeat (first | exact pures_nil | refine pures_cons ?_ ?_ | exact trivial | exact pure_aggB rfl | exact arr_pure _ | exact Load.pure _ | exact Area.pure _ | exact dvs_pure _ | exact pure_sc | exact pure_sl)) ?_
  by_cases h1 : -1073741823 ≤ n
  · by_cases h2 : n ≤ 1073741823
    · rw [fits_iff.2 ⟨h1, h2⟩]
      repeat (first | refine q_seq ?_ | refine DCode.seq ?_ | refine DCode.region ?_ | refine DCode.ret ?_ | refine DOps.call1 (ts := []) rfl rfl rfl rfl rfl Tryz.func60 rfl (by kernel_rfl) rfl (by repeat (first | exact pures_nil | refine pures_cons ?_ ?_ | exact trivial | exact pure_aggB rfl | exact arr_pure _ | exact Load.pure _ | exact Area.pure _ | exact dvs_pure _ | exact pure_sc | exact pure_sl)) (cm) ?_ | refine DOps.nil ?_ | (refine DOps.valK 0 rfl rfl rfl rfl ?_; first | refine ⟨_, (OpVal.move rfl rfl), ?_⟩) | (refine DOps.valK 1 rfl rfl rfl rfl ?_; first | refine ⟨_, (OpVal.assign rfl rfl), ?_⟩) | (refine DOps.valK 2 rfl rfl rfl rfl ?_; first | refine ⟨_, (OpVal.pickT rfl rfl rfl), ?_⟩) | (refine DOps.valK 16 rfl rfl rfl rfl ?_; first | refine ⟨_, (OpVal.neg64 rfl rfl (by omega) (by omega)), ?_⟩) | (refine DOps.k 14 rfl ?_; first | refine DOps.cmpT rfl rfl rfl rfl rfl rfl rfl (by omega) ?_ | refine DOps.cmpF rfl rfl rfl rfl rfl rfl rfl (by omega) ?_))
      exact endQ.ret rfl (.cons (.tmp rfl) .nil) (pures_cons trivial pures_nil) rfl
    · rw [fits_not.2 fun h => h2 h.2]
      repeat (first | refine q_seq ?_ | refine DCode.seq ?_ | refine DCode.region ?_ | refine DCode.ret ?_ | refine DOps.call1 (ts := []) rfl rfl rfl rfl rfl Tryz.func60 rfl (by kernel_rfl) rfl (by repeat (first | exact pures_nil | refine pures_cons ?_ ?_ | exact trivial | exact pure_aggB rfl | exact arr_pure _ | exact Load.pure _ | exact Area.pure _ | exact dvs_pure _ | exact pure_sc | exact pure_sl)) (cm) ?_ | refine DOps.nil ?_ | (refine DOps.valK 0 rfl rfl rfl rfl ?_; first | refine ⟨_, (OpVal.move rfl rfl), ?_⟩) | (refine DOps.valK 1 rfl rfl rfl rfl ?_; first | refine ⟨_, (OpVal.assign rfl rfl), ?_⟩) | (refine DOps.valK 2 rfl rfl rfl rfl ?_; first | refine ⟨_, (OpVal.pickT rfl rfl rfl), ?_⟩) | (refine DOps.valK 16 rfl rfl rfl rfl ?_; first | refine ⟨_, (OpVal.neg64 rfl rfl (by omega) (by omega)), ?_⟩) | (refine DOps.k 14 rfl ?_; first | refine DOps.cmpT rfl rfl rfl rfl rfl rfl rfl (by omega) ?_ | refine DOps.cmpF rfl rfl rfl rfl rfl rfl rfl (by omega) ?_))
      exact endQ.ret rfl (.cons (.tmp rfl) .nil) (pures_cons trivial pures_nil) rfl
  · rw [fits_not.2 fun h => h1 h.1]
    repeat (first | refine q_seq ?_ | refine DCode.seq ?_ | refine DCode.region ?_ | refine DCode.ret ?_ | refine DOps.call1 (ts := []) rfl rfl rfl rfl rfl Tryz.func60 rfl (by kernel_rfl) rfl (by repeat (first | exact pures_nil | refine pures_cons ?_ ?_ | exact trivial | exact pure_aggB rfl | exact arr_pure _ | exact Load.pure _ | exact Area.pure _ | exact dvs_pure _ | exact pure_sc | exact pure_sl)) (cm) ?_ | refine DOps.nil ?_ | refine DOps.off rfl rfl rfl ?_ | (refine DOps.valK 0 rfl rfl rfl rfl ?_; first | refine ⟨_, (OpVal.move rfl rfl), ?_⟩) | (refine DOps.valK 1 rfl rfl rfl rfl ?_; first | refine ⟨_, (OpVal.assign rfl rfl), ?_⟩) | (refine DOps.valK 2 rfl rfl rfl rfl ?_; first | refine ⟨_, (OpVal.pickF rfl rfl rfl), ?_⟩) | (refine DOps.valK 16 rfl rfl rfl rfl ?_; first | refine ⟨_, (OpVal.neg64 rfl rfl (by omega) (by omega)), ?_⟩) | (refine DOps.k 14 rfl ?_; first | refine DOps.cmpT rfl rfl rfl rfl rfl rfl rfl (by omega) ?_ | refine DOps.cmpF rfl rfl rfl rfl rfl rfl rfl (by omega) ?_))
    exact endQ.ret rfl (.cons (.tmp rfl) .nil) (pures_cons trivial pures_nil) rfl
set_option maxRecDepth 10000 in
set_option maxHeartbeats 8000000 in
theorem ramount_d (n : Int) : DCalls Tryz.prog 25 [it n] (fun ts => ts = [bt (amt n)]) := by
  have cf := rfits_d n
  refine DCalls.enter tt_ok Tryz.func25 rfl Tryz.ntmps25 (by simp) (by repeat (first | exact pures_nil | refine pures_cons ?_ ?_ | exact trivial | exact pure_aggB rfl | exact arr_pure _ | exact Load.pure _ | exact Area.pure _ | exact dvs_pure _ | exact pure_sc | exact pure_sl)) ?_
  by_cases h0 : 0 ≤ n
  · rw [show amt n = fitsB n by rw [amt, decide_eq_true h0]; rfl]
    repeat (first | refine q_seq ?_ | refine DCode.seq ?_ | refine DCode.region ?_ | refine DCode.ret ?_ | refine DOps.call1 (ts := [it n]) rfl rfl rfl rfl rfl Tryz.func45 rfl (by kernel_rfl) rfl (by repeat (first | exact pures_nil | refine pures_cons ?_ ?_ | exact trivial | exact pure_aggB rfl | exact arr_pure _ | exact Load.pure _ | exact Area.pure _ | exact dvs_pure _ | exact pure_sc | exact pure_sl)) (cf) ?_ | refine DOps.nil ?_ | (refine DOps.valK 0 rfl rfl rfl rfl ?_; first | refine ⟨_, (OpVal.move rfl rfl), ?_⟩) | (refine DOps.valK 1 rfl rfl rfl rfl ?_; first | refine ⟨_, (OpVal.assign rfl rfl), ?_⟩) | (refine DOps.valK 2 rfl rfl rfl rfl ?_; first | refine ⟨_, (OpVal.pickT rfl rfl rfl), ?_⟩) | (refine DOps.k 14 rfl ?_; first | refine DOps.cmpT rfl rfl rfl rfl rfl rfl rfl (by omega) ?_ | refine DOps.cmpF rfl rfl rfl rfl rfl rfl rfl (by omega) ?_))
    exact endQ.ret rfl (.cons (.tmp rfl) .nil) (pures_cons trivial pures_nil) rfl
  · rw [show amt n = false by rw [amt, decide_eq_false h0]; rfl]
    repeat (first | refine q_seq ?_ | refine DCode.seq ?_ | refine DCode.region ?_ | refine DCode.ret ?_ | refine DOps.nil ?_ | refine DOps.off rfl rfl rfl ?_ | (refine DOps.valK 0 rfl rfl rfl rfl ?_; first | refine ⟨_, (OpVal.move rfl rfl), ?_⟩) | (refine DOps.valK 1 rfl rfl rfl rfl ?_; first | refine ⟨_, (OpVal.assign rfl rfl), ?_⟩) | (refine DOps.valK 2 rfl rfl rfl rfl ?_; first | refine ⟨_, (OpVal.pickF rfl rfl rfl), ?_⟩) | (refine DOps.k 14 rfl ?_; first | refine DOps.cmpT rfl rfl rfl rfl rfl rfl rfl (by omega) ?_ | refine DOps.cmpF rfl rfl rfl rfl rfl rfl rfl (by omega) ?_))
    exact endQ.ret rfl (.cons (.tmp rfl) .nil) (pures_cons trivial pures_nil) rfl
set_option maxRecDepth 10000 in
set_option maxHeartbeats 8000000 in
theorem rright_d (f : Fl) (b : Bx) (hl : b.text.length ≤ 9223372036854775806) : DCalls Tryz.prog 26 [f.tv, b.tv] (fun ts => ts = [bt (rightB f b)]) := by
  have c1 := ramount_d b.x
  have c2 := ramount_d b.y
  have c3 := ramount_d b.w
  have c4 := ramount_d b.h
  refine DCalls.enter tt_ok Tryz.func26 rfl Tryz.ntmps26 (by simp) (by repeat (first | exact pures_nil | refine pures_cons ?_ ?_ | exact trivial | exact pure_aggB rfl | exact arr_pure _ | exact Load.pure _ | exact Area.pure _ | exact dvs_pure _ | exact pure_sc | exact pure_sl)) ?_
  repeat (first | refine q_seq ?_ | refine DCode.seq ?_ | refine DCode.region ?_ | refine DCode.block ?_ | refine DOps.nil ?_ | (refine DOps.valK 1 rfl rfl rfl rfl ?_; first | refine ⟨_, (OpVal.assign rfl rfl), ?_⟩) | (refine DOps.k 30 rfl ?_; refine DOps.boxS rfl rfl rfl rfl rfl rfl ?_))
  refine DCode.loopG (fun i : Nat => [(5, vI .i64 (i : Nat))]) [4, 5, 6, 7, 8, 9, 10, 11, 12, 13, 14, 15, 16, 17] (fun _ => []) (fun i => i ≤ b.text.length ∧ (10 : UInt8) ∉ b.text.take i) (fun i => b.text.length - i) 0 ⟨Nat.zero_le _, by simp⟩ (fun i _ => ⟨trivial, trivial⟩) (fun i _ => trivial) (by (repeat (first | exact Off.refl _ _ | refine Sub.base ?_ | refine Sub.junk ?_ | refine Sub.cons (by rfl) ?_ | refine Off.cons rfl ?_ | refine Off.junks rfl ?_))) (by (repeat (first | exact MSubX.nil | refine MSubX.skip rfl ?_ | refine MSubX.cons (by rfl) ?_))) ?_
  intro i ⟨hi, ha⟩
  show DCode _ _ _ _ _ ([(5, vI .i64 (i : Nat))] ++ junks _ _) ([] ++ _)
  by_cases hlt : i < b.text.length
  · obtain ⟨c, hb⟩ : ∃ c, b.text[i]? = some c := ⟨b.text[i], List.getElem?_eq_getElem hlt⟩
    have hmem : c ∈ b.text := List.mem_of_getElem? hb
    by_cases hal : c = 10
    · have hbn : c.toNat = 10 := by rw [hal]; rfl
      rw [hal] at hmem
      rw [show rightB f b = false from Bool.eq_false_iff.2 fun h => (right_iff.1 h).2.2.2.2.2.2.2.2.2.2.2.2.2.2 hmem]
      repeat (first | refine q_seq ?_ | refine q_seqR ?_ | refine q_thenR ?_ | refine q_blockR ?_ | refine DCode.seq ?_ | refine DCode.region ?_ | refine DCode.block ?_ | refine DCode.skip ?_ | refine DCode.ret ?_ | refine DCode.condT rfl ?_ | (refine DOps.valK 21 rfl rfl rfl rfl ?_; refine ⟨_, OpVal.idxT tt_ok rfl rfl rfl rfl rfl (by omega) (by rw [Int.toNat_natCast]; exact hb), ?_⟩) | refine DOps.nil ?_ | (refine DOps.valK 0 rfl rfl rfl rfl ?_; first | refine ⟨_, (OpVal.move rfl rfl), ?_⟩) | (refine DOps.valK 1 rfl rfl rfl rfl ?_; first | refine ⟨_, (OpVal.assign rfl rfl), ?_⟩) | (refine DOps.valK 3 rfl rfl rfl rfl ?_; first | refine ⟨_, (OpVal.load1 tt_ok rfl rfl rfl rfl rfl rfl), ?_⟩) | (refine DOps.valK 18 rfl rfl rfl rfl ?_; first | refine ⟨_, (OpVal.fa tt_ok rfl rfl rfl rfl rfl rfl), ?_⟩) | (refine DOps.valK 17 rfl rfl rfl rfl ?_; first | refine ⟨_, (OpVal.lenT tt_ok rfl rfl rfl rfl rfl rfl rfl), ?_⟩) | (refine DOps.k 12 rfl ?_; first | refine DOps.cmpT rfl rfl rfl rfl rfl rfl rfl (by omega) ?_ | refine DOps.cmpF rfl rfl rfl rfl rfl rfl rfl (by omega) ?_) | (refine DOps.k 14 rfl ?_; first | refine DOps.cmpT rfl rfl rfl rfl rfl rfl rfl (by omega) ?_ | refine DOps.cmpF rfl rfl rfl rfl rfl rfl rfl (by omega) ?_))
      exact endQ.ret rfl (.cons (.tmp rfl) .nil) (pures_cons trivial pures_nil) rfl
    · have hbn : ¬ c.toNat = 10 := fun e => hal (UInt8.toNat_inj.1 e)
      repeat (first | refine q_seq ?_ | refine q_then ?_ | refine q_block ?_ | refine DCode.seq ?_ | refine DCode.region ?_ | refine DCode.block ?_ | refine DCode.skip ?_ | refine DCode.condT rfl ?_ | refine DCode.condF rfl ?_ | (refine DOps.valK 21 rfl rfl rfl rfl ?_; refine ⟨_, OpVal.idxT tt_ok rfl rfl rfl rfl rfl (by omega) (by rw [Int.toNat_natCast]; exact hb), ?_⟩) | refine DOps.nil ?_ | (refine DOps.valK 0 rfl rfl rfl rfl ?_; first | refine ⟨_, (OpVal.move rfl rfl), ?_⟩) | (refine DOps.valK 1 rfl rfl rfl rfl ?_; first | refine ⟨_, (OpVal.assign rfl rfl), ?_⟩) | (refine DOps.valK 3 rfl rfl rfl rfl ?_; first | refine ⟨_, (OpVal.load1 tt_ok rfl rfl rfl rfl rfl rfl), ?_⟩) | (refine DOps.valK 10 rfl rfl rfl rfl ?_; first | refine ⟨_, (OpVal.add rfl rfl rfl (by omega) (by omega)), ?_⟩) | (refine DOps.valK 18 rfl rfl rfl rfl ?_; first | refine ⟨_, (OpVal.fa tt_ok rfl rfl rfl rfl rfl rfl), ?_⟩) | (refine DOps.valK 17 rfl rfl rfl rfl ?_; first | refine ⟨_, (OpVal.lenT tt_ok rfl rfl rfl rfl rfl rfl rfl), ?_⟩) | (refine DOps.k 12 rfl ?_; first | refine DOps.cmpT rfl rfl rfl rfl rfl rfl rfl (by omega) ?_ | refine DOps.cmpF rfl rfl rfl rfl rfl rfl rfl (by omega) ?_) | (refine DOps.k 14 rfl ?_; first | refine DOps.cmpT rfl rfl rfl rfl rfl rfl rfl (by omega) ?_ | refine DOps.cmpF rfl rfl rfl rfl rfl rfl rfl (by omega) ?_))
      exact ⟨i + 1, ⟨hlt, by rw [List.take_add_one, hb]; simpa using ⟨ha, fun e => hal e.symm⟩⟩, by omega, Sub.cons (vI_congr (by omega)) (by (repeat (first | exact Off.refl _ _ | refine Sub.base ?_ | refine Sub.junk ?_ | refine Sub.cons (by rfl) ?_ | refine Off.cons rfl ?_ | refine Off.junks rfl ?_))), by (repeat (first | exact MSubX.nil | refine MSubX.skip rfl ?_ | refine MSubX.cons (by rfl) ?_))⟩
  obtain rfl : i = b.text.length := by omega
  rw [List.take_length] at ha
  cases h1 : amt b.x with
  | false =>
    rw [h1] at c1
    rw [show rightB f b = false from Bool.eq_false_iff.2 fun h => by have := (right_iff.1 h).2.2.2.2.2.2.2.2.1; rw [h1] at this; cases this]
    repeat' (first | refine q_seq ?_ | refine q_seqX ?_ | refine q_seqR ?_ | refine q_thenX ?_ | refine q_blockX ?_ | refine DCode.seq ?_ | refine DCode.region ?_ | refine DCode.skip ?_ | refine DCode.exit ?_ | refine DCode.ret ?_ | refine DCode.condT rfl ?_ | refine DCode.condF rfl ?_ | refine DOps.call1 (ts := [it b.x]) rfl rfl rfl rfl rfl Tryz.func25 rfl (by kernel_rfl) rfl (by repeat (first | exact pures_nil | refine pures_cons ?_ ?_ | exact trivial | exact pure_aggB rfl | exact arr_pure _ | exact Load.pure _ | exact Area.pure _ | exact dvs_pure _ | exact pure_sc | exact pure_sl)) (c1) ?_ | refine DOps.nil ?_ | refine DOps.off rfl rfl rfl ?_ | (refine DOps.valK 0 rfl rfl rfl rfl ?_; first | refine ⟨_, (OpVal.move rfl rfl), ?_⟩) | (refine DOps.valK 1 rfl rfl rfl rfl ?_; first | refine ⟨_, (OpVal.assign rfl rfl), ?_⟩) | (refine DOps.valK 3 rfl rfl rfl rfl ?_; first | refine ⟨_, (OpVal.load1 tt_ok rfl rfl rfl rfl rfl rfl), ?_⟩) | (refine DOps.valK 18 rfl rfl rfl rfl ?_; first | refine ⟨_, (OpVal.fa tt_ok rfl rfl rfl rfl rfl rfl), ?_⟩) | (refine DOps.valK 17 rfl rfl rfl rfl ?_; first | refine ⟨_, (OpVal.lenT tt_ok rfl rfl rfl rfl rfl rfl rfl), ?_⟩) | (refine DOps.valK 2 rfl rfl rfl rfl ?_; first | refine ⟨_, (OpVal.pickT rfl rfl rfl), ?_⟩ | refine ⟨_, (OpVal.pickF rfl rfl rfl), ?_⟩) | (refine DOps.valK 16 rfl rfl rfl rfl ?_; first | refine ⟨_, (OpVal.notB rfl rfl), ?_⟩) | (refine DOps.k 14 rfl ?_; first | refine DOps.cmpT rfl rfl rfl rfl rfl rfl rfl (by omega) ?_ | refine DOps.cmpF rfl rfl rfl rfl rfl rfl rfl (by omega) ?_) | refine DOps.cmp rfl rfl rfl rfl rfl rfl rfl (fun _ => ?_) (fun _ => ?_))
    all_goals exact endQ.ret rfl (.cons (.tmp rfl) .nil) (pures_cons trivial pures_nil) rfl
  | true =>
  cases h2 : amt b.y with
  | false =>
    rw [h1] at c1
    rw [h2] at c2
    rw [show rightB f b = false from Bool.eq_false_iff.2 fun h => by have := (right_iff.1 h).2.2.2.2.2.2.2.2.2.1; rw [h2] at this; cases this]
    repeat' (first | refine q_seq ?_ | refine q_seqX ?_ | refine q_seqR ?_ | refine q_thenX ?_ | refine q_blockX ?_ | refine DCode.seq ?_ | refine DCode.region ?_ | refine DCode.skip ?_ | refine DCode.exit ?_ | refine DCode.ret ?_ | refine DCode.condT rfl ?_ | refine DCode.condF rfl ?_ | refine DOps.call1 (ts := [it b.x]) rfl rfl rfl rfl rfl Tryz.func25 rfl (by kernel_rfl) rfl (by repeat (first | exact pures_nil | refine pures_cons ?_ ?_ | exact trivial | exact pure_aggB rfl | exact arr_pure _ | exact Load.pure _ | exact Area.pure _ | exact dvs_pure _ | exact pure_sc | exact pure_sl)) (c1) ?_ | refine DOps.call1 (ts := [it b.y]) rfl rfl rfl rfl rfl Tryz.func25 rfl (by kernel_rfl) rfl (by repeat (first | exact pures_nil | refine pures_cons ?_ ?_ | exact trivial | exact pure_aggB rfl | exact arr_pure _ | exact Load.pure _ | exact Area.pure _ | exact dvs_pure _ | exact pure_sc | exact pure_sl)) (c2) ?_ | refine DOps.nil ?_ | refine DOps.off rfl rfl rfl ?_ | (refine DOps.valK 0 rfl rfl rfl rfl ?_; first | refine ⟨_, (OpVal.move rfl rfl), ?_⟩) | (refine DOps.valK 1 rfl rfl rfl rfl ?_; first | refine ⟨_, (OpVal.assign rfl rfl), ?_⟩) | (refine DOps.valK 3 rfl rfl rfl rfl ?_; first | refine ⟨_, (OpVal.load1 tt_ok rfl rfl rfl rfl rfl rfl), ?_⟩) | (refine DOps.valK 18 rfl rfl rfl rfl ?_; first | refine ⟨_, (OpVal.fa tt_ok rfl rfl rfl rfl rfl rfl), ?_⟩) | (refine DOps.valK 17 rfl rfl rfl rfl ?_; first | refine ⟨_, (OpVal.lenT tt_ok rfl rfl rfl rfl rfl rfl rfl), ?_⟩) | (refine DOps.valK 2 rfl rfl rfl rfl ?_; first | refine ⟨_, (OpVal.pickT rfl rfl rfl), ?_⟩ | refine ⟨_, (OpVal.pickF rfl rfl rfl), ?_⟩) | (refine DOps.valK 16 rfl rfl rfl rfl ?_; first | refine ⟨_, (OpVal.notB rfl rfl), ?_⟩) | (refine DOps.k 14 rfl ?_; first | refine DOps.cmpT rfl rfl rfl rfl rfl rfl rfl (by omega) ?_ | refine DOps.cmpF rfl rfl rfl rfl rfl rfl rfl (by omega) ?_) | refine DOps.cmp rfl rfl rfl rfl rfl rfl rfl (fun _ => ?_) (fun _ => ?_))
    all_goals exact endQ.ret rfl (.cons (.tmp rfl) .nil) (pures_cons trivial pures_nil) rfl
  | true =>
  cases h3 : amt b.w with
  | false =>
    rw [h1] at c1
    rw [h2] at c2
    rw [h3] at c3
    rw [show rightB f b = false from Bool.eq_false_iff.2 fun h => by have := (right_iff.1 h).2.2.2.2.2.2.2.2.2.2.1; rw [h3] at this; cases this]
    repeat' (first | refine q_seq ?_ | refine q_seqX ?_ | refine q_seqR ?_ | refine q_thenX ?_ | refine q_blockX ?_ | refine DCode.seq ?_ | refine DCode.region ?_ | refine DCode.skip ?_ | refine DCode.exit ?_ | refine DCode.ret ?_ | refine DCode.condT rfl ?_ | refine DCode.condF rfl ?_ | refine DOps.call1 (ts := [it b.x]) rfl rfl rfl rfl rfl Tryz.func25 rfl (by kernel_rfl) rfl (by repeat (first | exact pures_nil | refine pures_cons ?_ ?_ | exact trivial | exact pure_aggB rfl | exact arr_pure _ | exact Load.pure _ | exact Area.pure _ | exact dvs_pure _ | exact pure_sc | exact pure_sl)) (c1) ?_ | refine DOps.call1 (ts := [it b.y]) rfl rfl rfl rfl rfl Tryz.func25 rfl (by kernel_rfl) rfl (by repeat (first | exact pures_nil | refine pures_cons ?_ ?_ | exact trivial | exact pure_aggB rfl | exact arr_pure _ | exact Load.pure _ | exact Area.pure _ | exact dvs_pure _ | exact pure_sc | exact pure_sl)) (c2) ?_ | refine DOps.call1 (ts := [it b.w]) rfl rfl rfl rfl rfl Tryz.func25 rfl (by kernel_rfl) rfl (by repeat (first | exact pures_nil | refine pures_cons ?_ ?_ | exact trivial | exact pure_aggB rfl | exact arr_pure _ | exact Load.pure _ | exact Area.pure _ | exact dvs_pure _ | exact pure_sc | exact pure_sl)) (c3) ?_ | refine DOps.nil ?_ | refine DOps.off rfl rfl rfl ?_ | (refine DOps.valK 0 rfl rfl rfl rfl ?_; first | refine ⟨_, (OpVal.move rfl rfl), ?_⟩) | (refine DOps.valK 1 rfl rfl rfl rfl ?_; first | refine ⟨_, (OpVal.assign rfl rfl), ?_⟩) | (refine DOps.valK 3 rfl rfl rfl rfl ?_; first | refine ⟨_, (OpVal.load1 tt_ok rfl rfl rfl rfl rfl rfl), ?_⟩) | (refine DOps.valK 18 rfl rfl rfl rfl ?_; first | refine ⟨_, (OpVal.fa tt_ok rfl rfl rfl rfl rfl rfl), ?_⟩) | (refine DOps.valK 17 rfl rfl rfl rfl ?_; first | refine ⟨_, (OpVal.lenT tt_ok rfl rfl rfl rfl rfl rfl rfl), ?_⟩) | (refine DOps.valK 2 rfl rfl rfl rfl ?_; first | refine ⟨_, (OpVal.pickT rfl rfl rfl), ?_⟩ | refine ⟨_, (OpVal.pickF rfl rfl rfl), ?_⟩) | (refine DOps.valK 16 rfl rfl rfl rfl ?_; first | refine ⟨_, (OpVal.notB rfl rfl), ?_⟩) | (refine DOps.k 14 rfl ?_; first | refine DOps.cmpT rfl rfl rfl rfl rfl rfl rfl (by omega) ?_ | refine DOps.cmpF rfl rfl rfl rfl rfl rfl rfl (by omega) ?_) | refine DOps.cmp rfl rfl rfl rfl rfl rfl rfl (fun _ => ?_) (fun _ => ?_))
    all_goals exact endQ.ret rfl (.cons (.tmp rfl) .nil) (pures_cons trivial pures_nil) rfl
  | true =>
  cases h4 : amt b.h with
  | false =>
    rw [h1] at c1
    rw [h2] at c2
    rw [h3] at c3
    rw [h4] at c4
    rw [show rightB f b = false from Bool.eq_false_iff.2 fun h => by have := (right_iff.1 h).2.2.2.2.2.2.2.2.2.2.2.1; rw [h4] at this; cases this]
    repeat' (first | refine q_seq ?_ | refine q_seqX ?_ | refine q_seqR ?_ | refine q_thenX ?_ | refine q_blockX ?_ | refine DCode.seq ?_ | refine DCode.region ?_ | refine DCode.skip ?_ | refine DCode.exit ?_ | refine DCode.ret ?_ | refine DCode.condT rfl ?_ | refine DCode.condF rfl ?_ | refine DOps.call1 (ts := [it b.x]) rfl rfl rfl rfl rfl Tryz.func25 rfl (by kernel_rfl) rfl (by repeat (first | exact pures_nil | refine pures_cons ?_ ?_ | exact trivial | exact pure_aggB rfl | exact arr_pure _ | exact Load.pure _ | exact Area.pure _ | exact dvs_pure _ | exact pure_sc | exact pure_sl)) (c1) ?_ | refine DOps.call1 (ts := [it b.y]) rfl rfl rfl rfl rfl Tryz.func25 rfl (by kernel_rfl) rfl (by repeat (first | exact pures_nil | refine pures_cons ?_ ?_ | exact trivial | exact pure_aggB rfl | exact arr_pure _ | exact Load.pure _ | exact Area.pure _ | exact dvs_pure _ | exact pure_sc | exact pure_sl)) (c2) ?_ | refine DOps.call1 (ts := [it b.w]) rfl rfl rfl rfl rfl Tryz.func25 rfl (by kernel_rfl) rfl (by repeat (first | exact pures_nil | refine pures_cons ?_ ?_ | exact trivial | exact pure_aggB rfl | exact arr_pure _ | exact Load.pure _ | exact Area.pure _ | exact dvs_pure _ | exact pure_sc | exact pure_sl)) (c3) ?_ | refine DOps.call1 (ts := [it b.h]) rfl rfl rfl rfl rfl Tryz.func25 rfl (by kernel_rfl) rfl (by repeat (first | exact pures_nil | refine pures_cons ?_ ?_ | exact trivial | exact pure_aggB rfl | exact arr_pure _ | exact Load.pure _ | exact Area.pure _ | exact dvs_pure _ | exact pure_sc | exact pure_sl)) (c4) ?_ | refine DOps.nil ?_ | refine DOps.off rfl rfl rfl ?_ | (refine DOps.valK 0 rfl rfl rfl rfl ?_; first | refine ⟨_, (OpVal.move rfl rfl), ?_⟩) | (refine DOps.valK 1 rfl rfl rfl rfl ?_; first | refine ⟨_, (OpVal.assign rfl rfl), ?_⟩) | (refine DOps.valK 3 rfl rfl rfl rfl ?_; first | refine ⟨_, (OpVal.load1 tt_ok rfl rfl rfl rfl rfl rfl), ?_⟩) | (refine DOps.valK 18 rfl rfl rfl rfl ?_; first | refine ⟨_, (OpVal.fa tt_ok rfl rfl rfl rfl rfl rfl), ?_⟩) | (refine DOps.valK 17 rfl rfl rfl rfl ?_; first | refine ⟨_, (OpVal.lenT tt_ok rfl rfl rfl rfl rfl rfl rfl), ?_⟩) | (refine DOps.valK 2 rfl rfl rfl rfl ?_; first | refine ⟨_, (OpVal.pickT rfl rfl rfl), ?_⟩ | refine ⟨_, (OpVal.pickF rfl rfl rfl), ?_⟩) | (refine DOps.valK 16 rfl rfl rfl rfl ?_; first | refine ⟨_, (OpVal.notB rfl rfl), ?_⟩) | (refine DOps.k 14 rfl ?_; first | refine DOps.cmpT rfl rfl rfl rfl rfl rfl rfl (by omega) ?_ | refine DOps.cmpF rfl rfl rfl rfl rfl rfl rfl (by omega) ?_) | refine DOps.cmp rfl rfl rfl rfl rfl rfl rfl (fun _ => ?_) (fun _ => ?_))
    all_goals exact endQ.ret rfl (.cons (.tmp rfl) .nil) (pures_cons trivial pures_nil) rfl
  | true =>
  rw [h1] at c1
  rw [h2] at c2
  rw [h3] at c3
  rw [h4] at c4
  have b1 := fits64 h1
  have b2 := fits64 h2
  have b3 := fits64 h3
  have b4 := fits64 h4
  repeat' (first | refine q_seq ?_ | refine q_seqX ?_ | refine q_seqR ?_ | refine q_thenX ?_ | refine q_blockX ?_ | refine DCode.seq ?_ | refine DCode.region ?_ | refine DCode.skip ?_ | refine DCode.exit ?_ | refine DCode.ret ?_ | refine DCode.condT rfl ?_ | refine DCode.condF rfl ?_ | refine DOps.call1 (ts := [it b.x]) rfl rfl rfl rfl rfl Tryz.func25 rfl (by kernel_rfl) rfl (by repeat (first | exact pures_nil | refine pures_cons ?_ ?_ | exact trivial | exact pure_aggB rfl | exact arr_pure _ | exact Load.pure _ | exact Area.pure _ | exact dvs_pure _ | exact pure_sc | exact pure_sl)) (c1) ?_ | refine DOps.call1 (ts := [it b.y]) rfl rfl rfl rfl rfl Tryz.func25 rfl (by kernel_rfl) rfl (by repeat (first | exact pures_nil | refine pures_cons ?_ ?_ | exact trivial | exact pure_aggB rfl | exact arr_pure _ | exact Load.pure _ | exact Area.pure _ | exact dvs_pure _ | exact pure_sc | exact pure_sl)) (c2) ?_ | refine DOps.call1 (ts := [it b.w]) rfl rfl rfl rfl rfl Tryz.func25 rfl (by kernel_rfl) rfl (by repeat (first | exact pures_nil | refine pures_cons ?_ ?_ | exact trivial | exact pure_aggB rfl | exact arr_pure _ | exact Load.pure _ | exact Area.pure _ | exact dvs_pure _ | exact pure_sc | exact pure_sl)) (c3) ?_ | refine DOps.call1 (ts := [it b.h]) rfl rfl rfl rfl rfl Tryz.func25 rfl (by kernel_rfl) rfl (by repeat (first | exact pures_nil | refine pures_cons ?_ ?_ | exact trivial | exact pure_aggB rfl | exact arr_pure _ | exact Load.pure _ | exact Area.pure _ | exact dvs_pure _ | exact pure_sc | exact pure_sl)) (c4) ?_ | refine DOps.nil ?_ | refine DOps.off rfl rfl rfl ?_ | (refine DOps.valK 0 rfl rfl rfl rfl ?_; first | refine ⟨_, (OpVal.move rfl rfl), ?_⟩) | (refine DOps.valK 1 rfl rfl rfl rfl ?_; first | refine ⟨_, (OpVal.assign rfl rfl), ?_⟩) | (refine DOps.valK 3 rfl rfl rfl rfl ?_; first | refine ⟨_, (OpVal.load1 tt_ok rfl rfl rfl rfl rfl rfl), ?_⟩) | (refine DOps.valK 10 rfl rfl rfl rfl ?_; first | refine ⟨_, (OpVal.add rfl rfl rfl (by omega) (by omega)), ?_⟩) | (refine DOps.valK 18 rfl rfl rfl rfl ?_; first | refine ⟨_, (OpVal.fa tt_ok rfl rfl rfl rfl rfl rfl), ?_⟩) | (refine DOps.valK 17 rfl rfl rfl rfl ?_; first | refine ⟨_, (OpVal.lenT tt_ok rfl rfl rfl rfl rfl rfl rfl), ?_⟩) | (refine DOps.valK 2 rfl rfl rfl rfl ?_; first | refine ⟨_, (OpVal.pickT rfl rfl rfl), ?_⟩ | refine ⟨_, (OpVal.pickF rfl rfl rfl), ?_⟩) | (refine DOps.valK 16 rfl rfl rfl rfl ?_; first | refine ⟨_, (OpVal.notB rfl rfl), ?_⟩) | (refine DOps.k 14 rfl ?_; first | refine DOps.cmpT rfl rfl rfl rfl rfl rfl rfl (by omega) ?_ | refine DOps.cmpF rfl rfl rfl rfl rfl rfl rfl (by omega) ?_) | refine DOps.cmp rfl rfl rfl rfl rfl rfl rfl (fun _ => ?_) (fun _ => ?_))
  all_goals refine endQ.ret rfl (.cons (.tmp rfl) .nil) (pures_cons trivial pures_nil) (bt1 (Eq.symm ?_))
  all_goals first
    | (refine Bool.eq_false_iff.2 fun h => ?_
       obtain ⟨k1, k2, k3, k4, k5, k6, k7, k8, k9, k10, k11, k12, k13, k14, k15⟩ := right_iff.1 h
       omega)
    | exact right_iff.2 ⟨by omega, by omega, by omega, by omega, by omega, by omega, by omega, by omega, h1, h2, h3, h4, by omega, by omega, ha⟩
set_option maxRecDepth 10000 in
set_option maxHeartbeats 8000000 in
theorem rcheck_d (f : Fl) (hn : f.boxes.length ≤ 9223372036854775806) (hb : bndB f.boxes 9223372036854775806) : DCalls Tryz.prog 9 [f.tv] (fun ts => ts = [it (checkF f)]) := by
  have c1 := ramount_d f.width
  have c2 := ramount_d f.height
  cases hh : headB f with
  | false =>
    rw [show checkF f = 250 by rw [checkF, if_neg (by rw [hh]; simp)]]
    have hno : ¬ (0 ≤ f.pages ∧ f.pages ≤ 10000 ∧ amt f.width = true ∧ amt f.height = true) := fun h => by
      rw [head_iff.2 h] at hh; cases hh
    cases a1 : amt f.width with
    | false =>
      rw [a1] at c1
      refine DCalls.enter tt_ok Tryz.func9 rfl Tryz.ntmps9 (by simp) (by repeat (first | exact pures_nil | refine pures_cons ?_ ?_ | exact trivial | exact pure_aggB rfl | exact arr_pure _ | exact Load.pure _ | exact Area.pure _ | exact dvs_pure _ | exact pure_sc | exact pure_sl)) ?_
      repeat' (first | refine q_seq ?_ | refine q_seqR ?_ | refine DCode.seq ?_ | refine DCode.region ?_ | refine DCode.ret ?_ | refine DCode.condT rfl ?_ | refine DOps.call1 (ts := [it f.width]) rfl rfl rfl rfl rfl Tryz.func25 rfl (by kernel_rfl) rfl (by repeat (first | exact pures_nil | refine pures_cons ?_ ?_ | exact trivial | exact pure_aggB rfl | exact arr_pure _ | exact Load.pure _ | exact Area.pure _ | exact dvs_pure _ | exact pure_sc | exact pure_sl)) (c1) ?_ | refine DOps.nil ?_ | refine DOps.off rfl rfl rfl ?_ | (refine DOps.valK 0 rfl rfl rfl rfl ?_; first | refine ⟨_, (OpVal.move rfl rfl), ?_⟩) | (refine DOps.valK 1 rfl rfl rfl rfl ?_; first | refine ⟨_, (OpVal.assign rfl rfl), ?_⟩) | (refine DOps.valK 3 rfl rfl rfl rfl ?_; first | refine ⟨_, (OpVal.load1 tt_ok rfl rfl rfl rfl rfl rfl), ?_⟩) | (refine DOps.valK 18 rfl rfl rfl rfl ?_; first | refine ⟨_, (OpVal.fa tt_ok rfl rfl rfl rfl rfl rfl), ?_⟩) | (refine DOps.valK 2 rfl rfl rfl rfl ?_; first | refine ⟨_, (OpVal.pickT rfl rfl rfl), ?_⟩ | refine ⟨_, (OpVal.pickF rfl rfl rfl), ?_⟩) | (refine DOps.valK 16 rfl rfl rfl rfl ?_; first | refine ⟨_, (OpVal.notB rfl rfl), ?_⟩) | (refine DOps.k 30 rfl ?_; refine DOps.boxS rfl rfl rfl rfl rfl rfl ?_) | refine DOps.cmp rfl rfl rfl rfl rfl rfl rfl (fun _ => ?_) (fun _ => ?_))
      all_goals exact endQ.ret rfl (.cons (.tmp rfl) .nil) (pures_cons trivial pures_nil) rfl
    | true =>
      cases a2 : amt f.height with
      | false =>
        rw [a1] at c1
        rw [a2] at c2
        refine DCalls.enter tt_ok Tryz.func9 rfl Tryz.ntmps9 (by simp) (by repeat (first | exact pures_nil | refine pures_cons ?_ ?_ | exact trivial | exact pure_aggB rfl | exact arr_pure _ | exact Load.pure _ | exact Area.pure _ | exact dvs_pure _ | exact pure_sc | exact pure_sl)) ?_
        repeat' (first | refine q_seq ?_ | refine q_seqR ?_ | refine DCode.seq ?_ | refine DCode.region ?_ | refine DCode.ret ?_ | refine DCode.condT rfl ?_ | refine DOps.call1 (ts := [it f.width]) rfl rfl rfl rfl rfl Tryz.func25 rfl (by kernel_rfl) rfl (by repeat (first | exact pures_nil | refine pures_cons ?_ ?_ | exact trivial | exact pure_aggB rfl | exact arr_pure _ | exact Load.pure _ | exact Area.pure _ | exact dvs_pure _ | exact pure_sc | exact pure_sl)) (c1) ?_ | refine DOps.call1 (ts := [it f.height]) rfl rfl rfl rfl rfl Tryz.func25 rfl (by kernel_rfl) rfl (by repeat (first | exact pures_nil | refine pures_cons ?_ ?_ | exact trivial | exact pure_aggB rfl | exact arr_pure _ | exact Load.pure _ | exact Area.pure _ | exact dvs_pure _ | exact pure_sc | exact pure_sl)) (c2) ?_ | refine DOps.nil ?_ | refine DOps.off rfl rfl rfl ?_ | (refine DOps.valK 0 rfl rfl rfl rfl ?_; first | refine ⟨_, (OpVal.move rfl rfl), ?_⟩) | (refine DOps.valK 1 rfl rfl rfl rfl ?_; first | refine ⟨_, (OpVal.assign rfl rfl), ?_⟩) | (refine DOps.valK 3 rfl rfl rfl rfl ?_; first | refine ⟨_, (OpVal.load1 tt_ok rfl rfl rfl rfl rfl rfl), ?_⟩) | (refine DOps.valK 18 rfl rfl rfl rfl ?_; first | refine ⟨_, (OpVal.fa tt_ok rfl rfl rfl rfl rfl rfl), ?_⟩) | (refine DOps.valK 2 rfl rfl rfl rfl ?_; first | refine ⟨_, (OpVal.pickT rfl rfl rfl), ?_⟩ | refine ⟨_, (OpVal.pickF rfl rfl rfl), ?_⟩) | (refine DOps.valK 16 rfl rfl rfl rfl ?_; first | refine ⟨_, (OpVal.notB rfl rfl), ?_⟩) | (refine DOps.k 30 rfl ?_; refine DOps.boxS rfl rfl rfl rfl rfl rfl ?_) | refine DOps.cmp rfl rfl rfl rfl rfl rfl rfl (fun _ => ?_) (fun _ => ?_))
        all_goals exact endQ.ret rfl (.cons (.tmp rfl) .nil) (pures_cons trivial pures_nil) rfl
      | true =>
        rw [a1] at c1
        rw [a2] at c2
        have hp : ¬ (0 ≤ f.pages ∧ f.pages ≤ 10000) := fun h => hno ⟨h.1, h.2, a1, a2⟩
        refine DCalls.enter tt_ok Tryz.func9 rfl Tryz.ntmps9 (by simp) (by repeat (first | exact pures_nil | refine pures_cons ?_ ?_ | exact trivial | exact pure_aggB rfl | exact arr_pure _ | exact Load.pure _ | exact Area.pure _ | exact dvs_pure _ | exact pure_sc | exact pure_sl)) ?_
        repeat' (first | refine q_seq ?_ | refine q_seqR ?_ | refine DCode.seq ?_ | refine DCode.region ?_ | refine DCode.ret ?_ | refine DCode.condT rfl ?_ | refine DOps.nil ?_ | refine DOps.off rfl rfl rfl ?_ | (refine DOps.valK 0 rfl rfl rfl rfl ?_; first | refine ⟨_, (OpVal.move rfl rfl), ?_⟩) | (refine DOps.valK 1 rfl rfl rfl rfl ?_; first | refine ⟨_, (OpVal.assign rfl rfl), ?_⟩) | (refine DOps.valK 3 rfl rfl rfl rfl ?_; first | refine ⟨_, (OpVal.load1 tt_ok rfl rfl rfl rfl rfl rfl), ?_⟩) | (refine DOps.valK 18 rfl rfl rfl rfl ?_; first | refine ⟨_, (OpVal.fa tt_ok rfl rfl rfl rfl rfl rfl), ?_⟩) | (refine DOps.valK 2 rfl rfl rfl rfl ?_; first | refine ⟨_, (OpVal.pickT rfl rfl rfl), ?_⟩ | refine ⟨_, (OpVal.pickF rfl rfl rfl), ?_⟩) | (refine DOps.k 14 rfl ?_; first | refine DOps.cmpT rfl rfl rfl rfl rfl rfl rfl (by omega) ?_ | refine DOps.cmpF rfl rfl rfl rfl rfl rfl rfl (by omega) ?_) | (refine DOps.k 30 rfl ?_; refine DOps.boxS rfl rfl rfl rfl rfl rfl ?_) | refine DOps.cmp rfl rfl rfl rfl rfl rfl rfl (fun _ => ?_) (fun _ => ?_))
        all_goals first
          | exact endQ.ret rfl (.cons (.tmp rfl) .nil) (pures_cons trivial pures_nil) rfl
          | (exfalso; omega)
  | true =>
  obtain ⟨p1, p2, a1, a2⟩ := head_iff.1 hh
  rw [a1] at c1
  rw [a2] at c2
  by_cases h3 : 50000 < f.boxes.length
  · rw [show checkF f = 252 by rw [checkF, if_pos hh, if_pos h3]]
    refine DCalls.enter tt_ok Tryz.func9 rfl Tryz.ntmps9 (by simp) (by repeat (first | exact pures_nil | refine pures_cons ?_ ?_ | exact trivial | exact pure_aggB rfl | exact arr_pure _ | exact Load.pure _ | exact Area.pure _ | exact dvs_pure _ | exact pure_sc | exact pure_sl)) ?_
    repeat (first | refine q_seq ?_ | refine q_seqR ?_ | refine DCode.seq ?_ | refine DCode.region ?_ | refine DCode.skip ?_ | refine DCode.ret ?_ | refine DCode.condT rfl ?_ | refine DCode.condF rfl ?_ | refine DOps.call1 (ts := [it f.width]) rfl rfl rfl rfl rfl Tryz.func25 rfl (by kernel_rfl) rfl (by repeat (first | exact pures_nil | refine pures_cons ?_ ?_ | exact trivial | exact pure_aggB rfl | exact arr_pure _ | exact Load.pure _ | exact Area.pure _ | exact dvs_pure _ | exact pure_sc | exact pure_sl)) (c1) ?_ | refine DOps.call1 (ts := [it f.height]) rfl rfl rfl rfl rfl Tryz.func25 rfl (by kernel_rfl) rfl (by repeat (first | exact pures_nil | refine pures_cons ?_ ?_ | exact trivial | exact pure_aggB rfl | exact arr_pure _ | exact Load.pure _ | exact Area.pure _ | exact dvs_pure _ | exact pure_sc | exact pure_sl)) (c2) ?_ | refine DOps.nil ?_ | (refine DOps.valK 0 rfl rfl rfl rfl ?_; first | refine ⟨_, (OpVal.move rfl rfl), ?_⟩) | (refine DOps.valK 1 rfl rfl rfl rfl ?_; first | refine ⟨_, (OpVal.assign rfl rfl), ?_⟩) | (refine DOps.valK 3 rfl rfl rfl rfl ?_; first | refine ⟨_, (OpVal.load1 tt_ok rfl rfl rfl rfl rfl rfl), ?_⟩) | (refine DOps.valK 18 rfl rfl rfl rfl ?_; first | refine ⟨_, (OpVal.fa tt_ok rfl rfl rfl rfl rfl rfl), ?_⟩) | (refine DOps.valK 17 rfl rfl rfl rfl ?_; first | refine ⟨_, (OpVal.lenD tt_ok rfl rfl rfl rfl rfl rfl rfl), ?_⟩) | (refine DOps.valK 2 rfl rfl rfl rfl ?_; first | refine ⟨_, (OpVal.pickF rfl rfl rfl), ?_⟩) | (refine DOps.valK 16 rfl rfl rfl rfl ?_; first | refine ⟨_, (OpVal.notB rfl rfl), ?_⟩) | (refine DOps.k 14 rfl ?_; first | refine DOps.cmpT rfl rfl rfl rfl rfl rfl rfl (by omega) ?_ | refine DOps.cmpF rfl rfl rfl rfl rfl rfl rfl (by omega) ?_) | (refine DOps.k 30 rfl ?_; refine DOps.boxS rfl rfl rfl rfl rfl rfl ?_))
    exact endQ.ret rfl (.cons (.tmp rfl) .nil) (pures_cons trivial pures_nil) rfl
  refine DCalls.enter tt_ok Tryz.func9 rfl Tryz.ntmps9 (by simp) (by repeat (first | exact pures_nil | refine pures_cons ?_ ?_ | exact trivial | exact pure_aggB rfl | exact arr_pure _ | exact Load.pure _ | exact Area.pure _ | exact dvs_pure _ | exact pure_sc | exact pure_sl)) ?_
  repeat (first | refine q_seq ?_ | refine DCode.seq ?_ | refine DCode.region ?_ | refine DCode.block ?_ | refine DCode.skip ?_ | refine DCode.condF rfl ?_ | refine DOps.call1 (ts := [it f.width]) rfl rfl rfl rfl rfl Tryz.func25 rfl (by kernel_rfl) rfl (by repeat (first | exact pures_nil | refine pures_cons ?_ ?_ | exact trivial | exact pure_aggB rfl | exact arr_pure _ | exact Load.pure _ | exact Area.pure _ | exact dvs_pure _ | exact pure_sc | exact pure_sl)) (c1) ?_ | refine DOps.call1 (ts := [it f.height]) rfl rfl rfl rfl rfl Tryz.func25 rfl (by kernel_rfl) rfl (by repeat (first | exact pures_nil | refine pures_cons ?_ ?_ | exact trivial | exact pure_aggB rfl | exact arr_pure _ | exact Load.pure _ | exact Area.pure _ | exact dvs_pure _ | exact pure_sc | exact pure_sl)) (c2) ?_ | refine DOps.nil ?_ | (refine DOps.valK 0 rfl rfl rfl rfl ?_; first | refine ⟨_, (OpVal.move rfl rfl), ?_⟩) | (refine DOps.valK 1 rfl rfl rfl rfl ?_; first | refine ⟨_, (OpVal.assign rfl rfl), ?_⟩) | (refine DOps.valK 3 rfl rfl rfl rfl ?_; first | refine ⟨_, (OpVal.load1 tt_ok rfl rfl rfl rfl rfl rfl), ?_⟩) | (refine DOps.valK 18 rfl rfl rfl rfl ?_; first | refine ⟨_, (OpVal.fa tt_ok rfl rfl rfl rfl rfl rfl), ?_⟩) | (refine DOps.valK 17 rfl rfl rfl rfl ?_; first | refine ⟨_, (OpVal.lenD tt_ok rfl rfl rfl rfl rfl rfl rfl), ?_⟩) | (refine DOps.valK 2 rfl rfl rfl rfl ?_; first | refine ⟨_, (OpVal.pickF rfl rfl rfl), ?_⟩) | (refine DOps.valK 16 rfl rfl rfl rfl ?_; first | refine ⟨_, (OpVal.notB rfl rfl), ?_⟩) | (refine DOps.k 14 rfl ?_; first | refine DOps.cmpT rfl rfl rfl rfl rfl rfl rfl (by omega) ?_ | refine DOps.cmpF rfl rfl rfl rfl rfl rfl rfl (by omega) ?_) | (refine DOps.k 30 rfl ?_; refine DOps.boxS rfl rfl rfl rfl rfl rfl ?_))
  refine DCode.loopG (fun i : Nat => [(3, vI .i64 (i : Nat))]) [2, 3, 28, 29, 30, 31, 32, 33, 34, 35, 36, 37, 38, 39, 40, 41, 42] (fun _ => []) (fun i => i ≤ f.boxes.length ∧ (f.boxes.take i).all (rightB f) = true) (fun i => f.boxes.length - i) 0 ⟨Nat.zero_le _, rfl⟩ (fun i _ => ⟨trivial, trivial⟩) (fun i _ => trivial) (by (repeat (first | exact Off.refl _ _ | refine Sub.base ?_ | refine Sub.junk ?_ | refine Sub.cons (by rfl) ?_ | refine Off.cons rfl ?_ | refine Off.junks rfl ?_))) (by (repeat (first | exact MSubX.nil | refine MSubX.skip rfl ?_ | refine MSubX.cons (by rfl) ?_))) ?_
  intro i ⟨hi, hal⟩
  show DCode _ _ _ _ _ ([(3, vI .i64 (i : Nat))] ++ junks _ _) ([] ++ _)
  by_cases hlt : i < f.boxes.length
  · have cr := rright_d f (f.boxes.getD i bx0) (hb i)
    have hst := all_take (p := rightB f) hlt
    have hmem := getD_memB hlt
    cases hr : rightB f (f.boxes.getD i bx0) with
    | false =>
      rw [hr] at cr
      rw [show checkF f = 251 by
        rw [checkF, if_pos hh, if_neg h3, if_neg]
        intro h
        have := List.all_eq_true.1 h _ hmem
        rw [hr] at this; cases this]
      repeat (first | refine q_seq ?_ | refine DCode.seq ?_ | refine DCode.region ?_ | refine DCode.block ?_ | refine DCode.skip ?_ | refine DCode.condT rfl ?_ | refine DOps.nil ?_ | (refine DOps.valK 0 rfl rfl rfl rfl ?_; first | refine ⟨_, (OpVal.move rfl rfl), ?_⟩) | (refine DOps.valK 3 rfl rfl rfl rfl ?_; first | refine ⟨_, (OpVal.load1 tt_ok rfl rfl rfl rfl rfl rfl), ?_⟩) | (refine DOps.valK 18 rfl rfl rfl rfl ?_; first | refine ⟨_, (OpVal.fa tt_ok rfl rfl rfl rfl rfl rfl), ?_⟩) | (refine DOps.valK 17 rfl rfl rfl rfl ?_; first | refine ⟨_, (OpVal.lenD tt_ok rfl rfl rfl rfl rfl rfl rfl), ?_⟩) | (refine DOps.k 14 rfl ?_; first | refine DOps.cmpT rfl rfl rfl rfl rfl rfl rfl (by omega) ?_ | refine DOps.cmpF rfl rfl rfl rfl rfl rfl rfl (by omega) ?_))
      (repeat refine DCode.seq ?_) <;> refine DCode.conf [] [] (by kernel_rfl) (by kernel_rfl) ?_
      repeat (first | (refine DCf.valK 3 rfl rfl (fun _ => rfl) rfl rfl ?_; refine ⟨_, fun _ _ _ => OpVal.ldX tt_ok rfl rfl rfl (Int.toNat_natCast i) rfl, ?_⟩) | (refine DCf.valK 3 rfl rfl (fun _ => rfl) rfl rfl ?_; refine ⟨.v (f).tv, fun _ _ _ => OpVal.cast (OpVal.load tt_ok rfl rfl rfl rfl rfl rfl) rfl, ?_⟩) | refine DCf.call (ts := [f.tv, (f.boxes.getD i bx0).tv]) rfl (fun _ => rfl) rfl rfl rfl rfl Tryz.func26 rfl (by kernel_rfl) (fun _ => rfl) (by repeat (first | exact pures_nil | refine pures_cons ?_ ?_ | exact trivial | exact pure_aggB rfl | exact arr_pure _ | exact Load.pure _ | exact Area.pure _ | exact dvs_pure _ | exact pure_sc | exact pure_sl)) (cr) ?_ | (refine DCf.valK 0 rfl rfl (fun _ => rfl) rfl rfl ?_; first | refine ⟨_, fun _ _ _ => (OpVal.move rfl rfl), ?_⟩) | (refine DCf.valK 3 rfl rfl (fun _ => rfl) rfl rfl ?_; first | refine ⟨_, fun _ _ _ => (OpVal.load1 tt_ok rfl rfl rfl rfl rfl rfl), ?_⟩) | (refine DCf.valK 18 rfl rfl (fun _ => rfl) rfl rfl ?_; first | refine ⟨_, fun _ _ _ => (OpVal.fa tt_ok rfl rfl rfl rfl rfl rfl), ?_⟩) | (refine DCf.valK 19 rfl rfl (fun _ => rfl) rfl rfl ?_; first | refine ⟨_, fun _ _ _ => (OpVal.iaD tt_ok rfl rfl rfl rfl rfl rfl (by omega) (by omega)), ?_⟩) | (refine DCf.valK 16 rfl rfl (fun _ => rfl) rfl rfl ?_; first | refine ⟨_, fun _ _ _ => (OpVal.notB rfl rfl), ?_⟩))
      refine DCf.done ?_
      repeat (first | refine q_seq ?_ | refine q_seqR ?_ | refine q_thenR ?_ | refine q_blockR ?_ | refine DCode.seq ?_ | refine DCode.region ?_ | refine DCode.ret ?_ | refine DCode.condT rfl ?_ | refine DOps.nil ?_ | (refine DOps.valK 1 rfl rfl rfl rfl ?_; first | refine ⟨_, (OpVal.assign rfl rfl), ?_⟩))
      exact endQ.ret rfl (.cons (.tmp rfl) .nil) (pures_cons trivial pures_nil) rfl
    | true =>
      rw [hr] at cr
      repeat (first | refine q_seq ?_ | refine DCode.seq ?_ | refine DCode.region ?_ | refine DCode.block ?_ | refine DCode.skip ?_ | refine DCode.condT rfl ?_ | refine DOps.nil ?_ | (refine DOps.valK 0 rfl rfl rfl rfl ?_; first | refine ⟨_, (OpVal.move rfl rfl), ?_⟩) | (refine DOps.valK 3 rfl rfl rfl rfl ?_; first | refine ⟨_, (OpVal.load1 tt_ok rfl rfl rfl rfl rfl rfl), ?_⟩) | (refine DOps.valK 18 rfl rfl rfl rfl ?_; first | refine ⟨_, (OpVal.fa tt_ok rfl rfl rfl rfl rfl rfl), ?_⟩) | (refine DOps.valK 17 rfl rfl rfl rfl ?_; first | refine ⟨_, (OpVal.lenD tt_ok rfl rfl rfl rfl rfl rfl rfl), ?_⟩) | (refine DOps.k 14 rfl ?_; first | refine DOps.cmpT rfl rfl rfl rfl rfl rfl rfl (by omega) ?_ | refine DOps.cmpF rfl rfl rfl rfl rfl rfl rfl (by omega) ?_))
      (repeat refine DCode.seq ?_) <;> refine DCode.conf [] [] (by kernel_rfl) (by kernel_rfl) ?_
      repeat (first | (refine DCf.valK 3 rfl rfl (fun _ => rfl) rfl rfl ?_; refine ⟨_, fun _ _ _ => OpVal.ldX tt_ok rfl rfl rfl (Int.toNat_natCast i) rfl, ?_⟩) | (refine DCf.valK 3 rfl rfl (fun _ => rfl) rfl rfl ?_; refine ⟨.v (f).tv, fun _ _ _ => OpVal.cast (OpVal.load tt_ok rfl rfl rfl rfl rfl rfl) rfl, ?_⟩) | refine DCf.call (ts := [f.tv, (f.boxes.getD i bx0).tv]) rfl (fun _ => rfl) rfl rfl rfl rfl Tryz.func26 rfl (by kernel_rfl) (fun _ => rfl) (by repeat (first | exact pures_nil | refine pures_cons ?_ ?_ | exact trivial | exact pure_aggB rfl | exact arr_pure _ | exact Load.pure _ | exact Area.pure _ | exact dvs_pure _ | exact pure_sc | exact pure_sl)) (cr) ?_ | (refine DCf.valK 0 rfl rfl (fun _ => rfl) rfl rfl ?_; first | refine ⟨_, fun _ _ _ => (OpVal.move rfl rfl), ?_⟩) | (refine DCf.valK 3 rfl rfl (fun _ => rfl) rfl rfl ?_; first | refine ⟨_, fun _ _ _ => (OpVal.load1 tt_ok rfl rfl rfl rfl rfl rfl), ?_⟩) | (refine DCf.valK 18 rfl rfl (fun _ => rfl) rfl rfl ?_; first | refine ⟨_, fun _ _ _ => (OpVal.fa tt_ok rfl rfl rfl rfl rfl rfl), ?_⟩) | (refine DCf.valK 19 rfl rfl (fun _ => rfl) rfl rfl ?_; first | refine ⟨_, fun _ _ _ => (OpVal.iaD tt_ok rfl rfl rfl rfl rfl rfl (by omega) (by omega)), ?_⟩) | (refine DCf.valK 16 rfl rfl (fun _ => rfl) rfl rfl ?_; first | refine ⟨_, fun _ _ _ => (OpVal.notB rfl rfl), ?_⟩))
      refine DCf.done ?_
      repeat (first | refine q_seq ?_ | refine q_then ?_ | refine q_block ?_ | refine DCode.region ?_ | refine DCode.skip ?_ | refine DCode.condF rfl ?_ | refine DOps.nil ?_ | (refine DOps.valK 0 rfl rfl rfl rfl ?_; first | refine ⟨_, (OpVal.move rfl rfl), ?_⟩) | (refine DOps.valK 1 rfl rfl rfl rfl ?_; first | refine ⟨_, (OpVal.assign rfl rfl), ?_⟩) | (refine DOps.valK 10 rfl rfl rfl rfl ?_; first | refine ⟨_, (OpVal.add rfl rfl rfl (by omega) (by omega)), ?_⟩))
      exact ⟨i + 1, ⟨hlt, by rw [hst, hal, hr]; rfl⟩, by omega, Sub.cons (vI_congr (by omega)) (by (repeat (first | exact Off.refl _ _ | refine Sub.base ?_ | refine Sub.junk ?_ | refine Sub.cons (by rfl) ?_ | refine Off.cons rfl ?_ | refine Off.junks rfl ?_))), by (repeat (first | exact MSubX.nil | refine MSubX.skip rfl ?_ | refine MSubX.cons (by rfl) ?_))⟩
  · obtain rfl : i = f.boxes.length := by omega
    rw [List.take_length] at hal
    rw [show checkF f = 0 by rw [checkF, if_pos hh, if_neg h3, if_pos hal]]
    repeat (first | refine q_seq ?_ | refine q_seqX ?_ | refine q_thenX ?_ | refine q_blockX ?_ | refine DCode.seq ?_ | refine DCode.region ?_ | refine DCode.exit ?_ | refine DCode.ret ?_ | refine DCode.condF rfl ?_ | refine DOps.nil ?_ | (refine DOps.valK 0 rfl rfl rfl rfl ?_; first | refine ⟨_, (OpVal.move rfl rfl), ?_⟩) | (refine DOps.valK 1 rfl rfl rfl rfl ?_; first | refine ⟨_, (OpVal.assign rfl rfl), ?_⟩) | (refine DOps.valK 3 rfl rfl rfl rfl ?_; first | refine ⟨_, (OpVal.load1 tt_ok rfl rfl rfl rfl rfl rfl), ?_⟩) | (refine DOps.valK 18 rfl rfl rfl rfl ?_; first | refine ⟨_, (OpVal.fa tt_ok rfl rfl rfl rfl rfl rfl), ?_⟩) | (refine DOps.valK 17 rfl rfl rfl rfl ?_; first | refine ⟨_, (OpVal.lenD tt_ok rfl rfl rfl rfl rfl rfl rfl), ?_⟩) | (refine DOps.k 14 rfl ?_; first | refine DOps.cmpT rfl rfl rfl rfl rfl rfl rfl (by omega) ?_ | refine DOps.cmpF rfl rfl rfl rfl rfl rfl rfl (by omega) ?_))
    exact endQ.ret rfl (.cons (.tmp rfl) .nil) (pures_cons trivial pures_nil) rfl
/-! ### Numbers -/
theorem dig_slice {d : Nat} (h : d < 10) : (([48, 49, 50, 51, 52, 53, 54, 55, 56, 57] : List UInt8).take (d + 1)).drop d = [UInt8.ofNat (48 + d)] := by
  match d, h with
  | 0, _ => rfl
  | 1, _ => rfl
  | 2, _ => rfl
  | 3, _ => rfl
  | 4, _ => rfl
  | 5, _ => rfl
  | 6, _ => rfl
  | 7, _ => rfl
  | 8, _ => rfl
  | 9, _ => rfl
set_option maxRecDepth 10000 in
set_option maxHeartbeats 8000000 in
theorem rdigits_d (n : Nat) (hn : n < 18446744073709551616) : DCalls Tryz.prog 63 [ut n] (fun ts => ts = [tT (Lib.decDigits n)]) := by
  have hlen := dec_len (n := n) (k := 19) (by omega)
  refine DCalls.enter tt_ok Tryz.func63 rfl Tryz.ntmps63 (by simp) (by repeat (first | exact pures_nil | refine pures_cons ?_ ?_ | exact trivial | exact pure_aggB rfl | exact arr_pure _ | exact Load.pure _ | exact Area.pure _ | exact dvs_pure _ | exact pure_sc | exact pure_sl)) ?_
  repeat (first | refine q_seq ?_ | refine DCode.seq ?_ | refine DCode.region ?_ | refine DCode.block ?_ | refine DOps.nil ?_ | (refine DOps.valK 1 rfl rfl rfl rfl ?_; first | refine ⟨_, (OpVal.assign rfl rfl), ?_⟩))
  refine DCode.loopG (fun s : Nat × List UInt8 => [(0, vU s.1), (3, vT s.2)]) [0, 3, 4, 5, 6, 7, 8, 9, 10, 11, 12, 13, 14, 15] (fun _ => []) (fun s => s.1 < 18446744073709551616 ∧ Lib.decDigits s.1 ++ s.2 = Lib.decDigits n) (fun s => s.1) (n, []) ⟨hn, List.append_nil _⟩ (fun i _ => ⟨trivial, trivial, trivial⟩) (fun i _ => trivial) (by (repeat (first | exact Off.refl _ _ | refine Sub.base ?_ | refine Sub.junk ?_ | refine Sub.cons (by rfl) ?_ | refine Off.cons rfl ?_ | refine Off.junks rfl ?_))) (by (repeat (first | exact MSubX.nil | refine MSubX.skip rfl ?_ | refine MSubX.cons (by rfl) ?_))) ?_
  intro ⟨i, out⟩ ⟨h1, h2⟩
  simp only [] at h1 h2
  show DCode _ _ _ _ _ ([(0, vU i), (3, vT out)] ++ junks _ _) ([] ++ _)
  have hol : out.length ≤ 20 := by
    have := congrArg List.length h2
    rw [List.length_append] at this
    omega
  by_cases hlt : i < 10
  · have e1 := dig_slice hlt
    have e2 := dec_one hlt
    rw [e2] at h2
    repeat (first | refine q_seq ?_ | refine q_seqX ?_ | refine q_thenX ?_ | refine q_blockX ?_ | refine DCode.seq ?_ | refine DCode.region ?_ | refine DCode.exit ?_ | refine DCode.ret ?_ | refine DCode.condF rfl ?_ | (refine DOps.valK 10 rfl rfl rfl rfl ?_; refine ⟨_, OpVal.addU (m := i) (n := 1) rfl rfl rfl (by omega), ?_⟩) | (refine DOps.valK 22 rfl rfl rfl rfl ?_; refine ⟨_, OpVal.cast (OpVal.sliceT (l := digSet) (b := i) (e := i + 1) tt_ok rfl rfl rfl rfl ⟨_, rfl⟩ ⟨_, rfl⟩ (by omega) (by simp only [List.length_cons, List.length_nil]; omega)) (congrArg vT e1), ?_⟩) | refine DOps.nil ?_ | (refine DOps.valK 0 rfl rfl rfl rfl ?_; first | refine ⟨_, (OpVal.move rfl rfl), ?_⟩) | (refine DOps.valK 1 rfl rfl rfl rfl ?_; first | refine ⟨_, (OpVal.assign rfl rfl), ?_⟩) | (refine DOps.valK 10 rfl rfl rfl rfl ?_; first | refine ⟨_, (OpVal.cat rfl rfl rfl (by (try simp only [List.length_append, List.length_cons, List.length_nil, List.length_take, List.length_drop]); omega)), ?_⟩) | (refine DOps.k 14 rfl ?_; first | refine DOps.cmpT rfl rfl rfl rfl rfl rfl rfl (by omega) ?_ | refine DOps.cmpF rfl rfl rfl rfl rfl rfl rfl (by omega) ?_))
    exact endQ.ret rfl (.cons (.tmp rfl) .nil) (pures_cons trivial pures_nil) (by rw [← h2])
  · have hm : i % 10 < 10 := Nat.mod_lt _ (by decide)
    have e1 := dig_slice hm
    have e2 := dec_step i hlt
    rw [e2] at h2
    repeat (first | refine q_seq ?_ | refine q_then ?_ | refine q_block ?_ | refine DCode.seq ?_ | refine DCode.region ?_ | refine DCode.block ?_ | refine DCode.skip ?_ | refine DCode.condT rfl ?_ | (refine DOps.valK 10 rfl rfl rfl rfl ?_; refine ⟨_, OpVal.addU (m := i % 10) (n := 1) rfl rfl rfl (by omega), ?_⟩) | (refine DOps.valK 15 rfl rfl rfl rfl ?_; refine ⟨_, OpVal.remU (m := i) (n := 10) rfl rfl rfl (by decide), ?_⟩) | (refine DOps.valK 15 rfl rfl rfl rfl ?_; refine ⟨_, OpVal.quoU (m := i) (n := 10) rfl rfl rfl (by omega) (by decide), ?_⟩) | (refine DOps.valK 22 rfl rfl rfl rfl ?_; refine ⟨_, OpVal.cast (OpVal.sliceT (l := digSet) (b := i % 10) (e := i % 10 + 1) tt_ok rfl rfl rfl rfl ⟨_, rfl⟩ ⟨_, rfl⟩ (by omega) (by simp only [List.length_cons, List.length_nil]; omega)) (congrArg vT e1), ?_⟩) | refine DOps.nil ?_ | (refine DOps.valK 0 rfl rfl rfl rfl ?_; first | refine ⟨_, (OpVal.move rfl rfl), ?_⟩) | (refine DOps.valK 1 rfl rfl rfl rfl ?_; first | refine ⟨_, (OpVal.assign rfl rfl), ?_⟩) | (refine DOps.valK 10 rfl rfl rfl rfl ?_; first | refine ⟨_, (OpVal.cat rfl rfl rfl (by (try simp only [List.length_append, List.length_cons, List.length_nil, List.length_take, List.length_drop]); omega)), ?_⟩) | (refine DOps.k 14 rfl ?_; first | refine DOps.cmpT rfl rfl rfl rfl rfl rfl rfl (by omega) ?_ | refine DOps.cmpF rfl rfl rfl rfl rfl rfl rfl (by omega) ?_))
    exact ⟨(i / 10, [UInt8.ofNat (48 + i % 10)] ++ out), ⟨by simp only []; omega, by rw [← h2]; simp⟩, by simp only []; omega, (by (repeat (first | exact Off.refl _ _ | refine Sub.base ?_ | refine Sub.junk ?_ | refine Sub.cons (by rfl) ?_ | refine Off.cons rfl ?_ | refine Off.junks rfl ?_))), by (repeat (first | exact MSubX.nil | refine MSubX.skip rfl ?_ | refine MSubX.cons (by rfl) ?_))⟩
set_option maxRecDepth 10000 in
set_option maxHeartbeats 8000000 in
theorem signed_d (n : Int) (h : in64 n) : DCalls Tryz.prog 48 [it n] (fun ts => ts = [tT (Lib.itoa n)]) := by
  obtain ⟨h0, h1⟩ := h
  by_cases hv : n < 0
  · have cd := rdigits_d n.natAbs (by omega)
    have hl := dec_len (n := n.natAbs) (k := 18) (by omega)
    rw [show Lib.itoa n = [45] ++ Lib.decDigits n.natAbs by rw [Lib.itoa, if_pos hv]; rfl]
    have e1 : -(n + 1) = ((n.natAbs - 1 : Nat) : Int) := by omega
    have e2 : n.natAbs - 1 + 1 = n.natAbs := by omega
    generalize n.natAbs = m at *
    refine DCalls.enter tt_ok Tryz.func48 rfl Tryz.ntmps48 (by simp) (by repeat (first | exact pures_nil | refine pures_cons ?_ ?_ | exact trivial | exact pure_aggB rfl | exact arr_pure _ | exact Load.pure _ | exact Area.pure _ | exact dvs_pure _ | exact pure_sc | exact pure_sl)) ?_
    repeat (first | refine q_seq ?_ | refine q_seqR ?_ | refine DCode.seq ?_ | refine DCode.region ?_ | refine DCode.ret ?_ | refine DCode.condT rfl ?_ | (refine DOps.valK 16 rfl rfl rfl rfl ?_; refine ⟨_, OpVal.cast (OpVal.neg64 rfl rfl (by omega) (by omega)) (vI_congr e1), ?_⟩) | (refine DOps.valK 26 rfl rfl rfl rfl ?_; refine ⟨_, OpVal.toU tt_ok rfl rfl rfl rfl (by omega) (by omega), ?_⟩) | (refine DOps.valK 10 rfl rfl rfl rfl ?_; refine ⟨_, OpVal.cast (OpVal.addU (m := m - 1) (n := 1) rfl rfl rfl (by omega)) (congrArg vU e2), ?_⟩) | refine DOps.call1 (ts := [ut m]) rfl rfl rfl rfl rfl Tryz.func63 rfl (by kernel_rfl) rfl (by repeat (first | exact pures_nil | refine pures_cons ?_ ?_ | exact trivial | exact pure_aggB rfl | exact arr_pure _ | exact Load.pure _ | exact Area.pure _ | exact dvs_pure _ | exact pure_sc | exact pure_sl)) (cd) ?_ | refine DOps.nil ?_ | (refine DOps.valK 0 rfl rfl rfl rfl ?_; first | refine ⟨_, (OpVal.move rfl rfl), ?_⟩) | (refine DOps.valK 1 rfl rfl rfl rfl ?_; first | refine ⟨_, (OpVal.assign rfl rfl), ?_⟩) | (refine DOps.valK 10 rfl rfl rfl rfl ?_; first | refine ⟨_, (OpVal.add rfl rfl rfl (by omega) (by omega)), ?_⟩ | refine ⟨_, (OpVal.cat rfl rfl rfl (by (try simp only [List.length_append, List.length_cons, List.length_nil, List.length_take, List.length_drop]); omega)), ?_⟩) | (refine DOps.k 14 rfl ?_; first | refine DOps.cmpT rfl rfl rfl rfl rfl rfl rfl (by omega) ?_ | refine DOps.cmpF rfl rfl rfl rfl rfl rfl rfl (by omega) ?_))
    exact endQ.ret rfl (.cons (.tmp rfl) .nil) (pures_cons trivial pures_nil) rfl
  · have cd := rdigits_d n.toNat (by omega)
    rw [show Lib.itoa n = Lib.decDigits n.toNat by rw [Lib.itoa, if_neg hv]]
    have e1 : n = ((n.toNat : Nat) : Int) := by omega
    generalize n.toNat = m at *
    refine DCalls.enter tt_ok Tryz.func48 rfl Tryz.ntmps48 (by simp) (by repeat (first | exact pures_nil | refine pures_cons ?_ ?_ | exact trivial | exact pure_aggB rfl | exact arr_pure _ | exact Load.pure _ | exact Area.pure _ | exact dvs_pure _ | exact pure_sc | exact pure_sl)) ?_
    repeat (first | refine q_seq ?_ | refine DCode.seq ?_ | refine DCode.region ?_ | refine DCode.skip ?_ | refine DCode.ret ?_ | refine DCode.condF rfl ?_ | (refine DOps.valK 26 rfl rfl rfl rfl ?_; refine ⟨_, OpVal.cast (OpVal.toU tt_ok rfl rfl rfl rfl (by omega) (by omega)) (vI_congr e1), ?_⟩) | refine DOps.call1 (ts := [ut m]) rfl rfl rfl rfl rfl Tryz.func63 rfl (by kernel_rfl) rfl (by repeat (first | exact pures_nil | refine pures_cons ?_ ?_ | exact trivial | exact pure_aggB rfl | exact arr_pure _ | exact Load.pure _ | exact Area.pure _ | exact dvs_pure _ | exact pure_sc | exact pure_sl)) (cd) ?_ | refine DOps.nil ?_ | (refine DOps.valK 0 rfl rfl rfl rfl ?_; first | refine ⟨_, (OpVal.move rfl rfl), ?_⟩) | (refine DOps.valK 1 rfl rfl rfl rfl ?_; first | refine ⟨_, (OpVal.assign rfl rfl), ?_⟩) | (refine DOps.k 14 rfl ?_; first | refine DOps.cmpT rfl rfl rfl rfl rfl rfl rfl (by omega) ?_ | refine DOps.cmpF rfl rfl rfl rfl rfl rfl rfl (by omega) ?_))
    exact endQ.ret rfl (.cons (.tmp rfl) .nil) (pures_cons trivial pures_nil) rfl
end Go.Proofs.YtejdeonbibbchaaGreatDoor
set_option linter.unusedVariables false
set_option linter.unusedSimpArgs false
set_option linter.constructorNameAsVariable false
namespace Go.Proofs.YtejdeonbibbchaaGreatDoor
open Go Go.RowKit Go.Proofs.YtejdeonbibbchaaGreatDoor.DL
set_option linter.unusedVariables false
set_option linter.unusedSimpArgs false
attribute [local irreducible] DCode DOps OpVal DCalls DCallsM DCallsB DCallsR thenQ seqQ inBlockQ endQ endQM OpNew DCf DDr DDr2 DAny

theorem fromN_cases (s : List UInt8) : (fromN s = 1 ∧ s[0]? = some 45) ∨ (fromN s = 0 ∧ s[0]? ≠ some 45) := by
  rw [fromN, List.head?_eq_getElem?]
  by_cases h : s[0]? = some 45
  · exact .inl ⟨if_pos h, h⟩
  · exact .inr ⟨if_neg h, h⟩
theorem foldN_snoc (n : Int) (l : List UInt8) (c : UInt8) : foldN n (l ++ [c]) = stepN (foldN n l) c := by rw [foldN, List.foldl_append]; rfl
theorem part_snoc {s : List UInt8} {i F : Nat} {c : UInt8} (h : s[i]? = some c) (hF : F ≤ i) : (s.take (i + 1)).drop F = (s.take i).drop F ++ [c] := by
  obtain ⟨hi, _⟩ := List.getElem?_eq_some_iff.1 h
  rw [List.take_add_one, h, List.drop_append_of_le_length (by rw [List.length_take]; omega)]
  rfl
set_option maxRecDepth 10000 in
set_option maxHeartbeats 8000000 in
theorem number_d (s : List UInt8) (hs : s.length ≤ 9223372036854775806) : DCalls Tryz.prog 59 [tT s] (fun ts => ts = [it (numK s), bt (decide (Lib.itoa (numK s) = s))]) := by
  have csg := signed_d (numK s) (numK_in s)
  have hK : numK s = if (digsN s).all isD then (if fromN s = 1 then IntKind.i64.wrap (IntKind.u64.wrap (0 - foldN 0 (digsN s))) else IntKind.i64.wrap (foldN 0 (digsN s))) else 0 := rfl
  have hbad := @numK_bad s
  have hdg : digsN s = (s.take 22).drop (fromN s) := rfl
  have hF := fromN_cases s
  generalize fromN s = F at *
  have h45 : (45 : UInt8).toNat = 45 := rfl
  have hF1 : F = 1 → 0 < s.length := fun e => by
    rcases hF with ⟨_, h⟩ | ⟨h, _⟩
    · obtain ⟨hi, _⟩ := List.getElem?_eq_some_iff.1 h; exact hi
    · omega
  have hFle : F ≤ 1 := by omega
  refine DCalls.enter tt_ok Tryz.func59 rfl Tryz.ntmps59 (by simp) (by repeat (first | exact pures_nil | refine pures_cons ?_ ?_ | exact trivial | exact pure_aggB rfl | exact arr_pure _ | exact Load.pure _ | exact Area.pure _ | exact dvs_pure _ | exact pure_sc | exact pure_sl)) ?_
  repeat (first | refine q_seq ?_ | refine DCode.seq ?_ | refine DCode.region ?_ | refine DOps.nil ?_ | (refine DOps.valK 0 rfl rfl rfl rfl ?_; first | refine ⟨_, (OpVal.move rfl rfl), ?_⟩) | (refine DOps.valK 1 rfl rfl rfl rfl ?_; first | refine ⟨_, (OpVal.assign rfl rfl), ?_⟩) | (refine DOps.valK 17 rfl rfl rfl rfl ?_; first | refine ⟨_, (OpVal.lenT tt_ok rfl rfl rfl rfl rfl rfl rfl), ?_⟩))
  refine DOps.cut [(15, vB (decide (F = 1)))] [8, 9, 10, 11, 12, 13, 14, 15] [] ⟨trivial, trivial⟩ trivial ?_ ?_
  · rcases hF with ⟨h, h0⟩ | ⟨h, h0⟩
    · rw [decide_eq_true h]
      have := hF1 h
      repeat (first | (refine DOps.valK 21 rfl rfl rfl rfl ?_; refine ⟨_, OpVal.idxT tt_ok rfl rfl rfl rfl rfl (by decide) h0, ?_⟩) | refine DOps.nil ?_ | (refine DOps.valK 0 rfl rfl rfl rfl ?_; first | refine ⟨_, (OpVal.move rfl rfl), ?_⟩) | (refine DOps.valK 2 rfl rfl rfl rfl ?_; first | refine ⟨_, (OpVal.pickT rfl rfl rfl), ?_⟩) | (refine DOps.k 12 rfl ?_; first | refine DOps.cmpT rfl rfl rfl rfl rfl rfl rfl (by omega) ?_ | refine DOps.cmpF rfl rfl rfl rfl rfl rfl rfl (by omega) ?_) | (refine DOps.k 14 rfl ?_; first | refine DOps.cmpT rfl rfl rfl rfl rfl rfl rfl (by omega) ?_ | refine DOps.cmpF rfl rfl rfl rfl rfl rfl rfl (by omega) ?_))
      exact ⟨rfl, by (repeat (first | exact Off.refl _ _ | refine Sub.base ?_ | refine Sub.junk ?_ | refine Sub.cons (by rfl) ?_ | refine Off.cons rfl ?_ | refine Off.junks rfl ?_)), by (repeat (first | exact MSubX.nil | refine MSubX.skip rfl ?_ | refine MSubX.cons (by rfl) ?_))⟩
    · rw [decide_eq_false (by omega)]
      by_cases hl : 0 < s.length
      · obtain ⟨b, hb⟩ : ∃ b, s[0]? = some b := ⟨s[0], List.getElem?_eq_getElem hl⟩
        have hbn : ¬ b.toNat = 45 := fun e => h0 (by rw [hb, ← UInt8.toNat_inj.1 (e.trans h45.symm)])
        repeat (first | (refine DOps.valK 21 rfl rfl rfl rfl ?_; refine ⟨_, OpVal.idxT tt_ok rfl rfl rfl rfl rfl (by decide) hb, ?_⟩) | refine DOps.nil ?_ | (refine DOps.valK 0 rfl rfl rfl rfl ?_; first | refine ⟨_, (OpVal.move rfl rfl), ?_⟩) | (refine DOps.valK 2 rfl rfl rfl rfl ?_; first | refine ⟨_, (OpVal.pickT rfl rfl rfl), ?_⟩) | (refine DOps.k 12 rfl ?_; first | refine DOps.cmpT rfl rfl rfl rfl rfl rfl rfl (by omega) ?_ | refine DOps.cmpF rfl rfl rfl rfl rfl rfl rfl (by omega) ?_) | (refine DOps.k 14 rfl ?_; first | refine DOps.cmpT rfl rfl rfl rfl rfl rfl rfl (by omega) ?_ | refine DOps.cmpF rfl rfl rfl rfl rfl rfl rfl (by omega) ?_))
        exact ⟨rfl, by (repeat (first | exact Off.refl _ _ | refine Sub.base ?_ | refine Sub.junk ?_ | refine Sub.cons (by rfl) ?_ | refine Off.cons rfl ?_ | refine Off.junks rfl ?_)), by (repeat (first | exact MSubX.nil | refine MSubX.skip rfl ?_ | refine MSubX.cons (by rfl) ?_))⟩
      · repeat (first | refine DOps.nil ?_ | refine DOps.off rfl rfl rfl ?_ | (refine DOps.valK 0 rfl rfl rfl rfl ?_; first | refine ⟨_, (OpVal.move rfl rfl), ?_⟩) | (refine DOps.valK 2 rfl rfl rfl rfl ?_; first | refine ⟨_, (OpVal.pickF rfl rfl rfl), ?_⟩) | (refine DOps.k 14 rfl ?_; first | refine DOps.cmpT rfl rfl rfl rfl rfl rfl rfl (by omega) ?_ | refine DOps.cmpF rfl rfl rfl rfl rfl rfl rfl (by omega) ?_))
        exact ⟨rfl, by (repeat (first | exact Off.refl _ _ | refine Sub.base ?_ | refine Sub.junk ?_ | refine Sub.cons (by rfl) ?_ | refine Off.cons rfl ?_ | refine Off.junks rfl ?_)), by (repeat (first | exact MSubX.nil | refine MSubX.skip rfl ?_ | refine MSubX.cons (by rfl) ?_))⟩
  intro env' M' hw
  repeat (first | refine q_then ?_ | refine q_thenX ?_ | refine q_thenR ?_ | refine q_block ?_ | refine q_blockX ?_ | refine q_blockR ?_ | refine q_seq ?_ | refine q_seqX ?_ | refine q_seqR ?_)
  refine DCode.weak hw ?_
  clear hw env' M'
  refine DCode.cut [(4, vI .i64 (F : Nat))] [4] [] ⟨trivial, trivial⟩ trivial ?_ ?_
  · refine DCode.condD rfl (fun h => ?_) (fun h => ?_)
    · repeat (first | refine DCode.region ?_ | refine DOps.nil ?_ | (refine DOps.valK 1 rfl rfl rfl rfl ?_; first | refine ⟨_, (OpVal.assign rfl rfl), ?_⟩))
      exact ⟨rfl, Sub.cons (vI_congr (by omega)) (by (repeat (first | exact Off.refl _ _ | refine Sub.base ?_ | refine Sub.junk ?_ | refine Sub.cons (by rfl) ?_ | refine Off.cons rfl ?_ | refine Off.junks rfl ?_))), by (repeat (first | exact MSubX.nil | refine MSubX.skip rfl ?_ | refine MSubX.cons (by rfl) ?_))⟩
    · repeat (first | refine DCode.skip ?_)
      exact ⟨rfl, Sub.cons (vI_congr (by omega)) (by (repeat (first | exact Off.refl _ _ | refine Sub.base ?_ | refine Sub.junk ?_ | refine Sub.cons (by rfl) ?_ | refine Off.cons rfl ?_ | refine Off.junks rfl ?_))), by (repeat (first | exact MSubX.nil | refine MSubX.skip rfl ?_ | refine MSubX.cons (by rfl) ?_))⟩
  intro env' M' hw
  repeat (first | refine q_then ?_ | refine q_thenX ?_ | refine q_thenR ?_ | refine q_block ?_ | refine q_blockX ?_ | refine q_blockR ?_ | refine q_seq ?_ | refine q_seqX ?_ | refine q_seqR ?_)
  refine DCode.weak hw ?_
  clear hw env' M'
  repeat (first | refine q_seq ?_ | refine DCode.seq ?_ | refine DCode.region ?_ | refine DCode.block ?_ | refine DOps.nil ?_ | (refine DOps.valK 0 rfl rfl rfl rfl ?_; first | refine ⟨_, (OpVal.move rfl rfl), ?_⟩) | (refine DOps.valK 1 rfl rfl rfl rfl ?_; first | refine ⟨_, (OpVal.assign rfl rfl), ?_⟩))
  refine DCode.loopG (fun s : Nat × Int => [(6, vI .i64 (s.1 : Nat)), (5, vI .u64 s.2)]) [2, 3, 5, 6, 17, 18, 19, 20, 21, 22, 23, 24, 25, 26, 27, 28, 29, 30, 31, 32, 33, 34, 35, 36, 37, 38, 39, 40, 41, 42, 43, 44] (fun _ => []) (fun x => x.1 ≤ s.length ∧ x.1 ≤ 22 ∧ F ≤ x.1 ∧ ((s.take x.1).drop F).all isD = true ∧ x.2 = foldN 0 ((s.take x.1).drop F)) (fun x => s.length - x.1) (F, 0) ⟨by show F ≤ s.length; omega, by show F ≤ 22; omega, Nat.le_refl _, by simp only []; rw [List.drop_eq_nil_of_le (by rw [List.length_take]; omega)]; rfl, by simp only []; rw [List.drop_eq_nil_of_le (by rw [List.length_take]; omega)]; rfl⟩ (fun i _ => ⟨trivial, trivial, trivial⟩) (fun i _ => trivial) (by (repeat (first | exact Off.refl _ _ | refine Sub.base ?_ | refine Sub.junk ?_ | refine Sub.cons (by rfl) ?_ | refine Off.cons rfl ?_ | refine Off.junks rfl ?_))) (by (repeat (first | exact MSubX.nil | refine MSubX.skip rfl ?_ | refine MSubX.cons (by rfl) ?_))) ?_
  intro ⟨i, n⟩ ⟨k1, k2, k3, k4, k5⟩
  simp only [] at k1 k2 k3 k4 k5
  show DCode _ _ _ _ _ ([(6, vI .i64 (i : Nat)), (5, vI .u64 n)] ++ junks _ _) ([] ++ _)
  by_cases hlt : i < s.length ∧ i < 22
  · obtain ⟨l1, l2⟩ := hlt
    obtain ⟨c, hb⟩ : ∃ c, s[i]? = some c := ⟨s[i], List.getElem?_eq_getElem l1⟩
    by_cases hd : isD c = true
    · have hdi := isD_iff.1 hd
      have hsn := part_snoc hb k3
      repeat (first | refine q_seq ?_ | refine q_then ?_ | refine q_block ?_ | refine DCode.seq ?_ | refine DCode.region ?_ | refine DCode.block ?_ | refine DCode.skip ?_ | refine DCode.condT rfl ?_ | refine DCode.condF rfl ?_ | (refine DOps.valK 21 rfl rfl rfl rfl ?_; refine ⟨_, OpVal.idxT tt_ok rfl rfl rfl rfl rfl (by omega) (by rw [Int.toNat_natCast]; exact hb), ?_⟩) | (refine DOps.valK 11 rfl rfl rfl rfl ?_; refine ⟨_, OpVal.cast (OpVal.arith (k := .u8) (r := IntKind.u8.wrap ((c.toNat : Int) - 48)) rfl rfl rfl rfl) (vI_congr (IntWalk.u8_in _ (by omega))), ?_⟩) | (refine DOps.valK 26 rfl rfl rfl rfl ?_; refine ⟨_, OpVal.conv tt_ok rfl rfl rfl rfl rfl rfl, ?_⟩) | refine DOps.nil ?_ | (refine DOps.valK 0 rfl rfl rfl rfl ?_; first | refine ⟨_, (OpVal.move rfl rfl), ?_⟩) | (refine DOps.valK 1 rfl rfl rfl rfl ?_; first | refine ⟨_, (OpVal.assign rfl rfl), ?_⟩) | (refine DOps.valK 10 rfl rfl rfl rfl ?_; first | refine ⟨_, (OpVal.add rfl rfl rfl (by omega) (by omega)), ?_⟩ | refine ⟨_, (OpVal.arith rfl rfl rfl rfl), ?_⟩) | (refine DOps.valK 17 rfl rfl rfl rfl ?_; first | refine ⟨_, (OpVal.lenT tt_ok rfl rfl rfl rfl rfl rfl rfl), ?_⟩) | (refine DOps.valK 2 rfl rfl rfl rfl ?_; first | refine ⟨_, (OpVal.pickT rfl rfl rfl), ?_⟩ | refine ⟨_, (OpVal.pickF rfl rfl rfl), ?_⟩) | (refine DOps.valK 15 rfl rfl rfl rfl ?_; first | refine ⟨_, (OpVal.arith rfl rfl rfl rfl), ?_⟩) | (refine DOps.k 14 rfl ?_; first | refine DOps.cmpT rfl rfl rfl rfl rfl rfl rfl (by omega) ?_ | refine DOps.cmpF rfl rfl rfl rfl rfl rfl rfl (by omega) ?_))
      exact ⟨(i + 1, stepN n c), ⟨l1, l2, by simp only []; omega, by simp only []; rw [hsn, List.all_append, k4]; simp [hd], by simp only []; rw [hsn, foldN_snoc, k5]⟩, by simp only []; omega, Sub.cons (vI_congr (by simp only []; omega)) (by (repeat (first | exact Off.refl _ _ | refine Sub.base ?_ | refine Sub.junk ?_ | refine Sub.cons (by rfl) ?_ | refine Off.cons rfl ?_ | refine Off.junks rfl ?_))), by (repeat (first | exact MSubX.nil | refine MSubX.skip rfl ?_ | refine MSubX.cons (by rfl) ?_))⟩
    · have hdn : ¬ (48 ≤ c.toNat ∧ c.toNat ≤ 57) := fun h => hd (isD_iff.2 h)
      have hmem : c ∈ digsN s := by
        rw [hdg]
        refine List.mem_iff_getElem?.2 ⟨i - F, ?_⟩
        rw [List.getElem?_drop, show F + (i - F) = i by omega, List.getElem?_take, if_pos l2]
        exact hb
      obtain ⟨b1, b2⟩ := hbad (List.all_eq_false.2 ⟨c, hmem, hd⟩)
      rw [b1, decide_eq_false b2]
      by_cases h48 : 48 ≤ c.toNat
      · repeat (first | refine q_seq ?_ | refine q_seqR ?_ | refine q_thenR ?_ | refine q_blockR ?_ | refine DCode.seq ?_ | refine DCode.region ?_ | refine DCode.block ?_ | refine DCode.skip ?_ | refine DCode.ret ?_ | refine DCode.condT rfl ?_ | (refine DOps.valK 21 rfl rfl rfl rfl ?_; refine ⟨_, OpVal.idxT tt_ok rfl rfl rfl rfl rfl (by omega) (by rw [Int.toNat_natCast]; exact hb), ?_⟩) | refine DOps.nil ?_ | (refine DOps.valK 0 rfl rfl rfl rfl ?_; first | refine ⟨_, (OpVal.move rfl rfl), ?_⟩) | (refine DOps.valK 1 rfl rfl rfl rfl ?_; first | refine ⟨_, (OpVal.assign rfl rfl), ?_⟩) | (refine DOps.valK 17 rfl rfl rfl rfl ?_; first | refine ⟨_, (OpVal.lenT tt_ok rfl rfl rfl rfl rfl rfl rfl), ?_⟩) | (refine DOps.valK 2 rfl rfl rfl rfl ?_; first | refine ⟨_, (OpVal.pickT rfl rfl rfl), ?_⟩ | refine ⟨_, (OpVal.pickF rfl rfl rfl), ?_⟩) | (refine DOps.k 14 rfl ?_; first | refine DOps.cmpT rfl rfl rfl rfl rfl rfl rfl (by omega) ?_ | refine DOps.cmpF rfl rfl rfl rfl rfl rfl rfl (by omega) ?_))
        exact endQ.ret rfl (.cons (.tmp rfl) (.cons (.tmp rfl) .nil)) (pures_cons trivial (pures_cons trivial pures_nil)) rfl
      · repeat (first | refine q_seq ?_ | refine q_seqR ?_ | refine q_thenR ?_ | refine q_blockR ?_ | refine DCode.seq ?_ | refine DCode.region ?_ | refine DCode.block ?_ | refine DCode.skip ?_ | refine DCode.ret ?_ | refine DCode.condT rfl ?_ | (refine DOps.valK 21 rfl rfl rfl rfl ?_; refine ⟨_, OpVal.idxT tt_ok rfl rfl rfl rfl rfl (by omega) (by rw [Int.toNat_natCast]; exact hb), ?_⟩) | refine DOps.nil ?_ | refine DOps.off rfl rfl rfl ?_ | (refine DOps.valK 0 rfl rfl rfl rfl ?_; first | refine ⟨_, (OpVal.move rfl rfl), ?_⟩) | (refine DOps.valK 1 rfl rfl rfl rfl ?_; first | refine ⟨_, (OpVal.assign rfl rfl), ?_⟩) | (refine DOps.valK 17 rfl rfl rfl rfl ?_; first | refine ⟨_, (OpVal.lenT tt_ok rfl rfl rfl rfl rfl rfl rfl), ?_⟩) | (refine DOps.valK 2 rfl rfl rfl rfl ?_; first | refine ⟨_, (OpVal.pickT rfl rfl rfl), ?_⟩) | (refine DOps.k 14 rfl ?_; first | refine DOps.cmpT rfl rfl rfl rfl rfl rfl rfl (by omega) ?_ | refine DOps.cmpF rfl rfl rfl rfl rfl rfl rfl (by omega) ?_))
        exact endQ.ret rfl (.cons (.tmp rfl) (.cons (.tmp rfl) .nil)) (pures_cons trivial (pures_cons trivial pures_nil)) rfl
  · have hall : (s.take i).drop F = digsN s := by
      rw [hdg]
      by_cases h22 : i = 22
      · rw [h22]
      · rw [List.take_of_length_le (by omega : s.length ≤ i), List.take_of_length_le (by omega : s.length ≤ 22)]
    rw [hall] at k4 k5
    rw [if_pos k4, ← k5] at hK
    by_cases hf : F = 1
    · rw [if_pos hf] at hK
      rw [hK] at csg ⊢
      by_cases hq : Lib.itoa (IntKind.i64.wrap (IntKind.u64.wrap (0 - n))) = s
      · rw [decide_eq_true hq]
        by_cases l1 : i < s.length
        · repeat (first | refine q_seq ?_ | refine q_seqX ?_ | refine q_thenX ?_ | refine q_blockX ?_ | refine DCode.seq ?_ | refine DCode.region ?_ | refine DCode.exit ?_ | refine DCode.ret ?_ | refine DCode.condT rfl ?_ | refine DCode.condF rfl ?_ | (refine DOps.valK 26 rfl rfl rfl rfl ?_; refine ⟨_, OpVal.conv tt_ok rfl rfl rfl rfl rfl rfl, ?_⟩) | refine DOps.call1 (ts := [it (IntKind.i64.wrap (IntKind.u64.wrap (0 - n)))]) rfl rfl rfl rfl rfl Tryz.func48 rfl (by kernel_rfl) rfl (by repeat (first | exact pures_nil | refine pures_cons ?_ ?_ | exact trivial | exact pure_aggB rfl | exact arr_pure _ | exact Load.pure _ | exact Area.pure _ | exact dvs_pure _ | exact pure_sc | exact pure_sl)) (csg) ?_ | (refine DOps.valK 12 rfl rfl rfl rfl ?_; refine ⟨_, OpVal.eqlST rfl rfl rfl hq, ?_⟩) | refine DOps.nil ?_ | (refine DOps.valK 0 rfl rfl rfl rfl ?_; first | refine ⟨_, (OpVal.move rfl rfl), ?_⟩) | (refine DOps.valK 1 rfl rfl rfl rfl ?_; first | refine ⟨_, (OpVal.assign rfl rfl), ?_⟩) | (refine DOps.valK 17 rfl rfl rfl rfl ?_; first | refine ⟨_, (OpVal.lenT tt_ok rfl rfl rfl rfl rfl rfl rfl), ?_⟩) | (refine DOps.valK 2 rfl rfl rfl rfl ?_; first | refine ⟨_, (OpVal.pickT rfl rfl rfl), ?_⟩) | (refine DOps.valK 11 rfl rfl rfl rfl ?_; first | refine ⟨_, (OpVal.arith rfl rfl rfl rfl), ?_⟩) | (refine DOps.k 12 rfl ?_; first | refine DOps.cmpT rfl rfl rfl rfl rfl rfl rfl (by omega) ?_ | refine DOps.cmpF rfl rfl rfl rfl rfl rfl rfl (by omega) ?_) | (refine DOps.k 14 rfl ?_; first | refine DOps.cmpT rfl rfl rfl rfl rfl rfl rfl (by omega) ?_ | refine DOps.cmpF rfl rfl rfl rfl rfl rfl rfl (by omega) ?_))
          exact endQ.ret rfl (.cons (.tmp rfl) (.cons (.tmp rfl) .nil)) (pures_cons trivial (pures_cons trivial pures_nil)) rfl
        · repeat (first | refine q_seq ?_ | refine q_seqX ?_ | refine q_thenX ?_ | refine q_blockX ?_ | refine DCode.seq ?_ | refine DCode.region ?_ | refine DCode.exit ?_ | refine DCode.ret ?_ | refine DCode.condT rfl ?_ | refine DCode.condF rfl ?_ | (refine DOps.valK 26 rfl rfl rfl rfl ?_; refine ⟨_, OpVal.conv tt_ok rfl rfl rfl rfl rfl rfl, ?_⟩) | refine DOps.call1 (ts := [it (IntKind.i64.wrap (IntKind.u64.wrap (0 - n)))]) rfl rfl rfl rfl rfl Tryz.func48 rfl (by kernel_rfl) rfl (by repeat (first | exact pures_nil | refine pures_cons ?_ ?_ | exact trivial | exact pure_aggB rfl | exact arr_pure _ | exact Load.pure _ | exact Area.pure _ | exact dvs_pure _ | exact pure_sc | exact pure_sl)) (csg) ?_ | (refine DOps.valK 12 rfl rfl rfl rfl ?_; refine ⟨_, OpVal.eqlST rfl rfl rfl hq, ?_⟩) | refine DOps.nil ?_ | refine DOps.off rfl rfl rfl ?_ | (refine DOps.valK 0 rfl rfl rfl rfl ?_; first | refine ⟨_, (OpVal.move rfl rfl), ?_⟩) | (refine DOps.valK 1 rfl rfl rfl rfl ?_; first | refine ⟨_, (OpVal.assign rfl rfl), ?_⟩) | (refine DOps.valK 17 rfl rfl rfl rfl ?_; first | refine ⟨_, (OpVal.lenT tt_ok rfl rfl rfl rfl rfl rfl rfl), ?_⟩) | (refine DOps.valK 2 rfl rfl rfl rfl ?_; first | refine ⟨_, (OpVal.pickF rfl rfl rfl), ?_⟩) | (refine DOps.valK 11 rfl rfl rfl rfl ?_; first | refine ⟨_, (OpVal.arith rfl rfl rfl rfl), ?_⟩) | (refine DOps.k 12 rfl ?_; first | refine DOps.cmpT rfl rfl rfl rfl rfl rfl rfl (by omega) ?_ | refine DOps.cmpF rfl rfl rfl rfl rfl rfl rfl (by omega) ?_) | (refine DOps.k 14 rfl ?_; first | refine DOps.cmpT rfl rfl rfl rfl rfl rfl rfl (by omega) ?_ | refine DOps.cmpF rfl rfl rfl rfl rfl rfl rfl (by omega) ?_))
          exact endQ.ret rfl (.cons (.tmp rfl) (.cons (.tmp rfl) .nil)) (pures_cons trivial (pures_cons trivial pures_nil)) rfl
      · rw [decide_eq_false hq]
        by_cases l1 : i < s.length
        · repeat (first | refine q_seq ?_ | refine q_seqX ?_ | refine q_thenX ?_ | refine q_blockX ?_ | refine DCode.seq ?_ | refine DCode.region ?_ | refine DCode.exit ?_ | refine DCode.ret ?_ | refine DCode.condT rfl ?_ | refine DCode.condF rfl ?_ | (refine DOps.valK 26 rfl rfl rfl rfl ?_; refine ⟨_, OpVal.conv tt_ok rfl rfl rfl rfl rfl rfl, ?_⟩) | refine DOps.call1 (ts := [it (IntKind.i64.wrap (IntKind.u64.wrap (0 - n)))]) rfl rfl rfl rfl rfl Tryz.func48 rfl (by kernel_rfl) rfl (by repeat (first | exact pures_nil | refine pures_cons ?_ ?_ | exact trivial | exact pure_aggB rfl | exact arr_pure _ | exact Load.pure _ | exact Area.pure _ | exact dvs_pure _ | exact pure_sc | exact pure_sl)) (csg) ?_ | (refine DOps.valK 12 rfl rfl rfl rfl ?_; refine ⟨_, OpVal.eqlSF rfl rfl rfl hq, ?_⟩) | refine DOps.nil ?_ | (refine DOps.valK 0 rfl rfl rfl rfl ?_; first | refine ⟨_, (OpVal.move rfl rfl), ?_⟩) | (refine DOps.valK 1 rfl rfl rfl rfl ?_; first | refine ⟨_, (OpVal.assign rfl rfl), ?_⟩) | (refine DOps.valK 17 rfl rfl rfl rfl ?_; first | refine ⟨_, (OpVal.lenT tt_ok rfl rfl rfl rfl rfl rfl rfl), ?_⟩) | (refine DOps.valK 2 rfl rfl rfl rfl ?_; first | refine ⟨_, (OpVal.pickT rfl rfl rfl), ?_⟩) | (refine DOps.valK 11 rfl rfl rfl rfl ?_; first | refine ⟨_, (OpVal.arith rfl rfl rfl rfl), ?_⟩) | (refine DOps.k 12 rfl ?_; first | refine DOps.cmpT rfl rfl rfl rfl rfl rfl rfl (by omega) ?_ | refine DOps.cmpF rfl rfl rfl rfl rfl rfl rfl (by omega) ?_) | (refine DOps.k 14 rfl ?_; first | refine DOps.cmpT rfl rfl rfl rfl rfl rfl rfl (by omega) ?_ | refine DOps.cmpF rfl rfl rfl rfl rfl rfl rfl (by omega) ?_))
          exact endQ.ret rfl (.cons (.tmp rfl) (.cons (.tmp rfl) .nil)) (pures_cons trivial (pures_cons trivial pures_nil)) rfl
        · repeat (first | refine q_seq ?_ | refine q_seqX ?_ | refine q_thenX ?_ | refine q_blockX ?_ | refine DCode.seq ?_ | refine DCode.region ?_ | refine DCode.exit ?_ | refine DCode.ret ?_ | refine DCode.condT rfl ?_ | refine DCode.condF rfl ?_ | (refine DOps.valK 26 rfl rfl rfl rfl ?_; refine ⟨_, OpVal.conv tt_ok rfl rfl rfl rfl rfl rfl, ?_⟩) | refine DOps.call1 (ts := [it (IntKind.i64.wrap (IntKind.u64.wrap (0 - n)))]) rfl rfl rfl rfl rfl Tryz.func48 rfl (by kernel_rfl) rfl (by repeat (first | exact pures_nil | refine pures_cons ?_ ?_ | exact trivial | exact pure_aggB rfl | exact arr_pure _ | exact Load.pure _ | exact Area.pure _ | exact dvs_pure _ | exact pure_sc | exact pure_sl)) (csg) ?_ | (refine DOps.valK 12 rfl rfl rfl rfl ?_; refine ⟨_, OpVal.eqlSF rfl rfl rfl hq, ?_⟩) | refine DOps.nil ?_ | refine DOps.off rfl rfl rfl ?_ | (refine DOps.valK 0 rfl rfl rfl rfl ?_; first | refine ⟨_, (OpVal.move rfl rfl), ?_⟩) | (refine DOps.valK 1 rfl rfl rfl rfl ?_; first | refine ⟨_, (OpVal.assign rfl rfl), ?_⟩) | (refine DOps.valK 17 rfl rfl rfl rfl ?_; first | refine ⟨_, (OpVal.lenT tt_ok rfl rfl rfl rfl rfl rfl rfl), ?_⟩) | (refine DOps.valK 2 rfl rfl rfl rfl ?_; first | refine ⟨_, (OpVal.pickF rfl rfl rfl), ?_⟩) | (refine DOps.valK 11 rfl rfl rfl rfl ?_; first | refine ⟨_, (OpVal.arith rfl rfl rfl rfl), ?_⟩) | (refine DOps.k 12 rfl ?_; first | refine DOps.cmpT rfl rfl rfl rfl rfl rfl rfl (by omega) ?_ | refine DOps.cmpF rfl rfl rfl rfl rfl rfl rfl (by omega) ?_) | (refine DOps.k 14 rfl ?_; first | refine DOps.cmpT rfl rfl rfl rfl rfl rfl rfl (by omega) ?_ | refine DOps.cmpF rfl rfl rfl rfl rfl rfl rfl (by omega) ?_))
          exact endQ.ret rfl (.cons (.tmp rfl) (.cons (.tmp rfl) .nil)) (pures_cons trivial (pures_cons trivial pures_nil)) rfl
    · rw [if_neg hf] at hK
      rw [hK] at csg ⊢
      by_cases hq : Lib.itoa (IntKind.i64.wrap n) = s
      · rw [decide_eq_true hq]
        by_cases l1 : i < s.length
        · repeat (first | refine q_seq ?_ | refine q_seqX ?_ | refine q_thenX ?_ | refine q_blockX ?_ | refine DCode.seq ?_ | refine DCode.region ?_ | refine DCode.skip ?_ | refine DCode.exit ?_ | refine DCode.ret ?_ | refine DCode.condF rfl ?_ | (refine DOps.valK 26 rfl rfl rfl rfl ?_; refine ⟨_, OpVal.conv tt_ok rfl rfl rfl rfl rfl rfl, ?_⟩) | refine DOps.call1 (ts := [it (IntKind.i64.wrap n)]) rfl rfl rfl rfl rfl Tryz.func48 rfl (by kernel_rfl) rfl (by repeat (first | exact pures_nil | refine pures_cons ?_ ?_ | exact trivial | exact pure_aggB rfl | exact arr_pure _ | exact Load.pure _ | exact Area.pure _ | exact dvs_pure _ | exact pure_sc | exact pure_sl)) (csg) ?_ | (refine DOps.valK 12 rfl rfl rfl rfl ?_; refine ⟨_, OpVal.eqlST rfl rfl rfl hq, ?_⟩) | refine DOps.nil ?_ | (refine DOps.valK 0 rfl rfl rfl rfl ?_; first | refine ⟨_, (OpVal.move rfl rfl), ?_⟩) | (refine DOps.valK 1 rfl rfl rfl rfl ?_; first | refine ⟨_, (OpVal.assign rfl rfl), ?_⟩) | (refine DOps.valK 17 rfl rfl rfl rfl ?_; first | refine ⟨_, (OpVal.lenT tt_ok rfl rfl rfl rfl rfl rfl rfl), ?_⟩) | (refine DOps.valK 2 rfl rfl rfl rfl ?_; first | refine ⟨_, (OpVal.pickT rfl rfl rfl), ?_⟩) | (refine DOps.k 12 rfl ?_; first | refine DOps.cmpT rfl rfl rfl rfl rfl rfl rfl (by omega) ?_ | refine DOps.cmpF rfl rfl rfl rfl rfl rfl rfl (by omega) ?_) | (refine DOps.k 14 rfl ?_; first | refine DOps.cmpT rfl rfl rfl rfl rfl rfl rfl (by omega) ?_ | refine DOps.cmpF rfl rfl rfl rfl rfl rfl rfl (by omega) ?_))
          exact endQ.ret rfl (.cons (.tmp rfl) (.cons (.tmp rfl) .nil)) (pures_cons trivial (pures_cons trivial pures_nil)) rfl
        · repeat (first | refine q_seq ?_ | refine q_seqX ?_ | refine q_thenX ?_ | refine q_blockX ?_ | refine DCode.seq ?_ | refine DCode.region ?_ | refine DCode.skip ?_ | refine DCode.exit ?_ | refine DCode.ret ?_ | refine DCode.condF rfl ?_ | (refine DOps.valK 26 rfl rfl rfl rfl ?_; refine ⟨_, OpVal.conv tt_ok rfl rfl rfl rfl rfl rfl, ?_⟩) | refine DOps.call1 (ts := [it (IntKind.i64.wrap n)]) rfl rfl rfl rfl rfl Tryz.func48 rfl (by kernel_rfl) rfl (by repeat (first | exact pures_nil | refine pures_cons ?_ ?_ | exact trivial | exact pure_aggB rfl | exact arr_pure _ | exact Load.pure _ | exact Area.pure _ | exact dvs_pure _ | exact pure_sc | exact pure_sl)) (csg) ?_ | (refine DOps.valK 12 rfl rfl rfl rfl ?_; refine ⟨_, OpVal.eqlST rfl rfl rfl hq, ?_⟩) | refine DOps.nil ?_ | refine DOps.off rfl rfl rfl ?_ | (refine DOps.valK 0 rfl rfl rfl rfl ?_; first | refine ⟨_, (OpVal.move rfl rfl), ?_⟩) | (refine DOps.valK 1 rfl rfl rfl rfl ?_; first | refine ⟨_, (OpVal.assign rfl rfl), ?_⟩) | (refine DOps.valK 17 rfl rfl rfl rfl ?_; first | refine ⟨_, (OpVal.lenT tt_ok rfl rfl rfl rfl rfl rfl rfl), ?_⟩) | (refine DOps.valK 2 rfl rfl rfl rfl ?_; first | refine ⟨_, (OpVal.pickF rfl rfl rfl), ?_⟩) | (refine DOps.k 12 rfl ?_; first | refine DOps.cmpT rfl rfl rfl rfl rfl rfl rfl (by omega) ?_ | refine DOps.cmpF rfl rfl rfl rfl rfl rfl rfl (by omega) ?_) | (refine DOps.k 14 rfl ?_; first | refine DOps.cmpT rfl rfl rfl rfl rfl rfl rfl (by omega) ?_ | refine DOps.cmpF rfl rfl rfl rfl rfl rfl rfl (by omega) ?_))
          exact endQ.ret rfl (.cons (.tmp rfl) (.cons (.tmp rfl) .nil)) (pures_cons trivial (pures_cons trivial pures_nil)) rfl
      · rw [decide_eq_false hq]
        by_cases l1 : i < s.length
        · repeat (first | refine q_seq ?_ | refine q_seqX ?_ | refine q_thenX ?_ | refine q_blockX ?_ | refine DCode.seq ?_ | refine DCode.region ?_ | refine DCode.skip ?_ | refine DCode.exit ?_ | refine DCode.ret ?_ | refine DCode.condF rfl ?_ | (refine DOps.valK 26 rfl rfl rfl rfl ?_; refine ⟨_, OpVal.conv tt_ok rfl rfl rfl rfl rfl rfl, ?_⟩) | refine DOps.call1 (ts := [it (IntKind.i64.wrap n)]) rfl rfl rfl rfl rfl Tryz.func48 rfl (by kernel_rfl) rfl (by repeat (first | exact pures_nil | refine pures_cons ?_ ?_ | exact trivial | exact pure_aggB rfl | exact arr_pure _ | exact Load.pure _ | exact Area.pure _ | exact dvs_pure _ | exact pure_sc | exact pure_sl)) (csg) ?_ | (refine DOps.valK 12 rfl rfl rfl rfl ?_; refine ⟨_, OpVal.eqlSF rfl rfl rfl hq, ?_⟩) | refine DOps.nil ?_ | (refine DOps.valK 0 rfl rfl rfl rfl ?_; first | refine ⟨_, (OpVal.move rfl rfl), ?_⟩) | (refine DOps.valK 1 rfl rfl rfl rfl ?_; first | refine ⟨_, (OpVal.assign rfl rfl), ?_⟩) | (refine DOps.valK 17 rfl rfl rfl rfl ?_; first | refine ⟨_, (OpVal.lenT tt_ok rfl rfl rfl rfl rfl rfl rfl), ?_⟩) | (refine DOps.valK 2 rfl rfl rfl rfl ?_; first | refine ⟨_, (OpVal.pickT rfl rfl rfl), ?_⟩) | (refine DOps.k 12 rfl ?_; first | refine DOps.cmpT rfl rfl rfl rfl rfl rfl rfl (by omega) ?_ | refine DOps.cmpF rfl rfl rfl rfl rfl rfl rfl (by omega) ?_) | (refine DOps.k 14 rfl ?_; first | refine DOps.cmpT rfl rfl rfl rfl rfl rfl rfl (by omega) ?_ | refine DOps.cmpF rfl rfl rfl rfl rfl rfl rfl (by omega) ?_))
          exact endQ.ret rfl (.cons (.tmp rfl) (.cons (.tmp rfl) .nil)) (pures_cons trivial (pures_cons trivial pures_nil)) rfl
        · repeat (first | refine q_seq ?_ | refine q_seqX ?_ | refine q_thenX ?_ | refine q_blockX ?_ | refine DCode.seq ?_ | refine DCode.region ?_ | refine DCode.skip ?_ | refine DCode.exit ?_ | refine DCode.ret ?_ | refine DCode.condF rfl ?_ | (refine DOps.valK 26 rfl rfl rfl rfl ?_; refine ⟨_, OpVal.conv tt_ok rfl rfl rfl rfl rfl rfl, ?_⟩) | refine DOps.call1 (ts := [it (IntKind.i64.wrap n)]) rfl rfl rfl rfl rfl Tryz.func48 rfl (by kernel_rfl) rfl (by repeat (first | exact pures_nil | refine pures_cons ?_ ?_ | exact trivial | exact pure_aggB rfl | exact arr_pure _ | exact Load.pure _ | exact Area.pure _ | exact dvs_pure _ | exact pure_sc | exact pure_sl)) (csg) ?_ | (refine DOps.valK 12 rfl rfl rfl rfl ?_; refine ⟨_, OpVal.eqlSF rfl rfl rfl hq, ?_⟩) | refine DOps.nil ?_ | refine DOps.off rfl rfl rfl ?_ | (refine DOps.valK 0 rfl rfl rfl rfl ?_; first | refine ⟨_, (OpVal.move rfl rfl), ?_⟩) | (refine DOps.valK 1 rfl rfl rfl rfl ?_; first | refine ⟨_, (OpVal.assign rfl rfl), ?_⟩) | (refine DOps.valK 17 rfl rfl rfl rfl ?_; first | refine ⟨_, (OpVal.lenT tt_ok rfl rfl rfl rfl rfl rfl rfl), ?_⟩) | (refine DOps.valK 2 rfl rfl rfl rfl ?_; first | refine ⟨_, (OpVal.pickF rfl rfl rfl), ?_⟩) | (refine DOps.k 12 rfl ?_; first | refine DOps.cmpT rfl rfl rfl rfl rfl rfl rfl (by omega) ?_ | refine DOps.cmpF rfl rfl rfl rfl rfl rfl rfl (by omega) ?_) | (refine DOps.k 14 rfl ?_; first | refine DOps.cmpT rfl rfl rfl rfl rfl rfl rfl (by omega) ?_ | refine DOps.cmpF rfl rfl rfl rfl rfl rfl rfl (by omega) ?_))
          exact endQ.ret rfl (.cons (.tmp rfl) (.cons (.tmp rfl) .nil)) (pures_cons trivial (pures_cons trivial pures_nil)) rfl
end Go.Proofs.YtejdeonbibbchaaGreatDoor
set_option linter.unusedVariables false
set_option linter.unusedSimpArgs false
set_option linter.constructorNameAsVariable false
namespace Go.Proofs.YtejdeonbibbchaaGreatDoor
open Go Go.RowKit Go.Proofs.YtejdeonbibbchaaGreatDoor.DL
set_option linter.unusedVariables false
set_option linter.unusedSimpArgs false
attribute [local irreducible] DCode DOps OpVal DCalls DCallsM DCallsB DCallsR thenQ seqQ inBlockQ endQ endQM OpNew DCf DDr DDr2 DAny

theorem split_at {s : List UInt8} {i : Nat} {b : UInt8} (hb : s[i]? = some b) : s = s.take i ++ b :: s.drop (i + 1) := by
  obtain ⟨hi, e⟩ := List.getElem?_eq_some_iff.1 hb
  rw [← e, ← List.drop_eq_getElem_cons hi, List.take_append_drop]
theorem part_at {s : List UInt8} {f i : Nat} {c : UInt8} (hfi : f ≤ i) (hc : s[i]? = some c) : s.drop f = (s.take i).drop f ++ c :: s.drop (i + 1) := by
  conv => lhs; rw [split_at hc]
  obtain ⟨hi, _⟩ := List.getElem?_eq_some_iff.1 hc
  rw [List.drop_append_of_le_length (by rw [List.length_take]; omega)]
theorem spn_step {c : UInt8} {k : Nat} {s : List UInt8} {out : List (List UInt8)} {f i : Nat} (h : spn c k s = out ++ spn c (k - out.length) (s.drop f)) (hk : out.length < k) (hfi : f ≤ i) (hc : s[i]? = some c) (hn : c ∉ (s.take i).drop f) : spn c k s = (out ++ [(s.take i).drop f]) ++ spn c (k - (out ++ [(s.take i).drop f]).length) (s.drop (i + 1)) := by
  rw [h, part_at hfi hc, show k - out.length = (k - (out.length + 1)) + 1 by omega, spn_hit hn]
  simp
theorem not_drop_succ {c b : UInt8} {s : List UInt8} {f i : Nat} (hfi : f ≤ i) (hb : s[i]? = some b) (h : c ∉ (s.take i).drop f) (hne : b ≠ c) : c ∉ (s.take (i + 1)).drop f := by
  rw [part_snoc hb hfi]
  simpa using ⟨h, fun e => hne e.symm⟩
theorem strs_pure' (X : List (List UInt8)) : ∀ c ∈ (X.map dS).map CV.d, c.pure := fun c hc => by
  obtain ⟨d, _, rfl⟩ := List.mem_map.1 hc
  trivial
set_option maxRecDepth 10000 in
set_option maxHeartbeats 8000000 in
theorem words_d (s : List UInt8) (k : Nat) (hs : s.length ≤ 4294967280) (hk0 : k ≤ 100) : DCalls Tryz.prog 41 [tT s, it ((k : Int) + 1)] (fun ts => ts = [tL (spn 32 k s)]) := by
  refine DCalls.enter tt_ok Tryz.func41 rfl Tryz.ntmps41 (by simp) (by repeat (first | exact pures_nil | refine pures_cons ?_ ?_ | exact trivial | exact pure_aggB rfl | exact arr_pure _ | exact Load.pure _ | exact Area.pure _ | exact dvs_pure _ | exact pure_sc | exact pure_sl)) ?_
  repeat (first | refine q_seq ?_ | refine DCode.seq ?_ | refine DCode.region ?_ | refine DCode.block ?_ | refine DOps.bslR tt_ok 900 [] rfl rfl rfl rfl rfl rfl rfl rfl rfl rfl (Nat.zero_le _) rfl rfl rfl rfl (fun v0 => ?_) | refine DOps.nil ?_ | (refine DOps.valK 1 rfl rfl rfl rfl ?_; first | refine ⟨_, (OpVal.assign rfl rfl), ?_⟩))
  refine DCode.loopG (fun s : List (List UInt8) × Nat × Nat × Value => [(7, vI .i64 (s.2.2.1 : Nat)), (6, vI .i64 (s.2.1 : Nat)), (5, .v (.one (.row 900 s.2.2.2)))]) [5, 6, 7, 9, 10, 11, 12, 13, 14, 15, 16, 17, 18, 19, 20, 21, 22, 23, 24, 25, 26, 27, 28, 29, 30, 31, 32, 33, 34] (fun s => [(900, some (.row 9 1 s.1.length s.2.2.2 ((s.1.map dS).map .d) false))]) (fun x => x.2.2.1 ≤ s.length ∧ x.2.1 ≤ x.2.2.1 ∧ x.1.length ≤ k ∧ spn 32 k s = x.1 ++ spn 32 (k - x.1.length) (s.drop x.2.1) ∧ (32 : UInt8) ∉ (s.take x.2.2.1).drop x.2.1) (fun x => s.length - x.2.2.1) ([], 0, 0, v0) ⟨Nat.zero_le _, Nat.zero_le _, Nat.zero_le _, rfl, by simp⟩ (fun i _ => ⟨trivial, trivial, trivial, trivial⟩) (fun i _ => ⟨⟨_, rfl, fun c hc => CV.pure_ok (strs_pure' _ c hc)⟩, trivial⟩) (by (repeat (first | exact Off.refl _ _ | refine Sub.base ?_ | refine Sub.junk ?_ | refine Sub.cons (by rfl) ?_ | refine Off.cons rfl ?_ | refine Off.junks rfl ?_))) (by (repeat (first | exact MSubX.nil | refine MSubX.skip rfl ?_ | refine MSubX.cons (by rfl) ?_))) ?_
  intro ⟨out, f, i, v⟩ ⟨h1, h2, h3, h4, h5⟩
  simp only [] at h1 h2 h3 h4 h5
  show DCode _ _ _ _ _ ([(7, vI .i64 (i : Nat)), (6, vI .i64 (f : Nat)), (5, .v (.one (.row 900 v)))] ++ junks _ _) ([(900, some (.row 9 1 out.length v ((out.map dS).map .d) false))] ++ _)
  by_cases hlt : i < s.length ∧ out.length < k
  · obtain ⟨hlt, hlk⟩ := hlt
    obtain ⟨b, hb⟩ : ∃ b, s[i]? = some b := ⟨s[i], List.getElem?_eq_getElem hlt⟩
    by_cases hbc : b = 32
    · have hbn : b.toNat = 32 := by rw [hbc]; rfl
      have hn := spn_step h4 hlk h2 (by rw [hb, hbc]) h5
      generalize hx : (s.take i).drop f = x at *
      repeat (first | refine q_seq ?_ | refine DCode.seq ?_ | refine DCode.region ?_ | refine DCode.block ?_ | refine DCode.skip ?_ | refine DCode.condT rfl ?_ | (refine DOps.valK 21 rfl rfl rfl rfl ?_; refine ⟨_, OpVal.idxT tt_ok rfl rfl rfl rfl rfl (by omega) (by rw [Int.toNat_natCast]; exact hb), ?_⟩) | (refine DOps.valK 22 rfl rfl rfl rfl ?_; refine ⟨_, OpVal.cast (OpVal.sliceT (b := f) (e := i) tt_ok rfl rfl rfl rfl ⟨_, rfl⟩ ⟨_, rfl⟩ h2 h1) (congrArg vT hx), ?_⟩) | (refine DOps.k 28 rfl ?_; refine DOps.new (r := .v (.one (.d (.sl 1 1 fun _ _ => dS (x))))) rfl rfl rfl (OpNew.bsl tt_ok [dS (x)] _ rfl rfl rfl rfl rfl rfl rfl rfl rfl rfl (one_str (x))) ?_) | refine DOps.nil ?_ | (refine DOps.valK 0 rfl rfl rfl rfl ?_; first | refine ⟨_, (OpVal.move rfl rfl), ?_⟩) | (refine DOps.valK 17 rfl rfl rfl rfl ?_; first | refine ⟨_, (OpVal.lenT tt_ok rfl rfl rfl rfl rfl rfl rfl), ?_⟩ | refine ⟨_, (OpVal.lenRow tt_ok rfl rfl rfl rfl rfl rfl rfl rfl), ?_⟩) | (refine DOps.valK 2 rfl rfl rfl rfl ?_; first | refine ⟨_, (OpVal.pickT rfl rfl rfl), ?_⟩) | (refine DOps.valK 11 rfl rfl rfl rfl ?_; first | refine ⟨_, (OpVal.sub rfl rfl rfl (by omega) (by omega)), ?_⟩) | (refine DOps.k 12 rfl ?_; first | refine DOps.cmpT rfl rfl rfl rfl rfl rfl rfl (by omega) ?_ | refine DOps.cmpF rfl rfl rfl rfl rfl rfl rfl (by omega) ?_) | (refine DOps.k 14 rfl ?_; first | refine DOps.cmpT rfl rfl rfl rfl rfl rfl rfl (by omega) ?_ | refine DOps.cmpF rfl rfl rfl rfl rfl rfl rfl (by omega) ?_))
      refine DOps.append (n' := (out ++ [x]).length) (cs' := ((out ++ [x]).map dS).map .d) tt_ok [dS (x)] rfl rfl rfl rfl rfl rfl rfl rfl rfl rfl rfl rfl rfl (by omega) (by show ((out).length + 1) * 16 ≤ 140737488355328; omega) (by show (out).length + 1 ≤ 9223372036854775807; omega) rfl (one_str (x)) (by simp) (strs_snoc (out) (x)) fun v' => ?_
      repeat (first | refine q_seq ?_ | refine q_then ?_ | refine q_block ?_ | refine DCode.region ?_ | refine DOps.nil ?_ | (refine DOps.valK 0 rfl rfl rfl rfl ?_; first | refine ⟨_, (OpVal.move rfl rfl), ?_⟩) | (refine DOps.valK 1 rfl rfl rfl rfl ?_; first | refine ⟨_, (OpVal.assign rfl rfl), ?_⟩) | (refine DOps.valK 10 rfl rfl rfl rfl ?_; first | refine ⟨_, (OpVal.add rfl rfl rfl (by omega) (by omega)), ?_⟩))
      exact ⟨(out ++ [x], i + 1, i + 1, v'), ⟨hlt, Nat.le_refl _, by simp; omega, hn, by simp⟩, by simp only []; omega, Sub.cons (vI_congr (by simp only []; omega)) (Sub.cons (vI_congr (by simp only []; omega)) (by (repeat (first | exact Off.refl _ _ | refine Sub.base ?_ | refine Sub.junk ?_ | refine Sub.cons (by rfl) ?_ | refine Off.cons rfl ?_ | refine Off.junks rfl ?_)))), by (repeat (first | exact MSubX.nil | refine MSubX.skip rfl ?_ | refine MSubX.cons (by rfl) ?_))⟩
    · have hbn : ¬ b.toNat = 32 := fun e => hbc (UInt8.toNat_inj.1 e)
      repeat (first | refine q_seq ?_ | refine q_then ?_ | refine q_block ?_ | refine DCode.seq ?_ | refine DCode.region ?_ | refine DCode.block ?_ | refine DCode.skip ?_ | refine DCode.condT rfl ?_ | refine DCode.condF rfl ?_ | (refine DOps.valK 21 rfl rfl rfl rfl ?_; refine ⟨_, OpVal.idxT tt_ok rfl rfl rfl rfl rfl (by omega) (by rw [Int.toNat_natCast]; exact hb), ?_⟩) | refine DOps.nil ?_ | (refine DOps.valK 0 rfl rfl rfl rfl ?_; first | refine ⟨_, (OpVal.move rfl rfl), ?_⟩) | (refine DOps.valK 1 rfl rfl rfl rfl ?_; first | refine ⟨_, (OpVal.assign rfl rfl), ?_⟩) | (refine DOps.valK 10 rfl rfl rfl rfl ?_; first | refine ⟨_, (OpVal.add rfl rfl rfl (by omega) (by omega)), ?_⟩) | (refine DOps.valK 17 rfl rfl rfl rfl ?_; first | refine ⟨_, (OpVal.lenT tt_ok rfl rfl rfl rfl rfl rfl rfl), ?_⟩ | refine ⟨_, (OpVal.lenRow tt_ok rfl rfl rfl rfl rfl rfl rfl rfl), ?_⟩) | (refine DOps.valK 2 rfl rfl rfl rfl ?_; first | refine ⟨_, (OpVal.pickT rfl rfl rfl), ?_⟩) | (refine DOps.valK 11 rfl rfl rfl rfl ?_; first | refine ⟨_, (OpVal.sub rfl rfl rfl (by omega) (by omega)), ?_⟩) | (refine DOps.k 12 rfl ?_; first | refine DOps.cmpT rfl rfl rfl rfl rfl rfl rfl (by omega) ?_ | refine DOps.cmpF rfl rfl rfl rfl rfl rfl rfl (by omega) ?_) | (refine DOps.k 14 rfl ?_; first | refine DOps.cmpT rfl rfl rfl rfl rfl rfl rfl (by omega) ?_ | refine DOps.cmpF rfl rfl rfl rfl rfl rfl rfl (by omega) ?_))
      exact ⟨(out, f, i + 1, v), ⟨hlt, by simp only []; omega, h3, h4, not_drop_succ h2 hb h5 hbc⟩, by simp only []; omega, Sub.cons (vI_congr (by simp only []; omega)) (by (repeat (first | exact Off.refl _ _ | refine Sub.base ?_ | refine Sub.junk ?_ | refine Sub.cons (by rfl) ?_ | refine Off.cons rfl ?_ | refine Off.junks rfl ?_))), by (repeat (first | exact MSubX.nil | refine MSubX.skip rfl ?_ | refine MSubX.cons (by rfl) ?_))⟩
  · have h4 : spn 32 k s = out ++ [s.drop f] := by
      by_cases hik : out.length = k
      · rw [h4, hik, Nat.sub_self]; rfl
      · obtain rfl : i = s.length := by omega
        rw [List.take_length] at h5
        rw [h4, spn_none h5]
    have hf : f ≤ s.length := by omega
    generalize hx : s.drop f = x at *
    by_cases hlt2 : i < s.length
    · repeat (first | refine q_seq ?_ | refine q_seqX ?_ | refine q_thenX ?_ | refine q_blockX ?_ | refine DCode.seq ?_ | refine DCode.region ?_ | refine DCode.exit ?_ | refine DCode.condF rfl ?_ | (refine DOps.valK 22 rfl rfl rfl rfl ?_; refine ⟨_, OpVal.cast (OpVal.sliceT (b := f) (e := s.length) tt_ok rfl rfl rfl rfl ⟨_, rfl⟩ rfl hf (Nat.le_refl _)) (by rw [List.take_length, hx]), ?_⟩) | (refine DOps.k 28 rfl ?_; refine DOps.new (r := .v (.one (.d (.sl 1 1 fun _ _ => dS (x))))) rfl rfl rfl (OpNew.bsl tt_ok [dS (x)] _ rfl rfl rfl rfl rfl rfl rfl rfl rfl rfl (one_str (x))) ?_) | refine DOps.nil ?_ | (refine DOps.valK 0 rfl rfl rfl rfl ?_; first | refine ⟨_, (OpVal.move rfl rfl), ?_⟩) | (refine DOps.valK 17 rfl rfl rfl rfl ?_; first | refine ⟨_, (OpVal.lenT tt_ok rfl rfl rfl rfl rfl rfl rfl), ?_⟩ | refine ⟨_, (OpVal.lenRow tt_ok rfl rfl rfl rfl rfl rfl rfl rfl), ?_⟩) | (refine DOps.valK 2 rfl rfl rfl rfl ?_; first | refine ⟨_, (OpVal.pickT rfl rfl rfl), ?_⟩) | (refine DOps.valK 11 rfl rfl rfl rfl ?_; first | refine ⟨_, (OpVal.sub rfl rfl rfl (by omega) (by omega)), ?_⟩) | (refine DOps.k 14 rfl ?_; first | refine DOps.cmpT rfl rfl rfl rfl rfl rfl rfl (by omega) ?_ | refine DOps.cmpF rfl rfl rfl rfl rfl rfl rfl (by omega) ?_))
      refine DOps.append (n' := (out ++ [x]).length) (cs' := ((out ++ [x]).map dS).map .d) tt_ok [dS (x)] rfl rfl rfl rfl rfl rfl rfl rfl rfl rfl rfl rfl rfl (by omega) (by show ((out).length + 1) * 16 ≤ 140737488355328; omega) (by show (out).length + 1 ≤ 9223372036854775807; omega) rfl (one_str (x)) (by simp) (strs_snoc (out) (x)) fun v' => ?_
      repeat (first | refine DOps.nil ?_ | (refine DOps.valK 1 rfl rfl rfl rfl ?_; refine ⟨_, OpVal.assign rfl rfl, ?_⟩))
      repeat (first | refine q_then ?_ | refine q_thenX ?_ | refine q_thenR ?_ | refine q_block ?_ | refine q_blockX ?_ | refine q_blockR ?_ | refine q_seq ?_ | refine q_seqX ?_ | refine q_seqR ?_)
      rw [h4]
      refine DCode.freeze (b := 900) (d := 5) ((out ++ [x]).map dS) (elS (out ++ [x])) rfl rfl (strs_flat _) ?_
      repeat (first | refine q_seq ?_ | refine DCode.seq ?_ | refine DCode.region ?_ | refine DCode.ret ?_ | refine DOps.nil ?_ | (refine DOps.valK 0 rfl rfl rfl rfl ?_; first | refine ⟨_, (OpVal.move rfl rfl), ?_⟩) | (refine DOps.valK 1 rfl rfl rfl rfl ?_; first | refine ⟨_, (OpVal.assign rfl rfl), ?_⟩))
      exact endQ.ret rfl (.cons (.tmp rfl) .nil) (pures_cons trivial pures_nil) rfl
    · repeat (first | refine q_seq ?_ | refine q_seqX ?_ | refine q_thenX ?_ | refine q_blockX ?_ | refine DCode.seq ?_ | refine DCode.region ?_ | refine DCode.exit ?_ | refine DCode.condF rfl ?_ | (refine DOps.valK 22 rfl rfl rfl rfl ?_; refine ⟨_, OpVal.cast (OpVal.sliceT (b := f) (e := s.length) tt_ok rfl rfl rfl rfl ⟨_, rfl⟩ rfl hf (Nat.le_refl _)) (by rw [List.take_length, hx]), ?_⟩) | (refine DOps.k 28 rfl ?_; refine DOps.new (r := .v (.one (.d (.sl 1 1 fun _ _ => dS (x))))) rfl rfl rfl (OpNew.bsl tt_ok [dS (x)] _ rfl rfl rfl rfl rfl rfl rfl rfl rfl rfl (one_str (x))) ?_) | refine DOps.nil ?_ | refine DOps.off rfl rfl rfl ?_ | (refine DOps.valK 0 rfl rfl rfl rfl ?_; first | refine ⟨_, (OpVal.move rfl rfl), ?_⟩) | (refine DOps.valK 17 rfl rfl rfl rfl ?_; first | refine ⟨_, (OpVal.lenT tt_ok rfl rfl rfl rfl rfl rfl rfl), ?_⟩) | (refine DOps.valK 2 rfl rfl rfl rfl ?_; first | refine ⟨_, (OpVal.pickF rfl rfl rfl), ?_⟩) | (refine DOps.k 14 rfl ?_; first | refine DOps.cmpT rfl rfl rfl rfl rfl rfl rfl (by omega) ?_ | refine DOps.cmpF rfl rfl rfl rfl rfl rfl rfl (by omega) ?_))
      refine DOps.append (n' := (out ++ [x]).length) (cs' := ((out ++ [x]).map dS).map .d) tt_ok [dS (x)] rfl rfl rfl rfl rfl rfl rfl rfl rfl rfl rfl rfl rfl (by omega) (by show ((out).length + 1) * 16 ≤ 140737488355328; omega) (by show (out).length + 1 ≤ 9223372036854775807; omega) rfl (one_str (x)) (by simp) (strs_snoc (out) (x)) fun v' => ?_
      repeat (first | refine DOps.nil ?_ | (refine DOps.valK 1 rfl rfl rfl rfl ?_; refine ⟨_, OpVal.assign rfl rfl, ?_⟩))
      repeat (first | refine q_then ?_ | refine q_thenX ?_ | refine q_thenR ?_ | refine q_block ?_ | refine q_blockX ?_ | refine q_blockR ?_ | refine q_seq ?_ | refine q_seqX ?_ | refine q_seqR ?_)
      rw [h4]
      refine DCode.freeze (b := 900) (d := 5) ((out ++ [x]).map dS) (elS (out ++ [x])) rfl rfl (strs_flat _) ?_
      repeat (first | refine q_seq ?_ | refine DCode.seq ?_ | refine DCode.region ?_ | refine DCode.ret ?_ | refine DOps.nil ?_ | (refine DOps.valK 0 rfl rfl rfl rfl ?_; first | refine ⟨_, (OpVal.move rfl rfl), ?_⟩) | (refine DOps.valK 1 rfl rfl rfl rfl ?_; first | refine ⟨_, (OpVal.assign rfl rfl), ?_⟩))
      exact endQ.ret rfl (.cons (.tmp rfl) .nil) (pures_cons trivial pures_nil) rfl
/-! ### Their numbers -/
def runN : List (List UInt8) → List Int × Bool
  | [] => ([], true)
  | w :: r => match numW w with
    | none => ([], false)
    | some v => (v :: (runN r).1, (runN r).2)
theorem runN_app : ∀ {A : List (List UInt8)} {l : List Int} (B : List (List UInt8)), numsOf A = some l → runN (A ++ B) = (l ++ (runN B).1, (runN B).2)
  | [], l, B, h => by
    injection h with h
    subst h
    rfl
  | a :: A, l, B, h => by
    rw [numsOf] at h
    cases h1 : numW a with
    | none => rw [h1] at h; cases h
    | some x =>
      rw [h1] at h
      cases h2 : numsOf A with
      | none => rw [h2] at h; cases h
      | some m =>
        rw [h2] at h
        injection h with h
        subst h
        rw [List.cons_append, runN, h1]
        simp only [runN_app B h2]
        rfl
theorem runN_some {W : List (List UInt8)} {l : List Int} (h : numsOf W = some l) : runN W = (l, true) := by
  have := runN_app [] h
  rw [List.append_nil] at this
  rw [this]
  simp [runN]
theorem runN_none : ∀ {W : List (List UInt8)}, numsOf W = none → ∃ X, runN W = (X, false)
  | [], h => by cases h
  | a :: A, h => by
    rw [numsOf] at h
    cases h1 : numW a with
    | none => exact ⟨[], by rw [runN, h1]⟩
    | some x =>
      rw [h1] at h
      cases h2 : numsOf A with
      | none =>
        obtain ⟨X, hX⟩ := runN_none h2
        exact ⟨x :: X, by rw [runN, h1, hX]⟩
      | some m => rw [h2] at h; cases h
def refN (L : List (List UInt8)) (word : List UInt8) (m : Nat) : List Int × Bool :=
  if L.length < m + 1 ∨ L.getD 0 [] ≠ word then ([], false) else runN ((L.drop 1).take m)
theorem refN_some {L : List (List UInt8)} {word : List UInt8} {m : Nat} {l : List Int} (h : readW L word m = some l) : refN L word m = (l, true) := by
  rw [readW] at h
  rw [refN]
  split at h
  · cases h
  · rename_i hc
    rw [if_neg hc, runN_some h]
theorem refN_none {L : List (List UInt8)} {word : List UInt8} {m : Nat} (h : readW L word m = none) : ∃ X, refN L word m = (X, false) := by
  rw [readW] at h
  rw [refN]
  split at h
  · rename_i hc
    exact ⟨[], if_pos hc⟩
  · rename_i hc
    rw [if_neg hc]
    exact runN_none h
set_option maxRecDepth 10000 in
set_option maxHeartbeats 8000000 in
theorem rnumbers_d (L : List (List UInt8)) (word : List UInt8) (m : Nat) (hL : ∀ a ∈ L, a.length ≤ 4294967280) (hl : L.length ≤ 4294967296) (hm : m ≤ 100) : DCalls Tryz.prog 42 [tL L, tT word, it m] (fun ts => ts = [tN (refN L word m).1, bt (refN L word m).2]) := by
  refine DCalls.enter tt_ok Tryz.func42 rfl Tryz.ntmps42 (by simp) (by repeat (first | exact pures_nil | refine pures_cons ?_ ?_ | exact trivial | exact pure_aggB rfl | exact arr_pure _ | exact Load.pure _ | exact Area.pure _ | exact dvs_pure _ | exact pure_sc | exact pure_sl)) ?_
  have hld0 : ∀ (q : Nat), q = 0 → elS L q 0 = dS (L.getD 0 []) := fun q e => by rw [e, elS]
  by_cases h1 : L.length < m + 1
  · rw [show refN L word m = ([], false) by rw [refN, if_pos (.inl h1)]]
    repeat (first | refine q_seq ?_ | refine q_seqR ?_ | refine DCode.seq ?_ | refine DCode.region ?_ | refine DCode.ret ?_ | refine DCode.condT rfl ?_ | refine DOps.bslR tt_ok 900 [] rfl rfl rfl rfl rfl rfl rfl rfl rfl rfl (Nat.zero_le _) rfl rfl rfl rfl (fun v0 => ?_) | refine DOps.freeze (b := 900) (d := 24) (iD []) (elN []) rfl rfl (ints_flat []) ?_ | refine DOps.nil ?_ | refine DOps.off rfl rfl rfl ?_ | (refine DOps.valK 0 rfl rfl rfl rfl ?_; first | refine ⟨_, (OpVal.move rfl rfl), ?_⟩) | (refine DOps.valK 1 rfl rfl rfl rfl ?_; first | refine ⟨_, (OpVal.assign rfl rfl), ?_⟩) | (refine DOps.valK 17 rfl rfl rfl rfl ?_; first | refine ⟨_, (OpVal.lenD tt_ok rfl rfl rfl rfl rfl rfl rfl), ?_⟩) | (refine DOps.valK 2 rfl rfl rfl rfl ?_; first | refine ⟨_, (OpVal.pickT rfl rfl rfl), ?_⟩) | (refine DOps.k 14 rfl ?_; first | refine DOps.cmpT rfl rfl rfl rfl rfl rfl rfl (by omega) ?_ | refine DOps.cmpF rfl rfl rfl rfl rfl rfl rfl (by omega) ?_))
    exact endQ.ret rfl (.cons (.tmp rfl) (.cons (.tmp rfl) .nil)) (pures_cons trivial (pures_cons trivial pures_nil)) rfl
  by_cases h2 : L.getD 0 [] = word
  rotate_left
  · rw [show refN L word m = ([], false) by rw [refN, if_pos (.inr h2)]]
    repeat (first | refine q_seq ?_ | refine q_seqR ?_ | refine DCode.seq ?_ | refine DCode.region ?_ | refine DCode.ret ?_ | refine DCode.condT rfl ?_ | refine DOps.bslR tt_ok 900 [] rfl rfl rfl rfl rfl rfl rfl rfl rfl rfl (Nat.zero_le _) rfl rfl rfl rfl (fun v0 => ?_) | refine DOps.freeze (b := 900) (d := 24) (iD []) (elN []) rfl rfl (ints_flat []) ?_ | (refine DOps.valK 3 rfl rfl rfl rfl ?_; refine ⟨_, OpVal.ld (y := dS (L.getD 0 [])) tt_ok rfl rfl rfl rfl (by omega) (hld0 _ rfl), ?_⟩) | (refine DOps.valK 13 rfl rfl rfl rfl ?_; refine ⟨_, OpVal.neqST rfl rfl rfl h2, ?_⟩) | refine DOps.nil ?_ | (refine DOps.valK 0 rfl rfl rfl rfl ?_; first | refine ⟨_, (OpVal.move rfl rfl), ?_⟩) | (refine DOps.valK 1 rfl rfl rfl rfl ?_; first | refine ⟨_, (OpVal.assign rfl rfl), ?_⟩) | (refine DOps.valK 19 rfl rfl rfl rfl ?_; first | refine ⟨_, (OpVal.iaD tt_ok rfl rfl rfl rfl rfl rfl (by omega) (by omega)), ?_⟩) | (refine DOps.valK 17 rfl rfl rfl rfl ?_; first | refine ⟨_, (OpVal.lenD tt_ok rfl rfl rfl rfl rfl rfl rfl), ?_⟩) | (refine DOps.valK 2 rfl rfl rfl rfl ?_; first | refine ⟨_, (OpVal.pickF rfl rfl rfl), ?_⟩) | (refine DOps.k 14 rfl ?_; first | refine DOps.cmpT rfl rfl rfl rfl rfl rfl rfl (by omega) ?_ | refine DOps.cmpF rfl rfl rfl rfl rfl rfl rfl (by omega) ?_))
    exact endQ.ret rfl (.cons (.tmp rfl) (.cons (.tmp rfl) .nil)) (pures_cons trivial (pures_cons trivial pures_nil)) rfl
  have hR : refN L word m = runN ((L.drop 1).take m) := by
    rw [refN, if_neg]
    exact fun h => h.elim h1 fun h => h h2
  rw [hR]
  have hWl : ((L.drop 1).take m).length = m := by rw [List.length_take, List.length_drop]; omega
  have hWg : ∀ j, j < m → ((L.drop 1).take m)[j]? = L[j + 1]? := fun j hj => by rw [List.getElem?_take, if_pos hj, List.getElem?_drop, Nat.add_comm]
  generalize (L.drop 1).take m = W at *
  repeat (first | refine q_seq ?_ | refine DCode.seq ?_ | refine DCode.region ?_ | refine DCode.block ?_ | refine DCode.skip ?_ | refine DCode.condF rfl ?_ | refine DOps.bslR tt_ok 900 [] rfl rfl rfl rfl rfl rfl rfl rfl rfl rfl (Nat.zero_le _) rfl rfl rfl rfl (fun v0 => ?_) | (refine DOps.valK 3 rfl rfl rfl rfl ?_; refine ⟨_, OpVal.ld (y := dS (L.getD 0 [])) tt_ok rfl rfl rfl rfl (by omega) (hld0 _ rfl), ?_⟩) | (refine DOps.valK 13 rfl rfl rfl rfl ?_; refine ⟨_, OpVal.neqSF rfl rfl rfl h2, ?_⟩) | refine DOps.nil ?_ | (refine DOps.valK 0 rfl rfl rfl rfl ?_; first | refine ⟨_, (OpVal.move rfl rfl), ?_⟩) | (refine DOps.valK 1 rfl rfl rfl rfl ?_; first | refine ⟨_, (OpVal.assign rfl rfl), ?_⟩) | (refine DOps.valK 19 rfl rfl rfl rfl ?_; first | refine ⟨_, (OpVal.iaD tt_ok rfl rfl rfl rfl rfl rfl (by omega) (by omega)), ?_⟩) | (refine DOps.valK 17 rfl rfl rfl rfl ?_; first | refine ⟨_, (OpVal.lenD tt_ok rfl rfl rfl rfl rfl rfl rfl), ?_⟩) | (refine DOps.valK 2 rfl rfl rfl rfl ?_; first | refine ⟨_, (OpVal.pickF rfl rfl rfl), ?_⟩) | (refine DOps.k 14 rfl ?_; first | refine DOps.cmpT rfl rfl rfl rfl rfl rfl rfl (by omega) ?_ | refine DOps.cmpF rfl rfl rfl rfl rfl rfl rfl (by omega) ?_))
  refine DCode.loopG (fun s : Nat × List Int × Value => [(9, vI .i64 ((s.1 + 1 : Nat))), (8, .v (.one (.row 900 s.2.2)))]) [6, 7, 8, 9, 10, 11, 25, 26, 27, 28, 29, 30, 31, 32, 33, 34, 35, 36, 37, 38, 39, 40, 41, 42, 43, 44] (fun s => [(900, some (.row 2 1 s.2.1.length s.2.2 (ic s.2.1) false))]) (fun x => x.1 ≤ m ∧ x.2.1.length = x.1 ∧ numsOf (W.take x.1) = some x.2.1) (fun x => m - x.1) (0, [], v0) ⟨Nat.zero_le _, rfl, rfl⟩ (fun i _ => ⟨trivial, trivial, trivial⟩) (fun i _ => ⟨⟨_, rfl, fun c hc => CV.pure_ok (ic_pure _ c hc)⟩, trivial⟩) (by (repeat (first | exact Off.refl _ _ | refine Sub.base ?_ | refine Sub.junk ?_ | refine Sub.cons (by rfl) ?_ | refine Off.cons rfl ?_ | refine Off.junks rfl ?_))) (by (repeat (first | exact MSubX.nil | refine MSubX.skip rfl ?_ | refine MSubX.cons (by rfl) ?_))) ?_
  intro ⟨i, out, v⟩ ⟨hi, ho, he⟩
  simp only [] at hi ho he
  show DCode _ _ _ _ _ ([(9, vI .i64 ((i + 1 : Nat))), (8, .v (.one (.row 900 v)))] ++ junks _ _) ([(900, some (.row 2 1 out.length v (ic out) false))] ++ _)
  by_cases hlt : i < m
  rotate_left
  · obtain rfl : i = m := by omega
    rw [List.take_of_length_le (by omega)] at he
    rw [runN_some he]
    repeat (first | refine q_seq ?_ | refine q_seqX ?_ | refine q_thenX ?_ | refine q_blockX ?_ | refine DCode.seq ?_ | refine DCode.region ?_ | refine DCode.exit ?_ | refine DCode.ret ?_ | refine DCode.condF rfl ?_ | refine DOps.freeze (b := 900) (d := 45) (iD out) (elN out) (by rw [← ic_map]; rfl) rfl (ints_flat _) ?_ | refine DOps.nil ?_ | (refine DOps.valK 0 rfl rfl rfl rfl ?_; first | refine ⟨_, (OpVal.move rfl rfl), ?_⟩) | (refine DOps.valK 1 rfl rfl rfl rfl ?_; first | refine ⟨_, (OpVal.assign rfl rfl), ?_⟩) | (refine DOps.k 14 rfl ?_; first | refine DOps.cmpT rfl rfl rfl rfl rfl rfl rfl (by omega) ?_ | refine DOps.cmpF rfl rfl rfl rfl rfl rfl rfl (by omega) ?_))
    exact endQ.ret rfl (.cons (.tmp rfl) (.cons (.tmp rfl) .nil)) (pures_cons trivial (pures_cons trivial pures_nil)) rfl
  obtain ⟨b, hb⟩ : ∃ b, W[i]? = some b := ⟨W[i], List.getElem?_eq_getElem (by omega)⟩
  have hbL : L[i + 1]? = some b := by rw [← hWg i hlt, hb]
  have hbl := hL b (List.mem_of_getElem? hbL)
  have hgd : L.getD (i + 1) [] = b := by rw [List.getD_eq_getElem?_getD, hbL]; rfl
  have hld : ∀ (q : Nat), q = i + 1 → elS L q 0 = dS b := fun q e => by rw [e, elS, hgd]
  have hsn := take_snoc hb
  have cn := number_d b (by omega)
  cases hn : numW b with
  | none =>
    have hno := numK_none hn
    have hW : runN W = (out, false) := by
      have e : W = W.take i ++ b :: W.drop (i + 1) := by
        obtain ⟨hi, e⟩ := List.getElem?_eq_some_iff.1 hb
        rw [← e, ← List.drop_eq_getElem_cons hi, List.take_append_drop]
      rw [e, runN_app _ he, runN, hn]
      simp
    rw [hW]
    rw [decide_eq_false hno] at cn
    generalize numK b = z at *
    repeat (first | refine q_seq ?_ | refine q_seqR ?_ | refine q_thenR ?_ | refine q_blockR ?_ | refine DCode.seq ?_ | refine DCode.region ?_ | refine DCode.block ?_ | refine DCode.skip ?_ | refine DCode.ret ?_ | refine DCode.condT rfl ?_ | refine DOps.freeze (b := 900) (d := 40) (iD out) (elN out) (by rw [← ic_map]; rfl) rfl (ints_flat _) ?_ | (refine DOps.valK 3 rfl rfl rfl rfl ?_; refine ⟨_, OpVal.ld (y := dS b) tt_ok rfl rfl rfl rfl (by omega) (hld _ (Int.toNat_natCast _)), ?_⟩) | refine DOps.call1 (ts := [tT b]) rfl rfl rfl rfl rfl Tryz.func59 rfl (by kernel_rfl) rfl (by repeat (first | exact pures_nil | refine pures_cons ?_ ?_ | exact trivial | exact pure_aggB rfl | exact arr_pure _ | exact Load.pure _ | exact Area.pure _ | exact dvs_pure _ | exact pure_sc | exact pure_sl)) (cn) ?_ | refine DOps.nil ?_ | (refine DOps.valK 0 rfl rfl rfl rfl ?_; first | refine ⟨_, (OpVal.move rfl rfl), ?_⟩ | refine ⟨_, (OpVal.moveT rfl rfl), ?_⟩) | (refine DOps.valK 1 rfl rfl rfl rfl ?_; first | refine ⟨_, (OpVal.assign rfl rfl), ?_⟩) | (refine DOps.valK 23 rfl rfl rfl rfl ?_; first | refine ⟨_, (OpVal.extract rfl rfl rfl), ?_⟩) | (refine DOps.valK 19 rfl rfl rfl rfl ?_; first | refine ⟨_, (OpVal.iaD tt_ok rfl rfl rfl rfl rfl rfl (by omega) (by omega)), ?_⟩) | (refine DOps.valK 16 rfl rfl rfl rfl ?_; first | refine ⟨_, (OpVal.notB rfl rfl), ?_⟩) | (refine DOps.k 14 rfl ?_; first | refine DOps.cmpT rfl rfl rfl rfl rfl rfl rfl (by omega) ?_ | refine DOps.cmpF rfl rfl rfl rfl rfl rfl rfl (by omega) ?_))
    exact endQ.ret rfl (.cons (.tmp rfl) (.cons (.tmp rfl) .nil)) (pures_cons trivial (pures_cons trivial pures_nil)) rfl
  | some x =>
    obtain ⟨e1, e2⟩ := numK_some hn
    rw [decide_eq_true e2, e1] at cn
    have hnx := numsOf_snoc he hn
    rw [← hsn] at hnx
    repeat (first | refine q_seq ?_ | refine DCode.seq ?_ | refine DCode.region ?_ | refine DCode.block ?_ | refine DCode.skip ?_ | refine DCode.condT rfl ?_ | refine DCode.condF rfl ?_ | (refine DOps.k 28 rfl ?_; refine DOps.new (r := .v (tN [x])) rfl rfl rfl (OpNew.bsl tt_ok (iD [x]) _ rfl rfl rfl rfl rfl rfl rfl rfl rfl rfl (ints_flat [x])) ?_) | (refine DOps.valK 3 rfl rfl rfl rfl ?_; refine ⟨_, OpVal.ld (y := dS b) tt_ok rfl rfl rfl rfl (by omega) (hld _ (Int.toNat_natCast _)), ?_⟩) | refine DOps.call1 (ts := [tT b]) rfl rfl rfl rfl rfl Tryz.func59 rfl (by kernel_rfl) rfl (by repeat (first | exact pures_nil | refine pures_cons ?_ ?_ | exact trivial | exact pure_aggB rfl | exact arr_pure _ | exact Load.pure _ | exact Area.pure _ | exact dvs_pure _ | exact pure_sc | exact pure_sl)) (cn) ?_ | refine DOps.nil ?_ | (refine DOps.valK 0 rfl rfl rfl rfl ?_; first | refine ⟨_, (OpVal.move rfl rfl), ?_⟩ | refine ⟨_, (OpVal.moveT rfl rfl), ?_⟩) | (refine DOps.valK 1 rfl rfl rfl rfl ?_; first | refine ⟨_, (OpVal.assign rfl rfl), ?_⟩) | (refine DOps.valK 23 rfl rfl rfl rfl ?_; first | refine ⟨_, (OpVal.extract rfl rfl rfl), ?_⟩) | (refine DOps.valK 19 rfl rfl rfl rfl ?_; first | refine ⟨_, (OpVal.iaD tt_ok rfl rfl rfl rfl rfl rfl (by omega) (by omega)), ?_⟩) | (refine DOps.valK 16 rfl rfl rfl rfl ?_; first | refine ⟨_, (OpVal.notB rfl rfl), ?_⟩) | (refine DOps.k 14 rfl ?_; first | refine DOps.cmpT rfl rfl rfl rfl rfl rfl rfl (by omega) ?_ | refine DOps.cmpF rfl rfl rfl rfl rfl rfl rfl (by omega) ?_))
    refine DOps.appendI (xs := out) (ys := [x]) (zs := out ++ [x]) (n' := (out ++ [x]).length) tt_ok rfl rfl rfl rfl rfl rfl rfl rfl rfl (fun q hq => rfl) rfl (by simp only [List.length_cons, List.length_nil]; omega) (by simp) rfl (fun v2 => ?_)
    repeat (first | refine q_seq ?_ | refine q_then ?_ | refine q_block ?_ | refine DCode.region ?_ | refine DOps.nil ?_ | (refine DOps.valK 0 rfl rfl rfl rfl ?_; first | refine ⟨_, (OpVal.move rfl rfl), ?_⟩) | (refine DOps.valK 1 rfl rfl rfl rfl ?_; first | refine ⟨_, (OpVal.assign rfl rfl), ?_⟩) | (refine DOps.valK 10 rfl rfl rfl rfl ?_; first | refine ⟨_, (OpVal.add rfl rfl rfl (by omega) (by omega)), ?_⟩))
    exact ⟨(i + 1, out ++ [x], v2), ⟨hlt, by simp; omega, hnx⟩, by simp only []; omega, Sub.cons (vI_congr (by simp only []; omega)) (by (repeat (first | exact Off.refl _ _ | refine Sub.base ?_ | refine Sub.junk ?_ | refine Sub.cons (by rfl) ?_ | refine Off.cons rfl ?_ | refine Off.junks rfl ?_))), by (repeat (first | exact MSubX.nil | refine MSubX.skip rfl ?_ | refine MSubX.cons (by rfl) ?_))⟩
end Go.Proofs.YtejdeonbibbchaaGreatDoor
set_option linter.unusedVariables false
set_option linter.unusedSimpArgs false
set_option linter.constructorNameAsVariable false
namespace Go.Proofs.YtejdeonbibbchaaGreatDoor
open Go Go.RowKit Go.Proofs.YtejdeonbibbchaaGreatDoor.DL
set_option linter.unusedVariables false
set_option linter.unusedSimpArgs false
attribute [local irreducible] DCode DOps OpVal DCalls DCallsM DCallsB DCallsR thenQ seqQ inBlockQ endQ endQM OpNew DCf DDr DDr2 DAny

theorem spn_four (l : List UInt8) : ((spn 32 4 l).length = 4 ↔ (spl 32 l).length = 4) ∧ ((spl 32 l).length = 4 → spn 32 4 l = spl 32 l) := by
  by_cases h : (spl 32 l).length ≤ 5
  · rw [spn_spl 32 4 l h]; simp
  · have := spn_len 32 4 l (by omega)
    exact ⟨by omega, fun q => by omega⟩
abbrev flN (p q r : Int) : TV := .agg [.d (di p), .d (di q), .d (di r), .d (.sc (.slice none 0 0))]
set_option maxRecDepth 10000 in
set_option maxHeartbeats 8000000 in
theorem head_bad (s : List UInt8) (hs : s.length ≤ 4294967280) (h : headOf s = none) : DCalls Tryz.prog 20 [tT s] (fun ts => ts = [flN 0 0 0, bt false]) := by
  have cw : DCalls Tryz.prog 41 [tT s, it 5] (fun ts => ts = [tL (spn 32 4 s)]) := words_d s 4 hs (by omega)
  have hwl := spn_le 32 4 s
  have cn : DCalls Tryz.prog 42 [tL (spn 32 4 s), tT pagesW, it 3] (fun ts => ts = [tN (refN (spn 32 4 s) pagesW 3).1, bt (refN (spn 32 4 s) pagesW 3).2]) := rnumbers_d (spn 32 4 s) pagesW 3 (fun a ha => Nat.le_trans (spn_mem 4 s a ha) hs) (by omega) (by omega)
  obtain ⟨h4, h4'⟩ := spn_four s
  by_cases hw : (spn 32 4 s).length = 4
  · have e4 := h4' (h4.1 hw)
    have hr : readW (spn 32 4 s) pagesW 3 = none := by
      rw [e4]
      rw [headOf, if_pos (h4.1 hw)] at h
      split at h
      · cases h
      · assumption
    obtain ⟨X, hX⟩ := refN_none hr
    rw [hX] at cn
    clear hX hr e4 h4 h4' h
    generalize spn 32 4 s = W at *
    refine DCalls.enter tt_ok Tryz.func20 rfl Tryz.ntmps20 (by simp) (by repeat (first | exact pures_nil | refine pures_cons ?_ ?_ | exact trivial | exact pure_aggB rfl | exact arr_pure _ | exact Load.pure _ | exact Area.pure _ | exact dvs_pure _ | exact pure_sc | exact pure_sl)) ?_
    repeat (first | refine q_seq ?_ | refine q_seqR ?_ | refine DCode.seq ?_ | refine DCode.region ?_ | refine DCode.ret ?_ | refine DCode.condT rfl ?_ | refine DOps.call1 (ts := [tT s, it 5]) rfl rfl rfl rfl rfl Tryz.func41 rfl (by kernel_rfl) rfl (by repeat (first | exact pures_nil | refine pures_cons ?_ ?_ | exact trivial | exact pure_aggB rfl | exact arr_pure _ | exact Load.pure _ | exact Area.pure _ | exact dvs_pure _ | exact pure_sc | exact pure_sl)) (cw) ?_ | refine DOps.call1 (ts := [tL W, tT pagesW, it 3]) rfl rfl rfl rfl rfl Tryz.func42 rfl (by kernel_rfl) rfl (by repeat (first | exact pures_nil | refine pures_cons ?_ ?_ | exact trivial | exact pure_aggB rfl | exact arr_pure _ | exact Load.pure _ | exact Area.pure _ | exact dvs_pure _ | exact pure_sc | exact pure_sl)) (cn) ?_ | refine DOps.nil ?_ | refine DOps.off rfl rfl rfl ?_ | (refine DOps.valK 0 rfl rfl rfl rfl ?_; first | refine ⟨_, (OpVal.move rfl rfl), ?_⟩ | refine ⟨_, (OpVal.moveT rfl rfl), ?_⟩) | (refine DOps.valK 1 rfl rfl rfl rfl ?_; first | refine ⟨_, (OpVal.assign rfl rfl), ?_⟩) | (refine DOps.valK 23 rfl rfl rfl rfl ?_; first | refine ⟨_, (OpVal.extract rfl rfl rfl), ?_⟩) | (refine DOps.valK 2 rfl rfl rfl rfl ?_; first | refine ⟨_, (OpVal.pickT rfl rfl rfl), ?_⟩) | (refine DOps.valK 25 rfl rfl rfl rfl ?_; first | refine ⟨_, (OpVal.buildS tt_ok rfl rfl rfl rfl rfl rfl rfl rfl), ?_⟩) | (refine DOps.valK 16 rfl rfl rfl rfl ?_; first | refine ⟨_, (OpVal.notB rfl rfl), ?_⟩) | (refine DOps.k 29 rfl ?_; refine DOps.alS tt_ok rfl rfl rfl rfl rfl rfl rfl ?_) | (refine DOps.k 31 rfl ?_; refine DOps.store tt_ok rfl rfl rfl rfl rfl rfl rfl rfl (Nat.le_of_ble_eq_true rfl) rfl ?_))
    exact endQ.ret rfl (.cons (.cell rfl rfl rfl rfl rfl) (.cons (.tmp rfl) .nil)) (by exact pures_cons (pure_aggB rfl) (pures_cons trivial pures_nil)) rfl
  · generalize refN (spn 32 4 s) pagesW 3 = RN at *
    obtain ⟨X, b⟩ := RN
    clear h4 h4' h
    generalize spn 32 4 s = W at *
    cases b with
    | false =>
      refine DCalls.enter tt_ok Tryz.func20 rfl Tryz.ntmps20 (by simp) (by repeat (first | exact pures_nil | refine pures_cons ?_ ?_ | exact trivial | exact pure_aggB rfl | exact arr_pure _ | exact Load.pure _ | exact Area.pure _ | exact dvs_pure _ | exact pure_sc | exact pure_sl)) ?_
      repeat (first | refine q_seq ?_ | refine q_seqR ?_ | refine DCode.seq ?_ | refine DCode.region ?_ | refine DCode.ret ?_ | refine DCode.condT rfl ?_ | refine DOps.call1 (ts := [tT s, it 5]) rfl rfl rfl rfl rfl Tryz.func41 rfl (by kernel_rfl) rfl (by repeat (first | exact pures_nil | refine pures_cons ?_ ?_ | exact trivial | exact pure_aggB rfl | exact arr_pure _ | exact Load.pure _ | exact Area.pure _ | exact dvs_pure _ | exact pure_sc | exact pure_sl)) (cw) ?_ | refine DOps.call1 (ts := [tL W, tT pagesW, it 3]) rfl rfl rfl rfl rfl Tryz.func42 rfl (by kernel_rfl) rfl (by repeat (first | exact pures_nil | refine pures_cons ?_ ?_ | exact trivial | exact pure_aggB rfl | exact arr_pure _ | exact Load.pure _ | exact Area.pure _ | exact dvs_pure _ | exact pure_sc | exact pure_sl)) (cn) ?_ | refine DOps.nil ?_ | refine DOps.off rfl rfl rfl ?_ | (refine DOps.valK 0 rfl rfl rfl rfl ?_; first | refine ⟨_, (OpVal.move rfl rfl), ?_⟩ | refine ⟨_, (OpVal.moveT rfl rfl), ?_⟩) | (refine DOps.valK 1 rfl rfl rfl rfl ?_; first | refine ⟨_, (OpVal.assign rfl rfl), ?_⟩) | (refine DOps.valK 23 rfl rfl rfl rfl ?_; first | refine ⟨_, (OpVal.extract rfl rfl rfl), ?_⟩) | (refine DOps.valK 2 rfl rfl rfl rfl ?_; first | refine ⟨_, (OpVal.pickT rfl rfl rfl), ?_⟩) | (refine DOps.valK 25 rfl rfl rfl rfl ?_; first | refine ⟨_, (OpVal.buildS tt_ok rfl rfl rfl rfl rfl rfl rfl rfl), ?_⟩) | (refine DOps.valK 16 rfl rfl rfl rfl ?_; first | refine ⟨_, (OpVal.notB rfl rfl), ?_⟩) | (refine DOps.k 29 rfl ?_; refine DOps.alS tt_ok rfl rfl rfl rfl rfl rfl rfl ?_) | (refine DOps.k 31 rfl ?_; refine DOps.store tt_ok rfl rfl rfl rfl rfl rfl rfl rfl (Nat.le_of_ble_eq_true rfl) rfl ?_))
      exact endQ.ret rfl (.cons (.cell rfl rfl rfl rfl rfl) (.cons (.tmp rfl) .nil)) (by exact pures_cons (pure_aggB rfl) (pures_cons trivial pures_nil)) rfl
    | true =>
      refine DCalls.enter tt_ok Tryz.func20 rfl Tryz.ntmps20 (by simp) (by repeat (first | exact pures_nil | refine pures_cons ?_ ?_ | exact trivial | exact pure_aggB rfl | exact arr_pure _ | exact Load.pure _ | exact Area.pure _ | exact dvs_pure _ | exact pure_sc | exact pure_sl)) ?_
      repeat (first | refine q_seq ?_ | refine q_seqR ?_ | refine DCode.seq ?_ | refine DCode.region ?_ | refine DCode.ret ?_ | refine DCode.condT rfl ?_ | refine DOps.call1 (ts := [tT s, it 5]) rfl rfl rfl rfl rfl Tryz.func41 rfl (by kernel_rfl) rfl (by repeat (first | exact pures_nil | refine pures_cons ?_ ?_ | exact trivial | exact pure_aggB rfl | exact arr_pure _ | exact Load.pure _ | exact Area.pure _ | exact dvs_pure _ | exact pure_sc | exact pure_sl)) (cw) ?_ | refine DOps.call1 (ts := [tL W, tT pagesW, it 3]) rfl rfl rfl rfl rfl Tryz.func42 rfl (by kernel_rfl) rfl (by repeat (first | exact pures_nil | refine pures_cons ?_ ?_ | exact trivial | exact pure_aggB rfl | exact arr_pure _ | exact Load.pure _ | exact Area.pure _ | exact dvs_pure _ | exact pure_sc | exact pure_sl)) (cn) ?_ | refine DOps.nil ?_ | (refine DOps.valK 0 rfl rfl rfl rfl ?_; first | refine ⟨_, (OpVal.move rfl rfl), ?_⟩ | refine ⟨_, (OpVal.moveT rfl rfl), ?_⟩) | (refine DOps.valK 1 rfl rfl rfl rfl ?_; first | refine ⟨_, (OpVal.assign rfl rfl), ?_⟩) | (refine DOps.valK 23 rfl rfl rfl rfl ?_; first | refine ⟨_, (OpVal.extract rfl rfl rfl), ?_⟩) | (refine DOps.valK 17 rfl rfl rfl rfl ?_; first | refine ⟨_, (OpVal.lenD tt_ok rfl rfl rfl rfl rfl rfl rfl), ?_⟩) | (refine DOps.valK 2 rfl rfl rfl rfl ?_; first | refine ⟨_, (OpVal.pickF rfl rfl rfl), ?_⟩) | (refine DOps.valK 25 rfl rfl rfl rfl ?_; first | refine ⟨_, (OpVal.buildS tt_ok rfl rfl rfl rfl rfl rfl rfl rfl), ?_⟩) | (refine DOps.valK 16 rfl rfl rfl rfl ?_; first | refine ⟨_, (OpVal.notB rfl rfl), ?_⟩) | (refine DOps.k 13 rfl ?_; first | refine DOps.cmpT rfl rfl rfl rfl rfl rfl rfl (by omega) ?_ | refine DOps.cmpF rfl rfl rfl rfl rfl rfl rfl (by omega) ?_) | (refine DOps.k 29 rfl ?_; refine DOps.alS tt_ok rfl rfl rfl rfl rfl rfl rfl ?_) | (refine DOps.k 31 rfl ?_; refine DOps.store tt_ok rfl rfl rfl rfl rfl rfl rfl rfl (Nat.le_of_ble_eq_true rfl) rfl ?_))
      exact endQ.ret rfl (.cons (.cell rfl rfl rfl rfl rfl) (.cons (.tmp rfl) .nil)) (by exact pures_cons (pure_aggB rfl) (pures_cons trivial pures_nil)) rfl
set_option maxRecDepth 10000 in
set_option maxHeartbeats 8000000 in
theorem head_ok (s : List UInt8) (g : Fl) (hs : s.length ≤ 4294967280) (h : headOf s = some g) : DCalls Tryz.prog 20 [tT s] (fun ts => ts = [flN g.pages g.width g.height, bt true]) := by
  have cw : DCalls Tryz.prog 41 [tT s, it 5] (fun ts => ts = [tL (spn 32 4 s)]) := words_d s 4 hs (by omega)
  have hwl := spn_le 32 4 s
  have cn : DCalls Tryz.prog 42 [tL (spn 32 4 s), tT pagesW, it 3] (fun ts => ts = [tN (refN (spn 32 4 s) pagesW 3).1, bt (refN (spn 32 4 s) pagesW 3).2]) := rnumbers_d (spn 32 4 s) pagesW 3 (fun a ha => Nat.le_trans (spn_mem 4 s a ha) hs) (by omega) (by omega)
  obtain ⟨h4, h4'⟩ := spn_four s
  have hl : (spl 32 s).length = 4 := Classical.byContradiction fun hne => by rw [headOf, if_neg hne] at h; cases h
  rw [headOf, if_pos hl, ← h4' hl] at h
  have hw := h4.2 hl
  cases hr : readW (spn 32 4 s) pagesW 3 with
  | none => rw [hr] at h; cases h
  | some n =>
  rw [hr] at h
  injection h with h
  have hn3 := readW_len hr
  obtain ⟨p, q, r, rfl⟩ : ∃ p q r, n = [p, q, r] := by
    match n, hn3 with
    | [p, q, r], _ => exact ⟨p, q, r, rfl⟩
  rw [refN_some hr] at cn
  rw [← h]
  clear hr hn3 h hl h4 h4'
  generalize spn 32 4 s = W at *
  show DCalls Tryz.prog 20 [tT s] (fun ts => ts = [flN p q r, bt true])
  refine DCalls.enter tt_ok Tryz.func20 rfl Tryz.ntmps20 (by simp) (by repeat (first | exact pures_nil | refine pures_cons ?_ ?_ | exact trivial | exact pure_aggB rfl | exact arr_pure _ | exact Load.pure _ | exact Area.pure _ | exact dvs_pure _ | exact pure_sc | exact pure_sl)) ?_
  repeat (first | refine q_seq ?_ | refine DCode.seq ?_ | refine DCode.region ?_ | refine DCode.skip ?_ | refine DCode.condF rfl ?_ | refine DOps.call1 (ts := [tT s, it 5]) rfl rfl rfl rfl rfl Tryz.func41 rfl (by kernel_rfl) rfl (by repeat (first | exact pures_nil | refine pures_cons ?_ ?_ | exact trivial | exact pure_aggB rfl | exact arr_pure _ | exact Load.pure _ | exact Area.pure _ | exact dvs_pure _ | exact pure_sc | exact pure_sl)) (cw) ?_ | refine DOps.call1 (ts := [tL W, tT pagesW, it 3]) rfl rfl rfl rfl rfl Tryz.func42 rfl (by kernel_rfl) rfl (by repeat (first | exact pures_nil | refine pures_cons ?_ ?_ | exact trivial | exact pure_aggB rfl | exact arr_pure _ | exact Load.pure _ | exact Area.pure _ | exact dvs_pure _ | exact pure_sc | exact pure_sl)) (cn) ?_ | refine DOps.nil ?_ | (refine DOps.valK 0 rfl rfl rfl rfl ?_; first | refine ⟨_, (OpVal.move rfl rfl), ?_⟩ | refine ⟨_, (OpVal.moveT rfl rfl), ?_⟩) | (refine DOps.valK 1 rfl rfl rfl rfl ?_; first | refine ⟨_, (OpVal.assign rfl rfl), ?_⟩) | (refine DOps.valK 23 rfl rfl rfl rfl ?_; first | refine ⟨_, (OpVal.extract rfl rfl rfl), ?_⟩) | (refine DOps.valK 17 rfl rfl rfl rfl ?_; first | refine ⟨_, (OpVal.lenD tt_ok rfl rfl rfl rfl rfl rfl rfl), ?_⟩) | (refine DOps.valK 2 rfl rfl rfl rfl ?_; first | refine ⟨_, (OpVal.pickF rfl rfl rfl), ?_⟩) | (refine DOps.valK 16 rfl rfl rfl rfl ?_; first | refine ⟨_, (OpVal.notB rfl rfl), ?_⟩) | (refine DOps.k 13 rfl ?_; first | refine DOps.cmpT rfl rfl rfl rfl rfl rfl rfl (by omega) ?_ | refine DOps.cmpF rfl rfl rfl rfl rfl rfl rfl (by omega) ?_) | (refine DOps.k 29 rfl ?_; refine DOps.alS tt_ok rfl rfl rfl rfl rfl rfl rfl ?_))
  (repeat refine DCode.seq ?_) <;> refine DCode.conf [(10, 2, 0)] [] (by kernel_rfl) (by kernel_rfl) ?_
  repeat (first | (refine DCf.valK 19 rfl rfl (fun _ => rfl) rfl rfl ?_; refine ⟨_, fun _ _ _ => OpVal.iaD tt_ok rfl rfl rfl rfl rfl rfl (by simp) (by simp), ?_⟩) | (refine DCf.valK 3 rfl rfl (fun _ => rfl) rfl rfl ?_; refine ⟨_, fun _ _ _ => OpVal.cast (OpVal.ldN (X := [p, q, r]) (m := 0) tt_ok rfl rfl rfl rfl rfl) rfl, ?_⟩) | (refine DCf.valK 3 rfl rfl (fun _ => rfl) rfl rfl ?_; refine ⟨_, fun _ _ _ => OpVal.cast (OpVal.ldN (X := [p, q, r]) (m := 1) tt_ok rfl rfl rfl rfl rfl) rfl, ?_⟩) | (refine DCf.valK 3 rfl rfl (fun _ => rfl) rfl rfl ?_; refine ⟨_, fun _ _ _ => OpVal.cast (OpVal.ldN (X := [p, q, r]) (m := 2) tt_ok rfl rfl rfl rfl rfl) rfl, ?_⟩) | (refine DCf.valK 0 rfl rfl (fun _ => rfl) rfl rfl ?_; first | refine ⟨_, fun _ _ _ => (OpVal.move rfl rfl), ?_⟩) | (refine DCf.valK 1 rfl rfl (fun _ => rfl) rfl rfl ?_; first | refine ⟨_, fun _ _ _ => (OpVal.assign rfl rfl), ?_⟩) | (refine DCf.valK 25 rfl rfl (fun _ => rfl) rfl rfl ?_; first | refine ⟨_, fun _ _ _ => (OpVal.buildS tt_ok rfl rfl rfl rfl rfl rfl rfl rfl), ?_⟩) | (refine DCf.k 31 rfl ?_; refine DCf.store tt_ok rfl rfl (fun _ => rfl) rfl (fun _ => rfl) (fun _ => rfl) rfl rfl (fun _ _ => rfl) rfl (Nat.le_of_ble_eq_true rfl) rfl ?_))
  refine DCf.done ?_
  repeat (first | refine q_seq ?_ | refine DCode.ret ?_)
  exact endQ.ret rfl (.cons (.cell rfl rfl rfl rfl rfl) (.cons (.tmp rfl) .nil)) (by exact pures_cons (pure_aggB rfl) (pures_cons trivial pures_nil)) rfl
set_option maxRecDepth 10000 in
set_option maxHeartbeats 8000000 in
theorem box_bad (s : List UInt8) (hs : s.length ≤ 4294967280) (h : boxOf s = none) : DCalls Tryz.prog 21 [tT s] (fun ts => ts = [bx0.tv, bt false]) := by
  have cw : DCalls Tryz.prog 41 [tT s, it 10] (fun ts => ts = [tL (spn 32 9 s)]) := words_d s 9 hs (by omega)
  have hwl := spn_le 32 9 s
  have cn : DCalls Tryz.prog 42 [tL (spn 32 9 s), tT boxW, it 8] (fun ts => ts = [tN (refN (spn 32 9 s) boxW 8).1, bt (refN (spn 32 9 s) boxW 8).2]) := rnumbers_d (spn 32 9 s) boxW 8 (fun a ha => Nat.le_trans (spn_mem 9 s a ha) hs) (by omega) (by omega)
  by_cases hw : (spn 32 9 s).length = 10
  · have hr : readW (spn 32 9 s) boxW 8 = none := by
      rw [boxOf, if_pos hw] at h
      split at h
      · cases h
      · assumption
    obtain ⟨X, hX⟩ := refN_none hr
    rw [hX] at cn
    clear hX hr h
    generalize spn 32 9 s = W at *
    refine DCalls.enter tt_ok Tryz.func21 rfl Tryz.ntmps21 (by simp) (by repeat (first | exact pures_nil | refine pures_cons ?_ ?_ | exact trivial | exact pure_aggB rfl | exact arr_pure _ | exact Load.pure _ | exact Area.pure _ | exact dvs_pure _ | exact pure_sc | exact pure_sl)) ?_
    repeat (first | refine q_seq ?_ | refine q_seqR ?_ | refine DCode.seq ?_ | refine DCode.region ?_ | refine DCode.ret ?_ | refine DCode.condT rfl ?_ | refine DOps.call1 (ts := [tT s, it 10]) rfl rfl rfl rfl rfl Tryz.func41 rfl (by kernel_rfl) rfl (by repeat (first | exact pures_nil | refine pures_cons ?_ ?_ | exact trivial | exact pure_aggB rfl | exact arr_pure _ | exact Load.pure _ | exact Area.pure _ | exact dvs_pure _ | exact pure_sc | exact pure_sl)) (cw) ?_ | refine DOps.call1 (ts := [tL W, tT boxW, it 8]) rfl rfl rfl rfl rfl Tryz.func42 rfl (by kernel_rfl) rfl (by repeat (first | exact pures_nil | refine pures_cons ?_ ?_ | exact trivial | exact pure_aggB rfl | exact arr_pure _ | exact Load.pure _ | exact Area.pure _ | exact dvs_pure _ | exact pure_sc | exact pure_sl)) (cn) ?_ | refine DOps.nil ?_ | refine DOps.off rfl rfl rfl ?_ | (refine DOps.valK 0 rfl rfl rfl rfl ?_; first | refine ⟨_, (OpVal.move rfl rfl), ?_⟩ | refine ⟨_, (OpVal.moveT rfl rfl), ?_⟩) | (refine DOps.valK 1 rfl rfl rfl rfl ?_; first | refine ⟨_, (OpVal.assign rfl rfl), ?_⟩) | (refine DOps.valK 23 rfl rfl rfl rfl ?_; first | refine ⟨_, (OpVal.extract rfl rfl rfl), ?_⟩) | (refine DOps.valK 2 rfl rfl rfl rfl ?_; first | refine ⟨_, (OpVal.pickT rfl rfl rfl), ?_⟩) | (refine DOps.valK 25 rfl rfl rfl rfl ?_; first | refine ⟨_, (OpVal.buildS tt_ok rfl rfl rfl rfl rfl rfl rfl rfl), ?_⟩) | (refine DOps.valK 16 rfl rfl rfl rfl ?_; first | refine ⟨_, (OpVal.notB rfl rfl), ?_⟩) | (refine DOps.k 29 rfl ?_; refine DOps.alS tt_ok rfl rfl rfl rfl rfl rfl rfl ?_) | (refine DOps.k 31 rfl ?_; refine DOps.store tt_ok rfl rfl rfl rfl rfl rfl rfl rfl (Nat.le_of_ble_eq_true rfl) rfl ?_))
    exact endQ.ret rfl (.cons (.cell rfl rfl rfl rfl rfl) (.cons (.tmp rfl) .nil)) (by exact pures_cons (pure_aggB rfl) (pures_cons trivial pures_nil)) rfl
  · generalize refN (spn 32 9 s) boxW 8 = RN at *
    obtain ⟨X, b⟩ := RN
    clear h
    generalize spn 32 9 s = W at *
    cases b with
    | false =>
      refine DCalls.enter tt_ok Tryz.func21 rfl Tryz.ntmps21 (by simp) (by repeat (first | exact pures_nil | refine pures_cons ?_ ?_ | exact trivial | exact pure_aggB rfl | exact arr_pure _ | exact Load.pure _ | exact Area.pure _ | exact dvs_pure _ | exact pure_sc | exact pure_sl)) ?_
      repeat (first | refine q_seq ?_ | refine q_seqR ?_ | refine DCode.seq ?_ | refine DCode.region ?_ | refine DCode.ret ?_ | refine DCode.condT rfl ?_ | refine DOps.call1 (ts := [tT s, it 10]) rfl rfl rfl rfl rfl Tryz.func41 rfl (by kernel_rfl) rfl (by repeat (first | exact pures_nil | refine pures_cons ?_ ?_ | exact trivial | exact pure_aggB rfl | exact arr_pure _ | exact Load.pure _ | exact Area.pure _ | exact dvs_pure _ | exact pure_sc | exact pure_sl)) (cw) ?_ | refine DOps.call1 (ts := [tL W, tT boxW, it 8]) rfl rfl rfl rfl rfl Tryz.func42 rfl (by kernel_rfl) rfl (by repeat (first | exact pures_nil | refine pures_cons ?_ ?_ | exact trivial | exact pure_aggB rfl | exact arr_pure _ | exact Load.pure _ | exact Area.pure _ | exact dvs_pure _ | exact pure_sc | exact pure_sl)) (cn) ?_ | refine DOps.nil ?_ | refine DOps.off rfl rfl rfl ?_ | (refine DOps.valK 0 rfl rfl rfl rfl ?_; first | refine ⟨_, (OpVal.move rfl rfl), ?_⟩ | refine ⟨_, (OpVal.moveT rfl rfl), ?_⟩) | (refine DOps.valK 1 rfl rfl rfl rfl ?_; first | refine ⟨_, (OpVal.assign rfl rfl), ?_⟩) | (refine DOps.valK 23 rfl rfl rfl rfl ?_; first | refine ⟨_, (OpVal.extract rfl rfl rfl), ?_⟩) | (refine DOps.valK 2 rfl rfl rfl rfl ?_; first | refine ⟨_, (OpVal.pickT rfl rfl rfl), ?_⟩) | (refine DOps.valK 25 rfl rfl rfl rfl ?_; first | refine ⟨_, (OpVal.buildS tt_ok rfl rfl rfl rfl rfl rfl rfl rfl), ?_⟩) | (refine DOps.valK 16 rfl rfl rfl rfl ?_; first | refine ⟨_, (OpVal.notB rfl rfl), ?_⟩) | (refine DOps.k 29 rfl ?_; refine DOps.alS tt_ok rfl rfl rfl rfl rfl rfl rfl ?_) | (refine DOps.k 31 rfl ?_; refine DOps.store tt_ok rfl rfl rfl rfl rfl rfl rfl rfl (Nat.le_of_ble_eq_true rfl) rfl ?_))
      exact endQ.ret rfl (.cons (.cell rfl rfl rfl rfl rfl) (.cons (.tmp rfl) .nil)) (by exact pures_cons (pure_aggB rfl) (pures_cons trivial pures_nil)) rfl
    | true =>
      refine DCalls.enter tt_ok Tryz.func21 rfl Tryz.ntmps21 (by simp) (by repeat (first | exact pures_nil | refine pures_cons ?_ ?_ | exact trivial | exact pure_aggB rfl | exact arr_pure _ | exact Load.pure _ | exact Area.pure _ | exact dvs_pure _ | exact pure_sc | exact pure_sl)) ?_
      repeat (first | refine q_seq ?_ | refine q_seqR ?_ | refine DCode.seq ?_ | refine DCode.region ?_ | refine DCode.ret ?_ | refine DCode.condT rfl ?_ | refine DOps.call1 (ts := [tT s, it 10]) rfl rfl rfl rfl rfl Tryz.func41 rfl (by kernel_rfl) rfl (by repeat (first | exact pures_nil | refine pures_cons ?_ ?_ | exact trivial | exact pure_aggB rfl | exact arr_pure _ | exact Load.pure _ | exact Area.pure _ | exact dvs_pure _ | exact pure_sc | exact pure_sl)) (cw) ?_ | refine DOps.call1 (ts := [tL W, tT boxW, it 8]) rfl rfl rfl rfl rfl Tryz.func42 rfl (by kernel_rfl) rfl (by repeat (first | exact pures_nil | refine pures_cons ?_ ?_ | exact trivial | exact pure_aggB rfl | exact arr_pure _ | exact Load.pure _ | exact Area.pure _ | exact dvs_pure _ | exact pure_sc | exact pure_sl)) (cn) ?_ | refine DOps.nil ?_ | (refine DOps.valK 0 rfl rfl rfl rfl ?_; first | refine ⟨_, (OpVal.move rfl rfl), ?_⟩ | refine ⟨_, (OpVal.moveT rfl rfl), ?_⟩) | (refine DOps.valK 1 rfl rfl rfl rfl ?_; first | refine ⟨_, (OpVal.assign rfl rfl), ?_⟩) | (refine DOps.valK 23 rfl rfl rfl rfl ?_; first | refine ⟨_, (OpVal.extract rfl rfl rfl), ?_⟩) | (refine DOps.valK 17 rfl rfl rfl rfl ?_; first | refine ⟨_, (OpVal.lenD tt_ok rfl rfl rfl rfl rfl rfl rfl), ?_⟩) | (refine DOps.valK 2 rfl rfl rfl rfl ?_; first | refine ⟨_, (OpVal.pickF rfl rfl rfl), ?_⟩) | (refine DOps.valK 25 rfl rfl rfl rfl ?_; first | refine ⟨_, (OpVal.buildS tt_ok rfl rfl rfl rfl rfl rfl rfl rfl), ?_⟩) | (refine DOps.valK 16 rfl rfl rfl rfl ?_; first | refine ⟨_, (OpVal.notB rfl rfl), ?_⟩) | (refine DOps.k 13 rfl ?_; first | refine DOps.cmpT rfl rfl rfl rfl rfl rfl rfl (by omega) ?_ | refine DOps.cmpF rfl rfl rfl rfl rfl rfl rfl (by omega) ?_) | (refine DOps.k 29 rfl ?_; refine DOps.alS tt_ok rfl rfl rfl rfl rfl rfl rfl ?_) | (refine DOps.k 31 rfl ?_; refine DOps.store tt_ok rfl rfl rfl rfl rfl rfl rfl rfl (Nat.le_of_ble_eq_true rfl) rfl ?_))
      exact endQ.ret rfl (.cons (.cell rfl rfl rfl rfl rfl) (.cons (.tmp rfl) .nil)) (by exact pures_cons (pure_aggB rfl) (pures_cons trivial pures_nil)) rfl
set_option maxRecDepth 10000 in
set_option maxHeartbeats 8000000 in
theorem box_ok (s : List UInt8) (g : Bx) (hs : s.length ≤ 4294967280) (h : boxOf s = some g) : DCalls Tryz.prog 21 [tT s] (fun ts => ts = [g.tv, bt true]) := by
  have cw : DCalls Tryz.prog 41 [tT s, it 10] (fun ts => ts = [tL (spn 32 9 s)]) := words_d s 9 hs (by omega)
  have hwl := spn_le 32 9 s
  have cn : DCalls Tryz.prog 42 [tL (spn 32 9 s), tT boxW, it 8] (fun ts => ts = [tN (refN (spn 32 9 s) boxW 8).1, bt (refN (spn 32 9 s) boxW 8).2]) := rnumbers_d (spn 32 9 s) boxW 8 (fun a ha => Nat.le_trans (spn_mem 9 s a ha) hs) (by omega) (by omega)
  have hw : (spn 32 9 s).length = 10 := Classical.byContradiction fun hne => by rw [boxOf, if_neg hne] at h; cases h
  rw [boxOf, if_pos hw] at h
  cases hr : readW (spn 32 9 s) boxW 8 with
  | none => rw [hr] at h; cases h
  | some n =>
  rw [hr] at h
  injection h with h
  have hn8 := readW_len hr
  obtain ⟨n1, n2, n3, n4, n5, n6, n7, n8, rfl⟩ : ∃ n1 n2 n3 n4 n5 n6 n7 n8, n = [n1, n2, n3, n4, n5, n6, n7, n8] := by
    match n, hn8 with
    | [n1, n2, n3, n4, n5, n6, n7, n8], _ => exact ⟨n1, n2, n3, n4, n5, n6, n7, n8, rfl⟩
  rw [refN_some hr] at cn
  rw [← h]
  clear hr hn8 h
  generalize spn 32 9 s = W at *
  have hl9 : ∀ (k : Nat), k = 9 → elS W k 0 = dS (W.getD 9 []) := fun k e => by rw [e, elS]
  generalize W.getD 9 [] = t9 at *
  show DCalls Tryz.prog 21 [tT s] (fun ts => ts = [(⟨n1, n2, n3, n4, n5, n6, n7, n8, t9⟩ : Bx).tv, bt true])
  refine DCalls.enter tt_ok Tryz.func21 rfl Tryz.ntmps21 (by simp) (by repeat (first | exact pures_nil | refine pures_cons ?_ ?_ | exact trivial | exact pure_aggB rfl | exact arr_pure _ | exact Load.pure _ | exact Area.pure _ | exact dvs_pure _ | exact pure_sc | exact pure_sl)) ?_
  repeat (first | refine q_seq ?_ | refine DCode.seq ?_ | refine DCode.region ?_ | refine DCode.skip ?_ | refine DCode.condF rfl ?_ | refine DOps.call1 (ts := [tT s, it 10]) rfl rfl rfl rfl rfl Tryz.func41 rfl (by kernel_rfl) rfl (by repeat (first | exact pures_nil | refine pures_cons ?_ ?_ | exact trivial | exact pure_aggB rfl | exact arr_pure _ | exact Load.pure _ | exact Area.pure _ | exact dvs_pure _ | exact pure_sc | exact pure_sl)) (cw) ?_ | refine DOps.call1 (ts := [tL W, tT boxW, it 8]) rfl rfl rfl rfl rfl Tryz.func42 rfl (by kernel_rfl) rfl (by repeat (first | exact pures_nil | refine pures_cons ?_ ?_ | exact trivial | exact pure_aggB rfl | exact arr_pure _ | exact Load.pure _ | exact Area.pure _ | exact dvs_pure _ | exact pure_sc | exact pure_sl)) (cn) ?_ | refine DOps.nil ?_ | (refine DOps.valK 0 rfl rfl rfl rfl ?_; first | refine ⟨_, (OpVal.move rfl rfl), ?_⟩ | refine ⟨_, (OpVal.moveT rfl rfl), ?_⟩) | (refine DOps.valK 1 rfl rfl rfl rfl ?_; first | refine ⟨_, (OpVal.assign rfl rfl), ?_⟩) | (refine DOps.valK 23 rfl rfl rfl rfl ?_; first | refine ⟨_, (OpVal.extract rfl rfl rfl), ?_⟩) | (refine DOps.valK 17 rfl rfl rfl rfl ?_; first | refine ⟨_, (OpVal.lenD tt_ok rfl rfl rfl rfl rfl rfl rfl), ?_⟩) | (refine DOps.valK 2 rfl rfl rfl rfl ?_; first | refine ⟨_, (OpVal.pickF rfl rfl rfl), ?_⟩) | (refine DOps.valK 16 rfl rfl rfl rfl ?_; first | refine ⟨_, (OpVal.notB rfl rfl), ?_⟩) | (refine DOps.k 13 rfl ?_; first | refine DOps.cmpT rfl rfl rfl rfl rfl rfl rfl (by omega) ?_ | refine DOps.cmpF rfl rfl rfl rfl rfl rfl rfl (by omega) ?_) | (refine DOps.k 29 rfl ?_; refine DOps.alS tt_ok rfl rfl rfl rfl rfl rfl rfl ?_))
  (repeat refine DCode.seq ?_) <;> refine DCode.conf [(28, 2, 0)] [] (by kernel_rfl) (by kernel_rfl) ?_
  repeat (first | (refine DCf.valK 19 rfl rfl (fun _ => rfl) rfl rfl ?_; refine ⟨_, fun _ _ _ => OpVal.iaD tt_ok rfl rfl rfl rfl rfl rfl (by simp) (by simp), ?_⟩) | (refine DCf.valK 19 rfl rfl (fun _ => rfl) rfl rfl ?_; refine ⟨_, fun _ _ _ => OpVal.iaD tt_ok rfl rfl rfl rfl rfl rfl (by omega) (by omega), ?_⟩) | (refine DCf.valK 3 rfl rfl (fun _ => rfl) rfl rfl ?_; refine ⟨_, fun _ _ _ => OpVal.cast (OpVal.ldN (X := [n1, n2, n3, n4, n5, n6, n7, n8]) (m := 0) tt_ok rfl rfl rfl rfl rfl) rfl, ?_⟩) | (refine DCf.valK 3 rfl rfl (fun _ => rfl) rfl rfl ?_; refine ⟨_, fun _ _ _ => OpVal.cast (OpVal.ldN (X := [n1, n2, n3, n4, n5, n6, n7, n8]) (m := 1) tt_ok rfl rfl rfl rfl rfl) rfl, ?_⟩) | (refine DCf.valK 3 rfl rfl (fun _ => rfl) rfl rfl ?_; refine ⟨_, fun _ _ _ => OpVal.cast (OpVal.ldN (X := [n1, n2, n3, n4, n5, n6, n7, n8]) (m := 2) tt_ok rfl rfl rfl rfl rfl) rfl, ?_⟩) | (refine DCf.valK 3 rfl rfl (fun _ => rfl) rfl rfl ?_; refine ⟨_, fun _ _ _ => OpVal.cast (OpVal.ldN (X := [n1, n2, n3, n4, n5, n6, n7, n8]) (m := 3) tt_ok rfl rfl rfl rfl rfl) rfl, ?_⟩) | (refine DCf.valK 3 rfl rfl (fun _ => rfl) rfl rfl ?_; refine ⟨_, fun _ _ _ => OpVal.cast (OpVal.ldN (X := [n1, n2, n3, n4, n5, n6, n7, n8]) (m := 4) tt_ok rfl rfl rfl rfl rfl) rfl, ?_⟩) | (refine DCf.valK 3 rfl rfl (fun _ => rfl) rfl rfl ?_; refine ⟨_, fun _ _ _ => OpVal.cast (OpVal.ldN (X := [n1, n2, n3, n4, n5, n6, n7, n8]) (m := 5) tt_ok rfl rfl rfl rfl rfl) rfl, ?_⟩) | (refine DCf.valK 3 rfl rfl (fun _ => rfl) rfl rfl ?_; refine ⟨_, fun _ _ _ => OpVal.cast (OpVal.ldN (X := [n1, n2, n3, n4, n5, n6, n7, n8]) (m := 6) tt_ok rfl rfl rfl rfl rfl) rfl, ?_⟩) | (refine DCf.valK 3 rfl rfl (fun _ => rfl) rfl rfl ?_; refine ⟨_, fun _ _ _ => OpVal.cast (OpVal.ldN (X := [n1, n2, n3, n4, n5, n6, n7, n8]) (m := 7) tt_ok rfl rfl rfl rfl rfl) rfl, ?_⟩) | (refine DCf.valK 3 rfl rfl (fun _ => rfl) rfl rfl ?_; refine ⟨_, fun _ _ _ => OpVal.ld (y := dS t9) tt_ok rfl rfl rfl rfl (by omega) (hl9 _ rfl), ?_⟩) | (refine DCf.valK 0 rfl rfl (fun _ => rfl) rfl rfl ?_; first | refine ⟨_, fun _ _ _ => (OpVal.move rfl rfl), ?_⟩) | (refine DCf.valK 1 rfl rfl (fun _ => rfl) rfl rfl ?_; first | refine ⟨_, fun _ _ _ => (OpVal.assign rfl rfl), ?_⟩) | (refine DCf.valK 25 rfl rfl (fun _ => rfl) rfl rfl ?_; first | refine ⟨_, fun _ _ _ => (OpVal.buildS tt_ok rfl rfl rfl rfl rfl rfl rfl rfl), ?_⟩) | (refine DCf.k 31 rfl ?_; refine DCf.store tt_ok rfl rfl (fun _ => rfl) rfl (fun _ => rfl) (fun _ => rfl) rfl rfl (fun _ _ => rfl) rfl (Nat.le_of_ble_eq_true rfl) rfl ?_))
  refine DCf.done ?_
  repeat (first | refine q_seq ?_ | refine DCode.ret ?_)
  exact endQ.ret rfl (.cons (.cell rfl rfl rfl rfl rfl) (.cons (.tmp rfl) .nil)) (by exact pures_cons (pure_aggB rfl) (pures_cons trivial pures_nil)) rfl
end Go.Proofs.YtejdeonbibbchaaGreatDoor
set_option linter.unusedVariables false
set_option linter.unusedSimpArgs false
set_option linter.constructorNameAsVariable false
namespace Go.Proofs.YtejdeonbibbchaaGreatDoor
open Go Go.RowKit Go.Proofs.YtejdeonbibbchaaGreatDoor.DL
set_option linter.unusedVariables false
set_option linter.unusedSimpArgs false
attribute [local irreducible] DCode DOps OpVal DCalls DCallsM DCallsB DCallsR thenQ seqQ inBlockQ endQ endQM OpNew DCf DDr DDr2 DAny

theorem spl_cons (c : UInt8) (s : List UInt8) : ∃ m r, spl c s = m :: r := by
  cases h : spl c s with
  | nil => exact absurd h (spl_ne c s)
  | cons m r => exact ⟨m, r, rfl⟩
theorem spl_part {c : UInt8} {s : List UInt8} {f i : Nat} (hfi : f ≤ i) (hc : s[i]? = some c) (hn : c ∉ (s.take i).drop f) : spl c (s.drop f) = (s.take i).drop f :: spl c (s.drop (i + 1)) := by
  rw [part_at hfi hc, spl_hit _ hn]
set_option maxRecDepth 10000 in
set_option maxHeartbeats 8000000 in
theorem rparse_d (s : List UInt8) (hs : s.length ≤ 4194304) : DCalls Tryz.prog 6 [tT s] (fun ts => ts = [(parseF s).1.tv, tFa (parseF s).2.1 (parseF s).2.2]) := by
  have hp0 : parseF s = parseL (spl 10 s) := rfl
  generalize parseF s = R at *
  refine DCalls.enter tt_ok Tryz.func6 rfl Tryz.ntmps6 (by simp) (by repeat (first | exact pures_nil | refine pures_cons ?_ ?_ | exact trivial | exact pure_aggB rfl | exact arr_pure _ | exact Load.pure _ | exact Area.pure _ | exact dvs_pure _ | exact pure_sc | exact pure_sl)) ?_
  repeat (first | (refine DCode.cellRow (b := 5) 900 3 37 9 rfl rfl rfl ?_; refine DCode.asF (b := 900) rfl ?_) | refine q_seq ?_ | refine DCode.seq ?_ | refine DCode.region ?_ | (refine DOps.valK 3 rfl rfl rfl rfl ?_; refine ⟨.v (flN 0 0 0), OpVal.cast (OpVal.load tt_ok rfl rfl rfl rfl rfl rfl) rfl, ?_⟩) | refine DOps.nil ?_ | (refine DOps.valK 1 rfl rfl rfl rfl ?_; first | refine ⟨_, (OpVal.assign rfl rfl), ?_⟩) | (refine DOps.valK 25 rfl rfl rfl rfl ?_; first | refine ⟨_, (OpVal.buildS tt_ok rfl rfl rfl rfl rfl rfl rfl rfl), ?_⟩) | (refine DOps.k 29 rfl ?_; refine DOps.alS tt_ok rfl rfl rfl rfl rfl rfl rfl ?_) | (refine DOps.k 31 rfl ?_; refine DOps.store tt_ok rfl rfl rfl rfl rfl rfl rfl rfl (Nat.le_of_ble_eq_true rfl) rfl ?_))
  repeat (first | refine DCode.block ?_)
  refine DCode.loopG (fun s : Nat × Nat × Nat × Int × Int × Int × List Bx × Value => [(8, vI .i64 (s.1 : Nat)), (6, vI .i64 (s.2.1 : Nat)), (7, vI .i64 (s.2.2.1 : Nat))]) [6, 7, 8, 9, 10, 11, 12, 13, 17, 18, 19, 20, 21, 22, 23, 24, 25, 26, 27, 28, 29, 30, 31, 32, 33, 34, 35, 36, 37, 38, 39, 40, 41, 42, 43, 44, 45, 46, 47, 48, 49, 50, 51, 52, 53, 54, 55, 56, 57, 58, 59, 60, 61, 62, 63, 64, 65, 66, 67, 68, 69, 70, 71, 72, 73, 74, 75, 76, 77, 78, 79, 80, 81, 82, 83, 84, 85, 86, 87, 88, 89, 90, 91, 92, 93] (fun s => [(5, some (boxR s.2.2.2.1 s.2.2.2.2.1 s.2.2.2.2.2.1 s.2.2.2.2.2.2.2)), (900, some (.row 37 9 s.2.2.2.2.2.2.1.length s.2.2.2.2.2.2.2 ((s.2.2.2.2.2.2.1.flatMap Bx.dv).map .d) true))]) (fun x => x.1 ≤ s.length ∧ x.2.1 ≤ x.1 ∧ x.2.2.1 ≤ x.2.1 ∧ (10 : UInt8) ∉ (s.take x.1).drop x.2.1 ∧ ((x.2.2.1 = 0 ∧ x.2.1 = 0 ∧ x.2.2.2.2.2.2.1 = [] ∧ R = parseL (spl 10 s)) ∨ (0 < x.2.2.1 ∧ x.2.2.2.2.2.2.1.length < x.2.2.1 ∧ (∀ b ∈ x.2.2.2.2.2.2.1, b.text.length ≤ s.length) ∧ R = linesGo ⟨x.2.2.2.1, x.2.2.2.2.1, x.2.2.2.2.2.1, []⟩ (spl 10 (s.drop x.2.1)) x.2.2.1 x.2.2.2.2.2.2.1))) (fun x => s.length + 1 - x.1) (0, 0, 0, 0, 0, 0, [], .slice none 0 0) ⟨Nat.zero_le _, Nat.zero_le _, Nat.zero_le _, by simp, .inl ⟨rfl, rfl, rfl, hp0⟩⟩ (fun i _ => ⟨trivial, trivial, trivial, trivial⟩) (fun i _ => ⟨⟨_, rfl, boxR_ok⟩, ⟨_, rfl, rowOkB⟩, trivial⟩) (by (repeat (first | exact Off.refl _ _ | refine Sub.base ?_ | refine Sub.junk ?_ | refine Sub.cons (by rfl) ?_ | refine Off.cons rfl ?_ | refine Off.junks rfl ?_))) (by (repeat (first | exact MSubX.nil | refine MSubX.skip rfl ?_ | refine MSubX.cons (by rfl) ?_))) ?_
  clear hp0
  intro ⟨i, F, ln, p, q, r, out, v⟩ ⟨hi, hF, hln, hno, hst⟩
  simp only [] at hi hF hln hno hst
  show DCode _ _ _ _ _ ([(8, vI .i64 (i : Nat)), (6, vI .i64 (F : Nat)), (7, vI .i64 (ln : Nat))] ++ junks _ _) ([(5, some (boxR p q r v)), (900, some (.row 37 9 out.length v ((out.flatMap Bx.dv).map .d) true))] ++ _)
  have htx : ((s.take i).drop F).length ≤ s.length := by rw [List.length_drop, List.length_take]; omega
  by_cases hlt : i < s.length
  · obtain ⟨b, hb⟩ : ∃ b, s[i]? = some b := ⟨s[i], List.getElem?_eq_getElem hlt⟩
    by_cases hbc : b = 10
    rotate_left
    · have hbn : ¬ b.toNat = 10 := fun e => hbc (UInt8.toNat_inj.1 e)
      repeat (first | refine q_seq ?_ | refine q_seqX ?_ | refine q_then ?_ | refine q_blockX ?_ | refine DCode.seq ?_ | refine DCode.region ?_ | refine DCode.block ?_ | refine DCode.skip ?_ | refine DCode.exit ?_ | refine DCode.condT rfl ?_ | (refine DOps.valK 21 rfl rfl rfl rfl ?_; refine ⟨_, OpVal.idxT tt_ok rfl rfl rfl rfl rfl (by omega) (by rw [Int.toNat_natCast]; exact hb), ?_⟩) | refine DOps.nil ?_ | (refine DOps.valK 0 rfl rfl rfl rfl ?_; first | refine ⟨_, (OpVal.move rfl rfl), ?_⟩) | (refine DOps.valK 1 rfl rfl rfl rfl ?_; first | refine ⟨_, (OpVal.assign rfl rfl), ?_⟩) | (refine DOps.valK 10 rfl rfl rfl rfl ?_; first | refine ⟨_, (OpVal.add rfl rfl rfl (by omega) (by omega)), ?_⟩) | (refine DOps.valK 17 rfl rfl rfl rfl ?_; first | refine ⟨_, (OpVal.lenT tt_ok rfl rfl rfl rfl rfl rfl rfl), ?_⟩) | (refine DOps.valK 2 rfl rfl rfl rfl ?_; first | refine ⟨_, (OpVal.pickT rfl rfl rfl), ?_⟩) | (refine DOps.k 13 rfl ?_; first | refine DOps.cmpT rfl rfl rfl rfl rfl rfl rfl (by omega) ?_ | refine DOps.cmpF rfl rfl rfl rfl rfl rfl rfl (by omega) ?_) | (refine DOps.k 14 rfl ?_; first | refine DOps.cmpT rfl rfl rfl rfl rfl rfl rfl (by omega) ?_ | refine DOps.cmpF rfl rfl rfl rfl rfl rfl rfl (by omega) ?_))
      exact ⟨(i + 1, F, ln, p, q, r, out, v), ⟨hlt, by simp only []; omega, hln, not_drop_succ hF hb hno hbc, hst⟩, by simp only []; omega, Sub.cons (vI_congr (by simp only []; omega)) (by (repeat (first | exact Off.refl _ _ | refine Sub.base ?_ | refine Sub.junk ?_ | refine Sub.cons (by rfl) ?_ | refine Off.cons rfl ?_ | refine Off.junks rfl ?_))), by (repeat (first | exact MSubX.nil | refine MSubX.skip rfl ?_ | refine MSubX.cons (by rfl) ?_))⟩
    have hbn : b.toNat = 10 := by rw [hbc]; rfl
    rw [hbc] at hb
    have hsp := spl_part hF hb hno
    have hp10 : (10 : UInt8).toNat = 10 := rfl
    obtain ⟨m, rr, hm⟩ := spl_cons 10 (s.drop (i + 1))
    rw [hm] at hsp
    generalize hx : (s.take i).drop F = x at *
    rcases hst with ⟨rfl, rfl, rfl, hR⟩ | ⟨hl0, hol, hot, hR⟩
    · rw [List.drop_zero] at hsp
      rw [hsp] at hR
      cases hh : headOf x with
      | none =>
        have ch := head_bad x (by omega) hh
        rw [parseL_bad hh] at hR
        rw [hR]
        repeat (first | refine q_seq ?_ | refine q_seqR ?_ | refine q_thenR ?_ | refine q_blockR ?_ | refine DCode.seq ?_ | refine DCode.region ?_ | refine DCode.block ?_ | refine DCode.skip ?_ | refine DCode.ret ?_ | refine DCode.condT rfl ?_ | refine DCode.condF rfl ?_ | (refine DOps.valK 3 rfl rfl rfl rfl ?_; refine ⟨.v (flN 0 0 0), OpVal.cast (OpVal.load tt_ok rfl rfl rfl rfl rfl rfl) rfl, ?_⟩) | refine DOps.cellReE (b := 2) (i := 3) (dB []) rfl rfl (DEq.nil 9 _) rfl ?_ | (refine DOps.valK 21 rfl rfl rfl rfl ?_; refine ⟨_, OpVal.idxT tt_ok rfl rfl rfl rfl rfl (by omega) (by rw [Int.toNat_natCast]; exact hb), ?_⟩) | (refine DOps.valK 22 rfl rfl rfl rfl ?_; refine ⟨_, OpVal.cast (OpVal.sliceT (b := 0) (e := i) tt_ok rfl rfl rfl rfl ⟨_, rfl⟩ ⟨_, rfl⟩ hF hi) (congrArg vT hx), ?_⟩) | refine DOps.call1 (ts := [tT x]) rfl rfl rfl rfl rfl Tryz.func20 rfl (by kernel_rfl) rfl (by repeat (first | exact pures_nil | refine pures_cons ?_ ?_ | exact trivial | exact pure_aggB rfl | exact arr_pure _ | exact Load.pure _ | exact Area.pure _ | exact dvs_pure _ | exact pure_sc | exact pure_sl)) (ch) ?_ | refine DOps.nil ?_ | refine DOps.off rfl rfl rfl ?_ | (refine DOps.valK 0 rfl rfl rfl rfl ?_; first | refine ⟨_, (OpVal.move rfl rfl), ?_⟩ | refine ⟨_, (OpVal.moveT rfl rfl), ?_⟩) | (refine DOps.valK 1 rfl rfl rfl rfl ?_; first | refine ⟨_, (OpVal.assign rfl rfl), ?_⟩) | (refine DOps.valK 23 rfl rfl rfl rfl ?_; first | refine ⟨_, (OpVal.extract rfl rfl rfl), ?_⟩) | (refine DOps.valK 17 rfl rfl rfl rfl ?_; first | refine ⟨_, (OpVal.lenT tt_ok rfl rfl rfl rfl rfl rfl rfl), ?_⟩) | (refine DOps.valK 2 rfl rfl rfl rfl ?_; first | refine ⟨_, (OpVal.pickT rfl rfl rfl), ?_⟩ | refine ⟨_, (OpVal.pickF rfl rfl rfl), ?_⟩) | (refine DOps.valK 25 rfl rfl rfl rfl ?_; first | refine ⟨_, (OpVal.buildS tt_ok rfl rfl rfl rfl rfl rfl rfl rfl), ?_⟩) | (refine DOps.valK 16 rfl rfl rfl rfl ?_; first | refine ⟨_, (OpVal.notB rfl rfl), ?_⟩) | (refine DOps.k 12 rfl ?_; first | refine DOps.cmpT rfl rfl rfl rfl rfl rfl rfl (by omega) ?_ | refine DOps.cmpF rfl rfl rfl rfl rfl rfl rfl (by omega) ?_) | (refine DOps.k 13 rfl ?_; first | refine DOps.cmpT rfl rfl rfl rfl rfl rfl rfl (by omega) ?_ | refine DOps.cmpF rfl rfl rfl rfl rfl rfl rfl (by omega) ?_) | (refine DOps.k 14 rfl ?_; first | refine DOps.cmpT rfl rfl rfl rfl rfl rfl rfl (by omega) ?_ | refine DOps.cmpF rfl rfl rfl rfl rfl rfl rfl (by omega) ?_) | (refine DOps.k 29 rfl ?_; refine DOps.alS tt_ok rfl rfl rfl rfl rfl rfl rfl ?_) | (refine DOps.k 31 rfl ?_; refine DOps.store tt_ok rfl rfl rfl rfl rfl rfl rfl rfl (Nat.le_of_ble_eq_true rfl) rfl ?_))
        exact endQ.ret rfl (.cons (.cell rfl rfl rfl rfl rfl) (.cons (.cell rfl rfl rfl rfl rfl) .nil)) (by exact pures_cons (pure_aggB rfl) (pures_cons (pure_aggB rfl) pures_nil)) rfl
      | some g =>
        have ch := head_ok x g (by omega) hh
        rw [parseL_ok hh] at hR
        obtain ⟨_, hgb, _⟩ := headOf_some hh
        rw [← hm] at hR
        obtain ⟨gp, gq, gr, gb⟩ := g
        simp only [] at hgb
        subst hgb
        repeat (first | (refine DCode.cellRow (b := 5) 900 3 37 9 rfl rfl rfl ?_; refine DCode.asF (b := 900) rfl ?_) | refine q_seq ?_ | refine q_then ?_ | refine q_block ?_ | refine DCode.seq ?_ | refine DCode.region ?_ | refine DCode.block ?_ | refine DCode.skip ?_ | refine DCode.condT rfl ?_ | refine DCode.condF rfl ?_ | (refine DOps.valK 3 rfl rfl rfl rfl ?_; refine ⟨.v (flN gp gq gr), OpVal.cast (OpVal.load tt_ok rfl rfl rfl rfl rfl rfl) rfl, ?_⟩) | (refine DOps.valK 21 rfl rfl rfl rfl ?_; refine ⟨_, OpVal.idxT tt_ok rfl rfl rfl rfl rfl (by omega) (by rw [Int.toNat_natCast]; exact hb), ?_⟩) | (refine DOps.valK 22 rfl rfl rfl rfl ?_; refine ⟨_, OpVal.cast (OpVal.sliceT (b := 0) (e := i) tt_ok rfl rfl rfl rfl ⟨_, rfl⟩ ⟨_, rfl⟩ hF hi) (congrArg vT hx), ?_⟩) | refine DOps.call1 (ts := [tT x]) rfl rfl rfl rfl rfl Tryz.func20 rfl (by kernel_rfl) rfl (by repeat (first | exact pures_nil | refine pures_cons ?_ ?_ | exact trivial | exact pure_aggB rfl | exact arr_pure _ | exact Load.pure _ | exact Area.pure _ | exact dvs_pure _ | exact pure_sc | exact pure_sl)) (ch) ?_ | refine DOps.nil ?_ | refine DOps.off rfl rfl rfl ?_ | (refine DOps.valK 0 rfl rfl rfl rfl ?_; first | refine ⟨_, (OpVal.move rfl rfl), ?_⟩ | refine ⟨_, (OpVal.moveT rfl rfl), ?_⟩) | (refine DOps.valK 1 rfl rfl rfl rfl ?_; first | refine ⟨_, (OpVal.assign rfl rfl), ?_⟩) | (refine DOps.valK 10 rfl rfl rfl rfl ?_; first | refine ⟨_, (OpVal.add rfl rfl rfl (by omega) (by omega)), ?_⟩) | (refine DOps.valK 23 rfl rfl rfl rfl ?_; first | refine ⟨_, (OpVal.extract rfl rfl rfl), ?_⟩) | (refine DOps.valK 17 rfl rfl rfl rfl ?_; first | refine ⟨_, (OpVal.lenT tt_ok rfl rfl rfl rfl rfl rfl rfl), ?_⟩) | (refine DOps.valK 2 rfl rfl rfl rfl ?_; first | refine ⟨_, (OpVal.pickT rfl rfl rfl), ?_⟩ | refine ⟨_, (OpVal.pickF rfl rfl rfl), ?_⟩) | (refine DOps.valK 16 rfl rfl rfl rfl ?_; first | refine ⟨_, (OpVal.notB rfl rfl), ?_⟩) | (refine DOps.k 12 rfl ?_; first | refine DOps.cmpT rfl rfl rfl rfl rfl rfl rfl (by omega) ?_ | refine DOps.cmpF rfl rfl rfl rfl rfl rfl rfl (by omega) ?_) | (refine DOps.k 13 rfl ?_; first | refine DOps.cmpT rfl rfl rfl rfl rfl rfl rfl (by omega) ?_ | refine DOps.cmpF rfl rfl rfl rfl rfl rfl rfl (by omega) ?_) | (refine DOps.k 14 rfl ?_; first | refine DOps.cmpT rfl rfl rfl rfl rfl rfl rfl (by omega) ?_ | refine DOps.cmpF rfl rfl rfl rfl rfl rfl rfl (by omega) ?_) | (refine DOps.k 29 rfl ?_; refine DOps.alS tt_ok rfl rfl rfl rfl rfl rfl rfl ?_) | (refine DOps.k 31 rfl ?_; refine DOps.store tt_ok rfl rfl rfl rfl rfl rfl rfl rfl (Nat.le_of_ble_eq_true rfl) rfl ?_))
        exact ⟨(i + 1, i + 1, 1, gp, gq, gr, [], .slice none 0 0), ⟨hlt, Nat.le_refl _, by simp only []; omega, by simp, .inr ⟨Nat.one_pos, Nat.one_pos, (fun b hb => by cases hb), hR⟩⟩, by simp only []; omega, Sub.cons (vI_congr (by simp only []; omega)) (Sub.cons (vI_congr (by simp only []; omega)) (by (repeat (first | exact Off.refl _ _ | refine Sub.base ?_ | refine Sub.junk ?_ | refine Sub.cons (by rfl) ?_ | refine Off.cons rfl ?_ | refine Off.junks rfl ?_)))), by (repeat (first | exact MSubX.nil | refine MSubX.skip rfl ?_ | refine MSubX.cons (by rfl) ?_))⟩
    · rw [hsp] at hR
      cases hh : boxOf x with
      | none =>
        have ch := box_bad x (by omega) hh
        rw [lines_bad hh] at hR
        rw [hR]
        repeat (first | refine q_seq ?_ | refine q_seqR ?_ | refine q_thenR ?_ | refine q_blockR ?_ | refine DCode.seq ?_ | refine DCode.region ?_ | refine DCode.block ?_ | refine DCode.skip ?_ | refine DCode.ret ?_ | refine DCode.condT rfl ?_ | refine DCode.condF rfl ?_ | (refine DOps.valK 3 rfl rfl rfl rfl ?_; refine ⟨.v (flN 0 0 0), OpVal.cast (OpVal.load tt_ok rfl rfl rfl rfl rfl rfl) rfl, ?_⟩) | refine DOps.cellReE (b := 2) (i := 3) (dB []) rfl rfl (DEq.nil 9 _) rfl ?_ | (refine DOps.valK 21 rfl rfl rfl rfl ?_; refine ⟨_, OpVal.idxT tt_ok rfl rfl rfl rfl rfl (by omega) (by rw [Int.toNat_natCast]; exact hb), ?_⟩) | (refine DOps.valK 22 rfl rfl rfl rfl ?_; refine ⟨_, OpVal.cast (OpVal.sliceT (b := F) (e := i) tt_ok rfl rfl rfl rfl ⟨_, rfl⟩ ⟨_, rfl⟩ hF hi) (congrArg vT hx), ?_⟩) | refine DOps.call1 (ts := [tT x]) rfl rfl rfl rfl rfl Tryz.func21 rfl (by kernel_rfl) rfl (by repeat (first | exact pures_nil | refine pures_cons ?_ ?_ | exact trivial | exact pure_aggB rfl | exact arr_pure _ | exact Load.pure _ | exact Area.pure _ | exact dvs_pure _ | exact pure_sc | exact pure_sl)) (ch) ?_ | refine DOps.nil ?_ | refine DOps.off rfl rfl rfl ?_ | (refine DOps.valK 0 rfl rfl rfl rfl ?_; first | refine ⟨_, (OpVal.move rfl rfl), ?_⟩ | refine ⟨_, (OpVal.moveT rfl rfl), ?_⟩) | (refine DOps.valK 1 rfl rfl rfl rfl ?_; first | refine ⟨_, (OpVal.assign rfl rfl), ?_⟩) | (refine DOps.valK 23 rfl rfl rfl rfl ?_; first | refine ⟨_, (OpVal.extract rfl rfl rfl), ?_⟩) | (refine DOps.valK 17 rfl rfl rfl rfl ?_; first | refine ⟨_, (OpVal.lenT tt_ok rfl rfl rfl rfl rfl rfl rfl), ?_⟩) | (refine DOps.valK 2 rfl rfl rfl rfl ?_; first | refine ⟨_, (OpVal.pickT rfl rfl rfl), ?_⟩ | refine ⟨_, (OpVal.pickF rfl rfl rfl), ?_⟩) | (refine DOps.valK 25 rfl rfl rfl rfl ?_; first | refine ⟨_, (OpVal.buildS tt_ok rfl rfl rfl rfl rfl rfl rfl rfl), ?_⟩) | (refine DOps.valK 16 rfl rfl rfl rfl ?_; first | refine ⟨_, (OpVal.notB rfl rfl), ?_⟩) | (refine DOps.k 12 rfl ?_; first | refine DOps.cmpT rfl rfl rfl rfl rfl rfl rfl (by omega) ?_ | refine DOps.cmpF rfl rfl rfl rfl rfl rfl rfl (by omega) ?_) | (refine DOps.k 13 rfl ?_; first | refine DOps.cmpT rfl rfl rfl rfl rfl rfl rfl (by omega) ?_ | refine DOps.cmpF rfl rfl rfl rfl rfl rfl rfl (by omega) ?_) | (refine DOps.k 14 rfl ?_; first | refine DOps.cmpT rfl rfl rfl rfl rfl rfl rfl (by omega) ?_ | refine DOps.cmpF rfl rfl rfl rfl rfl rfl rfl (by omega) ?_) | (refine DOps.k 29 rfl ?_; refine DOps.alS tt_ok rfl rfl rfl rfl rfl rfl rfl ?_) | (refine DOps.k 31 rfl ?_; refine DOps.store tt_ok rfl rfl rfl rfl rfl rfl rfl rfl (Nat.le_of_ble_eq_true rfl) rfl ?_))
        exact endQ.ret rfl (.cons (.cell rfl rfl rfl rfl rfl) (.cons (.cell rfl rfl rfl rfl rfl) .nil)) (by exact pures_cons (pure_aggB rfl) (pures_cons (pure_aggB rfl) pures_nil)) rfl
      | some g =>
        have ch := box_ok x g (by omega) hh
        rw [lines_step hh] at hR
        have hgt : g.text.length ≤ s.length := by
          obtain ⟨e, _⟩ := boxOf_some hh
          refine Nat.le_trans ?_ htx
          have h10 : (spn 32 9 x).length = 10 := Classical.byContradiction fun hne => by rw [boxOf, if_neg hne] at hh; cases hh
          rw [boxOf, if_pos h10] at hh
          split at hh
          · injection hh with hh
            rw [← hh]
            exact getD_len (fun a ha => spn_mem 9 x a ha) 9
          · cases hh
        rw [← hm] at hR
        repeat (first | refine q_seq ?_ | refine q_then ?_ | refine q_block ?_ | refine DCode.seq ?_ | refine DCode.region ?_ | refine DCode.block ?_ | refine DCode.skip ?_ | refine DCode.condT rfl ?_ | refine DCode.condF rfl ?_ | (refine DOps.valK 21 rfl rfl rfl rfl ?_; refine ⟨_, OpVal.idxT tt_ok rfl rfl rfl rfl rfl (by omega) (by rw [Int.toNat_natCast]; exact hb), ?_⟩) | (refine DOps.valK 22 rfl rfl rfl rfl ?_; refine ⟨_, OpVal.cast (OpVal.sliceT (b := F) (e := i) tt_ok rfl rfl rfl rfl ⟨_, rfl⟩ ⟨_, rfl⟩ hF hi) (congrArg vT hx), ?_⟩) | refine DOps.call1 (ts := [tT x]) rfl rfl rfl rfl rfl Tryz.func21 rfl (by kernel_rfl) rfl (by repeat (first | exact pures_nil | refine pures_cons ?_ ?_ | exact trivial | exact pure_aggB rfl | exact arr_pure _ | exact Load.pure _ | exact Area.pure _ | exact dvs_pure _ | exact pure_sc | exact pure_sl)) (ch) ?_ | (refine DOps.valK 3 rfl rfl rfl rfl ?_; refine ⟨.v (g).tv, OpVal.cast (OpVal.load tt_ok rfl rfl rfl rfl rfl rfl) rfl, ?_⟩) | (refine DOps.k 28 rfl ?_; refine DOps.new (r := .v (.one (.d (.sl 1 (g.dv).length fun _ j => (g.dv).getD j (di 0))))) rfl rfl rfl (OpNew.bsl tt_ok (g.dv) _ rfl rfl rfl rfl rfl rfl rfl rfl rfl rfl (one_x (g.dv) rfl)) ?_) | refine DOps.appendF (n' := (out ++ [g]).length) (cs' := ((out ++ [g]).flatMap Bx.dv).map .d) tt_ok (Bx.dv (g)) rfl rfl rfl rfl rfl rfl rfl rfl rfl rfl rfl rfl rfl (by omega) (by show ((out).length + 1) * 80 ≤ 140737488355328; omega) (by show (out).length + 1 ≤ 9223372036854775807; omega) rfl (one_x _ rfl) (by simp) (snoc_x _ _) fun v' => ?_ | refine DOps.nil ?_ | refine DOps.off rfl rfl rfl ?_ | (refine DOps.valK 0 rfl rfl rfl rfl ?_; first | refine ⟨_, (OpVal.move rfl rfl), ?_⟩ | refine ⟨_, (OpVal.moveT rfl rfl), ?_⟩) | (refine DOps.valK 1 rfl rfl rfl rfl ?_; first | refine ⟨_, (OpVal.assign rfl rfl), ?_⟩) | (refine DOps.valK 3 rfl rfl rfl rfl ?_; first | refine ⟨_, (OpVal.load1 tt_ok rfl rfl rfl rfl rfl rfl), ?_⟩) | (refine DOps.valK 10 rfl rfl rfl rfl ?_; first | refine ⟨_, (OpVal.add rfl rfl rfl (by omega) (by omega)), ?_⟩) | (refine DOps.valK 23 rfl rfl rfl rfl ?_; first | refine ⟨_, (OpVal.extract rfl rfl rfl), ?_⟩) | (refine DOps.valK 18 rfl rfl rfl rfl ?_; first | refine ⟨_, (OpVal.fa tt_ok rfl rfl rfl rfl rfl rfl), ?_⟩) | (refine DOps.valK 17 rfl rfl rfl rfl ?_; first | refine ⟨_, (OpVal.lenT tt_ok rfl rfl rfl rfl rfl rfl rfl), ?_⟩) | (refine DOps.valK 2 rfl rfl rfl rfl ?_; first | refine ⟨_, (OpVal.pickT rfl rfl rfl), ?_⟩ | refine ⟨_, (OpVal.pickF rfl rfl rfl), ?_⟩) | (refine DOps.valK 16 rfl rfl rfl rfl ?_; first | refine ⟨_, (OpVal.notB rfl rfl), ?_⟩) | (refine DOps.k 12 rfl ?_; first | refine DOps.cmpT rfl rfl rfl rfl rfl rfl rfl (by omega) ?_ | refine DOps.cmpF rfl rfl rfl rfl rfl rfl rfl (by omega) ?_) | (refine DOps.k 13 rfl ?_; first | refine DOps.cmpT rfl rfl rfl rfl rfl rfl rfl (by omega) ?_ | refine DOps.cmpF rfl rfl rfl rfl rfl rfl rfl (by omega) ?_) | (refine DOps.k 14 rfl ?_; first | refine DOps.cmpT rfl rfl rfl rfl rfl rfl rfl (by omega) ?_ | refine DOps.cmpF rfl rfl rfl rfl rfl rfl rfl (by omega) ?_) | (refine DOps.k 29 rfl ?_; refine DOps.alS tt_ok rfl rfl rfl rfl rfl rfl rfl ?_) | (refine DOps.k 31 rfl ?_; refine DOps.store tt_ok rfl rfl rfl rfl rfl rfl rfl rfl (Nat.le_of_ble_eq_true rfl) rfl ?_))
        exact ⟨(i + 1, i + 1, ln + 1, p, q, r, out ++ [g], v'), ⟨hlt, Nat.le_refl _, by simp only []; omega, by simp, .inr ⟨by simp only []; omega, by simp; omega, (fun b hb => by
          rcases List.mem_append.1 hb with hb | hb
          · exact hot b hb
          · rw [List.mem_singleton] at hb; rw [hb]; exact hgt), hR⟩⟩, by simp only []; omega, Sub.cons (vI_congr (by simp only []; omega)) (Sub.cons (vI_congr (by simp only []; omega)) (Sub.cons (vI_congr (by simp only []; omega)) (by (repeat (first | exact Off.refl _ _ | refine Sub.base ?_ | refine Sub.junk ?_ | refine Sub.cons (by rfl) ?_ | refine Off.cons rfl ?_ | refine Off.junks rfl ?_))))), by (repeat (first | exact MSubX.nil | refine MSubX.skip rfl ?_ | refine MSubX.cons (by rfl) ?_))⟩
  obtain rfl : i = s.length := by omega
  rw [List.take_length] at hno htx
  have hsp := spl_none hno
  generalize hx : s.drop F = x at *
  rcases hst with ⟨rfl, rfl, rfl, hR⟩ | ⟨hl0, hol, hot, hR⟩
  · rw [List.drop_zero] at hx
    subst hx
    rw [hsp, parseL_one] at hR
    rw [hR]
    cases hh : headOf s with
    | none =>
      have ch := head_bad s (by omega) hh
      rcases Nat.eq_zero_or_pos s.length with hs0 | hs0
      all_goals repeat (first | refine q_seq ?_ | refine q_seqR ?_ | refine q_thenR ?_ | refine q_blockR ?_ | refine DCode.seq ?_ | refine DCode.region ?_ | refine DCode.block ?_ | refine DCode.skip ?_ | refine DCode.ret ?_ | refine DCode.condT rfl ?_ | refine DCode.condF rfl ?_ | (refine DOps.valK 3 rfl rfl rfl rfl ?_; refine ⟨.v (flN 0 0 0), OpVal.cast (OpVal.load tt_ok rfl rfl rfl rfl rfl rfl) rfl, ?_⟩) | refine DOps.cellReE (b := 2) (i := 3) (dB []) rfl rfl (DEq.nil 9 _) rfl ?_ | (refine DOps.valK 22 rfl rfl rfl rfl ?_; refine ⟨_, OpVal.cast (OpVal.sliceT (b := 0) (e := s.length) tt_ok rfl rfl rfl rfl ⟨_, rfl⟩ ⟨_, rfl⟩ hF hi) (congrArg vT (by rw [List.take_length, List.drop_zero])), ?_⟩) | refine DOps.call1 (ts := [tT s]) rfl rfl rfl rfl rfl Tryz.func20 rfl (by kernel_rfl) rfl (by repeat (first | exact pures_nil | refine pures_cons ?_ ?_ | exact trivial | exact pure_aggB rfl | exact arr_pure _ | exact Load.pure _ | exact Area.pure _ | exact dvs_pure _ | exact pure_sc | exact pure_sl)) (ch) ?_ | refine DOps.nil ?_ | refine DOps.off rfl rfl rfl ?_ | (refine DOps.valK 0 rfl rfl rfl rfl ?_; first | refine ⟨_, (OpVal.move rfl rfl), ?_⟩ | refine ⟨_, (OpVal.moveT rfl rfl), ?_⟩) | (refine DOps.valK 1 rfl rfl rfl rfl ?_; first | refine ⟨_, (OpVal.assign rfl rfl), ?_⟩) | (refine DOps.valK 23 rfl rfl rfl rfl ?_; first | refine ⟨_, (OpVal.extract rfl rfl rfl), ?_⟩) | (refine DOps.valK 17 rfl rfl rfl rfl ?_; first | refine ⟨_, (OpVal.lenT tt_ok rfl rfl rfl rfl rfl rfl rfl), ?_⟩) | (refine DOps.valK 2 rfl rfl rfl rfl ?_; first | refine ⟨_, (OpVal.pickT rfl rfl rfl), ?_⟩ | refine ⟨_, (OpVal.pickF rfl rfl rfl), ?_⟩) | (refine DOps.valK 25 rfl rfl rfl rfl ?_; first | refine ⟨_, (OpVal.buildS tt_ok rfl rfl rfl rfl rfl rfl rfl rfl), ?_⟩) | (refine DOps.valK 16 rfl rfl rfl rfl ?_; first | refine ⟨_, (OpVal.notB rfl rfl), ?_⟩) | (refine DOps.k 12 rfl ?_; first | refine DOps.cmpT rfl rfl rfl rfl rfl rfl rfl (by omega) ?_ | refine DOps.cmpF rfl rfl rfl rfl rfl rfl rfl (by omega) ?_) | (refine DOps.k 14 rfl ?_; first | refine DOps.cmpT rfl rfl rfl rfl rfl rfl rfl (by omega) ?_ | refine DOps.cmpF rfl rfl rfl rfl rfl rfl rfl (by omega) ?_) | (refine DOps.k 29 rfl ?_; refine DOps.alS tt_ok rfl rfl rfl rfl rfl rfl rfl ?_) | (refine DOps.k 31 rfl ?_; refine DOps.store tt_ok rfl rfl rfl rfl rfl rfl rfl rfl (Nat.le_of_ble_eq_true rfl) rfl ?_))
      all_goals exact endQ.ret rfl (.cons (.cell rfl rfl rfl rfl rfl) (.cons (.cell rfl rfl rfl rfl rfl) .nil)) (by exact pures_cons (pure_aggB rfl) (pures_cons (pure_aggB rfl) pures_nil)) rfl
    | some g =>
      have ch := head_ok s g (by omega) hh
      rcases Nat.eq_zero_or_pos s.length with hs0 | hs0
      all_goals repeat (first | refine q_seq ?_ | refine q_seqR ?_ | refine q_thenR ?_ | refine q_blockR ?_ | refine DCode.seq ?_ | refine DCode.region ?_ | refine DCode.block ?_ | refine DCode.skip ?_ | refine DCode.ret ?_ | refine DCode.condT rfl ?_ | refine DCode.condF rfl ?_ | (refine DOps.valK 3 rfl rfl rfl rfl ?_; refine ⟨.v (flN 0 0 0), OpVal.cast (OpVal.load tt_ok rfl rfl rfl rfl rfl rfl) rfl, ?_⟩) | refine DOps.cellReE (b := 2) (i := 3) (dB []) rfl rfl (DEq.nil 9 _) rfl ?_ | (refine DOps.valK 22 rfl rfl rfl rfl ?_; refine ⟨_, OpVal.cast (OpVal.sliceT (b := 0) (e := s.length) tt_ok rfl rfl rfl rfl ⟨_, rfl⟩ ⟨_, rfl⟩ hF hi) (congrArg vT (by rw [List.take_length, List.drop_zero])), ?_⟩) | refine DOps.call1 (ts := [tT s]) rfl rfl rfl rfl rfl Tryz.func20 rfl (by kernel_rfl) rfl (by repeat (first | exact pures_nil | refine pures_cons ?_ ?_ | exact trivial | exact pure_aggB rfl | exact arr_pure _ | exact Load.pure _ | exact Area.pure _ | exact dvs_pure _ | exact pure_sc | exact pure_sl)) (ch) ?_ | refine DOps.nil ?_ | refine DOps.off rfl rfl rfl ?_ | (refine DOps.valK 0 rfl rfl rfl rfl ?_; first | refine ⟨_, (OpVal.move rfl rfl), ?_⟩ | refine ⟨_, (OpVal.moveT rfl rfl), ?_⟩) | (refine DOps.valK 1 rfl rfl rfl rfl ?_; first | refine ⟨_, (OpVal.assign rfl rfl), ?_⟩) | (refine DOps.valK 23 rfl rfl rfl rfl ?_; first | refine ⟨_, (OpVal.extract rfl rfl rfl), ?_⟩) | (refine DOps.valK 17 rfl rfl rfl rfl ?_; first | refine ⟨_, (OpVal.lenT tt_ok rfl rfl rfl rfl rfl rfl rfl), ?_⟩) | (refine DOps.valK 2 rfl rfl rfl rfl ?_; first | refine ⟨_, (OpVal.pickT rfl rfl rfl), ?_⟩ | refine ⟨_, (OpVal.pickF rfl rfl rfl), ?_⟩) | (refine DOps.valK 25 rfl rfl rfl rfl ?_; first | refine ⟨_, (OpVal.buildS tt_ok rfl rfl rfl rfl rfl rfl rfl rfl), ?_⟩) | (refine DOps.valK 16 rfl rfl rfl rfl ?_; first | refine ⟨_, (OpVal.notB rfl rfl), ?_⟩) | (refine DOps.k 12 rfl ?_; first | refine DOps.cmpT rfl rfl rfl rfl rfl rfl rfl (by omega) ?_ | refine DOps.cmpF rfl rfl rfl rfl rfl rfl rfl (by omega) ?_) | (refine DOps.k 14 rfl ?_; first | refine DOps.cmpT rfl rfl rfl rfl rfl rfl rfl (by omega) ?_ | refine DOps.cmpF rfl rfl rfl rfl rfl rfl rfl (by omega) ?_) | (refine DOps.k 29 rfl ?_; refine DOps.alS tt_ok rfl rfl rfl rfl rfl rfl rfl ?_) | (refine DOps.k 31 rfl ?_; refine DOps.store tt_ok rfl rfl rfl rfl rfl rfl rfl rfl (Nat.le_of_ble_eq_true rfl) rfl ?_))
      all_goals exact endQ.ret rfl (.cons (.cell rfl rfl rfl rfl rfl) (.cons (.cell rfl rfl rfl rfl rfl) .nil)) (by exact pures_cons (pure_aggB rfl) (pures_cons (pure_aggB rfl) pures_nil)) rfl
  rw [hsp] at hR
  by_cases hFl : F = s.length
  · obtain rfl : x = [] := by rw [← hx, hFl, List.drop_length]
    rw [lines_end] at hR
    have ck := rcheck_d ⟨p, q, r, out⟩ (by show out.length ≤ _; omega) (bndB_of fun b hb => Nat.le_trans (hot b hb) (by omega))
    have hR : R = if checkF ⟨p, q, r, out⟩ = 0 then (⟨p, q, r, out⟩, 0, 0) else (fl0, checkF ⟨p, q, r, out⟩, -1) := hR
    generalize checkF ⟨p, q, r, out⟩ = c at *
    by_cases hc : c = 0
    · rw [if_pos hc] at hR
      rw [hR]
      repeat (first | refine q_seq ?_ | refine q_seqX ?_ | refine q_thenX ?_ | refine q_blockX ?_ | refine q_blockY rfl ?_ | refine DCode.seq ?_ | refine DCode.region ?_ | refine DCode.block ?_ | refine DCode.skip ?_ | refine DCode.exit ?_ | refine DCode.ret ?_ | refine DCode.condT rfl ?_ | refine DCode.condF rfl ?_ | refine DOps.cellReE (b := 2) (i := 3) (dB []) rfl rfl (DEq.nil 9 _) rfl ?_ | refine DOps.freezeCell (b := 900) (c := 5) (i := 3) (out.flatMap Bx.dv) (elB out) rfl rfl (by decide) rfl (flat_x (k := 9) _ (fun _ => rfl) _) rfl ?_ | (refine DOps.valK 3 rfl rfl rfl rfl ?_; refine ⟨.v ((Fl.mk p q r out)).tv, OpVal.cast (OpVal.load tt_ok rfl rfl rfl rfl rfl rfl) rfl, ?_⟩) | refine DOps.call1 (ts := [(Fl.mk p q r out).tv]) rfl rfl rfl rfl rfl Tryz.func9 rfl (by kernel_rfl) rfl (by repeat (first | exact pures_nil | refine pures_cons ?_ ?_ | exact trivial | exact pure_aggB rfl | exact arr_pure _ | exact Load.pure _ | exact Area.pure _ | exact dvs_pure _ | exact pure_sc | exact pure_sl)) (ck) ?_ | refine DOps.nil ?_ | refine DOps.off rfl rfl rfl ?_ | (refine DOps.valK 0 rfl rfl rfl rfl ?_; first | refine ⟨_, (OpVal.move rfl rfl), ?_⟩) | (refine DOps.valK 1 rfl rfl rfl rfl ?_; first | refine ⟨_, (OpVal.assign rfl rfl), ?_⟩) | (refine DOps.valK 17 rfl rfl rfl rfl ?_; first | refine ⟨_, (OpVal.lenT tt_ok rfl rfl rfl rfl rfl rfl rfl), ?_⟩) | (refine DOps.valK 2 rfl rfl rfl rfl ?_; first | refine ⟨_, (OpVal.pickT rfl rfl rfl), ?_⟩ | refine ⟨_, (OpVal.pickF rfl rfl rfl), ?_⟩) | (refine DOps.valK 25 rfl rfl rfl rfl ?_; first | refine ⟨_, (OpVal.buildS tt_ok rfl rfl rfl rfl rfl rfl rfl rfl), ?_⟩) | (refine DOps.k 12 rfl ?_; first | refine DOps.cmpT rfl rfl rfl rfl rfl rfl rfl (by omega) ?_ | refine DOps.cmpF rfl rfl rfl rfl rfl rfl rfl (by omega) ?_) | (refine DOps.k 13 rfl ?_; first | refine DOps.cmpT rfl rfl rfl rfl rfl rfl rfl (by omega) ?_ | refine DOps.cmpF rfl rfl rfl rfl rfl rfl rfl (by omega) ?_) | (refine DOps.k 14 rfl ?_; first | refine DOps.cmpT rfl rfl rfl rfl rfl rfl rfl (by omega) ?_ | refine DOps.cmpF rfl rfl rfl rfl rfl rfl rfl (by omega) ?_) | (refine DOps.k 31 rfl ?_; refine DOps.store tt_ok rfl rfl rfl rfl rfl rfl rfl rfl (Nat.le_of_ble_eq_true rfl) rfl ?_))
      exact endQ.ret rfl (.cons (.cell rfl rfl rfl rfl rfl) (.cons (.cell rfl rfl rfl rfl rfl) .nil)) (by exact pures_cons (pure_aggB rfl) (pures_cons (pure_aggB rfl) pures_nil)) rfl
    · rw [if_neg hc] at hR
      rw [hR]
      repeat (first | refine q_seq ?_ | refine q_seqX ?_ | refine q_seqR ?_ | refine q_thenX ?_ | refine q_blockX ?_ | refine q_blockY rfl ?_ | refine DCode.seq ?_ | refine DCode.region ?_ | refine DCode.block ?_ | refine DCode.skip ?_ | refine DCode.exit ?_ | refine DCode.ret ?_ | refine DCode.condT rfl ?_ | refine DCode.condF rfl ?_ | (refine DOps.valK 3 rfl rfl rfl rfl ?_; refine ⟨.v (flN 0 0 0), OpVal.cast (OpVal.load tt_ok rfl rfl rfl rfl rfl rfl) rfl, ?_⟩) | refine DOps.cellReE (b := 2) (i := 3) (dB []) rfl rfl (DEq.nil 9 _) rfl ?_ | refine DOps.freezeCell (b := 900) (c := 5) (i := 3) (out.flatMap Bx.dv) (elB out) rfl rfl (by decide) rfl (flat_x (k := 9) _ (fun _ => rfl) _) rfl ?_ | (refine DOps.valK 3 rfl rfl rfl rfl ?_; refine ⟨.v ((Fl.mk p q r out)).tv, OpVal.cast (OpVal.load tt_ok rfl rfl rfl rfl rfl rfl) rfl, ?_⟩) | refine DOps.call1 (ts := [(Fl.mk p q r out).tv]) rfl rfl rfl rfl rfl Tryz.func9 rfl (by kernel_rfl) rfl (by repeat (first | exact pures_nil | refine pures_cons ?_ ?_ | exact trivial | exact pure_aggB rfl | exact arr_pure _ | exact Load.pure _ | exact Area.pure _ | exact dvs_pure _ | exact pure_sc | exact pure_sl)) (ck) ?_ | refine DOps.nil ?_ | refine DOps.off rfl rfl rfl ?_ | (refine DOps.valK 0 rfl rfl rfl rfl ?_; first | refine ⟨_, (OpVal.move rfl rfl), ?_⟩) | (refine DOps.valK 1 rfl rfl rfl rfl ?_; first | refine ⟨_, (OpVal.assign rfl rfl), ?_⟩) | (refine DOps.valK 17 rfl rfl rfl rfl ?_; first | refine ⟨_, (OpVal.lenT tt_ok rfl rfl rfl rfl rfl rfl rfl), ?_⟩) | (refine DOps.valK 2 rfl rfl rfl rfl ?_; first | refine ⟨_, (OpVal.pickT rfl rfl rfl), ?_⟩ | refine ⟨_, (OpVal.pickF rfl rfl rfl), ?_⟩) | (refine DOps.valK 25 rfl rfl rfl rfl ?_; first | refine ⟨_, (OpVal.buildS tt_ok rfl rfl rfl rfl rfl rfl rfl rfl), ?_⟩) | (refine DOps.k 12 rfl ?_; first | refine DOps.cmpT rfl rfl rfl rfl rfl rfl rfl (by omega) ?_ | refine DOps.cmpF rfl rfl rfl rfl rfl rfl rfl (by omega) ?_) | (refine DOps.k 13 rfl ?_; first | refine DOps.cmpT rfl rfl rfl rfl rfl rfl rfl (by omega) ?_ | refine DOps.cmpF rfl rfl rfl rfl rfl rfl rfl (by omega) ?_) | (refine DOps.k 14 rfl ?_; first | refine DOps.cmpT rfl rfl rfl rfl rfl rfl rfl (by omega) ?_ | refine DOps.cmpF rfl rfl rfl rfl rfl rfl rfl (by omega) ?_) | (refine DOps.k 31 rfl ?_; refine DOps.store tt_ok rfl rfl rfl rfl rfl rfl rfl rfl (Nat.le_of_ble_eq_true rfl) rfl ?_))
      exact endQ.ret rfl (.cons (.cell rfl rfl rfl rfl rfl) (.cons (.cell rfl rfl rfl rfl rfl) .nil)) (by exact pures_cons (pure_aggB rfl) (pures_cons (pure_aggB rfl) pures_nil)) rfl
  · have hxn : x ≠ [] := fun e => by
      have := congrArg List.length hx
      rw [List.length_drop, e, List.length_nil] at this
      omega
    rw [lines_last hxn] at hR
    rw [hR]
    cases hh : boxOf x with
    | none =>
      have ch := box_bad x (by omega) hh
      repeat (first | refine q_seq ?_ | refine q_seqR ?_ | refine q_thenR ?_ | refine q_blockR ?_ | refine DCode.seq ?_ | refine DCode.region ?_ | refine DCode.block ?_ | refine DCode.skip ?_ | refine DCode.ret ?_ | refine DCode.condT rfl ?_ | refine DCode.condF rfl ?_ | (refine DOps.valK 3 rfl rfl rfl rfl ?_; refine ⟨.v (flN 0 0 0), OpVal.cast (OpVal.load tt_ok rfl rfl rfl rfl rfl rfl) rfl, ?_⟩) | refine DOps.cellReE (b := 2) (i := 3) (dB []) rfl rfl (DEq.nil 9 _) rfl ?_ | (refine DOps.valK 22 rfl rfl rfl rfl ?_; refine ⟨_, OpVal.cast (OpVal.sliceT (b := F) (e := s.length) tt_ok rfl rfl rfl rfl ⟨_, rfl⟩ ⟨_, rfl⟩ hF hi) (congrArg vT (by rw [List.take_length, hx])), ?_⟩) | refine DOps.call1 (ts := [tT x]) rfl rfl rfl rfl rfl Tryz.func21 rfl (by kernel_rfl) rfl (by repeat (first | exact pures_nil | refine pures_cons ?_ ?_ | exact trivial | exact pure_aggB rfl | exact arr_pure _ | exact Load.pure _ | exact Area.pure _ | exact dvs_pure _ | exact pure_sc | exact pure_sl)) (ch) ?_ | refine DOps.nil ?_ | refine DOps.off rfl rfl rfl ?_ | (refine DOps.valK 0 rfl rfl rfl rfl ?_; first | refine ⟨_, (OpVal.move rfl rfl), ?_⟩ | refine ⟨_, (OpVal.moveT rfl rfl), ?_⟩) | (refine DOps.valK 1 rfl rfl rfl rfl ?_; first | refine ⟨_, (OpVal.assign rfl rfl), ?_⟩) | (refine DOps.valK 23 rfl rfl rfl rfl ?_; first | refine ⟨_, (OpVal.extract rfl rfl rfl), ?_⟩) | (refine DOps.valK 17 rfl rfl rfl rfl ?_; first | refine ⟨_, (OpVal.lenT tt_ok rfl rfl rfl rfl rfl rfl rfl), ?_⟩) | (refine DOps.valK 2 rfl rfl rfl rfl ?_; first | refine ⟨_, (OpVal.pickT rfl rfl rfl), ?_⟩ | refine ⟨_, (OpVal.pickF rfl rfl rfl), ?_⟩) | (refine DOps.valK 25 rfl rfl rfl rfl ?_; first | refine ⟨_, (OpVal.buildS tt_ok rfl rfl rfl rfl rfl rfl rfl rfl), ?_⟩) | (refine DOps.valK 16 rfl rfl rfl rfl ?_; first | refine ⟨_, (OpVal.notB rfl rfl), ?_⟩) | (refine DOps.k 12 rfl ?_; first | refine DOps.cmpT rfl rfl rfl rfl rfl rfl rfl (by omega) ?_ | refine DOps.cmpF rfl rfl rfl rfl rfl rfl rfl (by omega) ?_) | (refine DOps.k 14 rfl ?_; first | refine DOps.cmpT rfl rfl rfl rfl rfl rfl rfl (by omega) ?_ | refine DOps.cmpF rfl rfl rfl rfl rfl rfl rfl (by omega) ?_) | (refine DOps.k 29 rfl ?_; refine DOps.alS tt_ok rfl rfl rfl rfl rfl rfl rfl ?_) | (refine DOps.k 31 rfl ?_; refine DOps.store tt_ok rfl rfl rfl rfl rfl rfl rfl rfl (Nat.le_of_ble_eq_true rfl) rfl ?_))
      exact endQ.ret rfl (.cons (.cell rfl rfl rfl rfl rfl) (.cons (.cell rfl rfl rfl rfl rfl) .nil)) (by exact pures_cons (pure_aggB rfl) (pures_cons (pure_aggB rfl) pures_nil)) rfl
    | some g =>
      have ch := box_ok x g (by omega) hh
      repeat (first | refine q_seq ?_ | refine q_seqR ?_ | refine q_thenR ?_ | refine q_blockR ?_ | refine DCode.seq ?_ | refine DCode.region ?_ | refine DCode.block ?_ | refine DCode.skip ?_ | refine DCode.ret ?_ | refine DCode.condT rfl ?_ | refine DCode.condF rfl ?_ | (refine DOps.valK 3 rfl rfl rfl rfl ?_; refine ⟨.v (flN 0 0 0), OpVal.cast (OpVal.load tt_ok rfl rfl rfl rfl rfl rfl) rfl, ?_⟩) | refine DOps.cellReE (b := 2) (i := 3) (dB []) rfl rfl (DEq.nil 9 _) rfl ?_ | (refine DOps.valK 22 rfl rfl rfl rfl ?_; refine ⟨_, OpVal.cast (OpVal.sliceT (b := F) (e := s.length) tt_ok rfl rfl rfl rfl ⟨_, rfl⟩ ⟨_, rfl⟩ hF hi) (congrArg vT (by rw [List.take_length, hx])), ?_⟩) | refine DOps.call1 (ts := [tT x]) rfl rfl rfl rfl rfl Tryz.func21 rfl (by kernel_rfl) rfl (by repeat (first | exact pures_nil | refine pures_cons ?_ ?_ | exact trivial | exact pure_aggB rfl | exact arr_pure _ | exact Load.pure _ | exact Area.pure _ | exact dvs_pure _ | exact pure_sc | exact pure_sl)) (ch) ?_ | refine DOps.nil ?_ | refine DOps.off rfl rfl rfl ?_ | (refine DOps.valK 0 rfl rfl rfl rfl ?_; first | refine ⟨_, (OpVal.move rfl rfl), ?_⟩ | refine ⟨_, (OpVal.moveT rfl rfl), ?_⟩) | (refine DOps.valK 1 rfl rfl rfl rfl ?_; first | refine ⟨_, (OpVal.assign rfl rfl), ?_⟩) | (refine DOps.valK 23 rfl rfl rfl rfl ?_; first | refine ⟨_, (OpVal.extract rfl rfl rfl), ?_⟩) | (refine DOps.valK 17 rfl rfl rfl rfl ?_; first | refine ⟨_, (OpVal.lenT tt_ok rfl rfl rfl rfl rfl rfl rfl), ?_⟩) | (refine DOps.valK 2 rfl rfl rfl rfl ?_; first | refine ⟨_, (OpVal.pickT rfl rfl rfl), ?_⟩ | refine ⟨_, (OpVal.pickF rfl rfl rfl), ?_⟩) | (refine DOps.valK 25 rfl rfl rfl rfl ?_; first | refine ⟨_, (OpVal.buildS tt_ok rfl rfl rfl rfl rfl rfl rfl rfl), ?_⟩) | (refine DOps.valK 16 rfl rfl rfl rfl ?_; first | refine ⟨_, (OpVal.notB rfl rfl), ?_⟩) | (refine DOps.k 12 rfl ?_; first | refine DOps.cmpT rfl rfl rfl rfl rfl rfl rfl (by omega) ?_ | refine DOps.cmpF rfl rfl rfl rfl rfl rfl rfl (by omega) ?_) | (refine DOps.k 14 rfl ?_; first | refine DOps.cmpT rfl rfl rfl rfl rfl rfl rfl (by omega) ?_ | refine DOps.cmpF rfl rfl rfl rfl rfl rfl rfl (by omega) ?_) | (refine DOps.k 29 rfl ?_; refine DOps.alS tt_ok rfl rfl rfl rfl rfl rfl rfl ?_) | (refine DOps.k 31 rfl ?_; refine DOps.store tt_ok rfl rfl rfl rfl rfl rfl rfl rfl (Nat.le_of_ble_eq_true rfl) rfl ?_))
      exact endQ.ret rfl (.cons (.cell rfl rfl rfl rfl rfl) (.cons (.cell rfl rfl rfl rfl rfl) .nil)) (by exact pures_cons (pure_aggB rfl) (pures_cons (pure_aggB rfl) pures_nil)) rfl
end Go.Proofs.YtejdeonbibbchaaGreatDoor
