/- law25: files checked, clear; numbers printed: the walks. -/
import Derived.Test.YtejdeonbibbchaaGreatDoorHb
set_option linter.unusedVariables false
set_option linter.unusedSimpArgs false
set_option linter.constructorNameAsVariable false
namespace Go.Proofs.YtejdeonbibbchaaGreatDoor
open Go Go.RowKit Go.Proofs.YtejdeonbibbchaaGreatDoor.DL
set_option linter.unusedVariables false
set_option linter.unusedSimpArgs false
attribute [local irreducible] DCode DOps OpVal DCalls DCallsM DCallsB DCallsR thenQ seqQ inBlockQ endQ endQM OpNew DCf

theorem amt_two {a b : Int} : [a, b].all amt = true ↔ amt a = true ∧ amt b = true := by
  simp only [List.all_cons, List.all_nil, Bool.and_eq_true, and_true]
theorem getD_memB {L : List Bx} {i : Nat} (h : i < L.length) : L.getD i bx0 ∈ L := by
  rw [List.getD_eq_getElem?_getD, List.getElem?_eq_getElem h]; exact List.getElem_mem h
theorem all_take {L : List Bx} {p : Bx → Bool} {i : Nat} (h : i < L.length) : (L.take (i + 1)).all p = ((L.take i).all p && p (L.getD i bx0)) := by
  obtain ⟨b, hb⟩ : ∃ b, L[i]? = some b := ⟨L[i], List.getElem?_eq_getElem h⟩
  rw [List.take_add_one, List.getD_eq_getElem?_getD, hb]; simp
set_option maxRecDepth 10000 in
set_option maxHeartbeats 8000000 in
theorem check_d (f : Fl) (hn : f.boxes.length ≤ 9223372036854775806) (hb : bndB f.boxes 4294967280) : DCalls Tryz.prog 8 [f.tv] (fun ts => ts = [it (checkF f)]) := by
  have ca := amount_d [f.width, f.height] (by simp)
  cases ha : [f.width, f.height].all amt with
  | false =>
    rw [ha] at ca
    have hno : checkF f = 250 := by
      rw [checkF, if_neg]
      intro h
      obtain ⟨h1, h2, h3, h4⟩ := head_iff.1 h
      rw [amt_two.2 ⟨h3, h4⟩] at ha
      cases ha
    rw [hno]
    refine DCalls.enter tt_ok Tryz.func8 rfl Tryz.ntmps8 (by simp) (by repeat (first | exact pures_nil | refine pures_cons ?_ ?_ | exact trivial | exact pure_aggB rfl | exact arr_pure _ | exact Load.pure _ | exact Area.pure _ | exact dvs_pure _ | exact pure_sc | exact pure_sl)) ?_
    repeat' (first | refine q_seq ?_ | refine q_seqR ?_ | refine DCode.seq ?_ | refine DCode.region ?_ | refine DCode.ret ?_ | refine DCode.condT rfl ?_ | (refine DOps.k 28 rfl ?_; refine DOps.new (r := .v (tN [f.width, f.height])) rfl rfl rfl (OpNew.bsl tt_ok (iD [f.width, f.height]) _ rfl rfl rfl rfl rfl rfl rfl rfl rfl rfl (ints_flat [f.width, f.height])) ?_) | refine DOps.call1 (ts := [tN [f.width, f.height]]) rfl rfl rfl rfl rfl Tryz.func23 rfl (by kernel_rfl) rfl (by repeat (first | exact pures_nil | refine pures_cons ?_ ?_ | exact trivial | exact pure_aggB rfl | exact arr_pure _ | exact Load.pure _ | exact Area.pure _ | exact dvs_pure _ | exact pure_sc | exact pure_sl)) (ca) ?_ | refine DOps.nil ?_ | refine DOps.off rfl rfl rfl ?_ | (refine DOps.valK 0 rfl rfl rfl rfl ?_; first | refine ⟨_, (OpVal.move rfl rfl), ?_⟩) | (refine DOps.valK 1 rfl rfl rfl rfl ?_; first | refine ⟨_, (OpVal.assign rfl rfl), ?_⟩) | (refine DOps.valK 3 rfl rfl rfl rfl ?_; first | refine ⟨_, (OpVal.load1 tt_ok rfl rfl rfl rfl rfl rfl), ?_⟩) | (refine DOps.valK 18 rfl rfl rfl rfl ?_; first | refine ⟨_, (OpVal.fa tt_ok rfl rfl rfl rfl rfl rfl), ?_⟩) | (refine DOps.valK 2 rfl rfl rfl rfl ?_; first | refine ⟨_, (OpVal.pickT rfl rfl rfl), ?_⟩ | refine ⟨_, (OpVal.pickF rfl rfl rfl), ?_⟩) | (refine DOps.valK 16 rfl rfl rfl rfl ?_; first | refine ⟨_, (OpVal.notB rfl rfl), ?_⟩) | (refine DOps.k 30 rfl ?_; refine DOps.boxS rfl rfl rfl rfl rfl rfl ?_) | refine DOps.cmp rfl rfl rfl rfl rfl rfl rfl (fun _ => ?_) (fun _ => ?_))
    all_goals exact endQ.ret rfl (.cons (.tmp rfl) .nil) (pures_cons trivial pures_nil) rfl
  | true =>
  rw [ha] at ca
  obtain ⟨a1, a2⟩ := amt_two.1 ha
  by_cases h1 : 0 ≤ f.pages ∧ f.pages ≤ 10000
  rotate_left
  · have hno : checkF f = 250 := by
      rw [checkF, if_neg]
      intro h
      obtain ⟨h1', h2, h3, h4⟩ := head_iff.1 h
      exact h1 ⟨h1', h2⟩
    rw [hno]
    refine DCalls.enter tt_ok Tryz.func8 rfl Tryz.ntmps8 (by simp) (by repeat (first | exact pures_nil | refine pures_cons ?_ ?_ | exact trivial | exact pure_aggB rfl | exact arr_pure _ | exact Load.pure _ | exact Area.pure _ | exact dvs_pure _ | exact pure_sc | exact pure_sl)) ?_
    repeat' (first | refine q_seq ?_ | refine q_seqR ?_ | refine DCode.seq ?_ | refine DCode.region ?_ | refine DCode.ret ?_ | refine DCode.condT rfl ?_ | refine DOps.nil ?_ | refine DOps.off rfl rfl rfl ?_ | (refine DOps.valK 0 rfl rfl rfl rfl ?_; first | refine ⟨_, (OpVal.move rfl rfl), ?_⟩) | (refine DOps.valK 1 rfl rfl rfl rfl ?_; first | refine ⟨_, (OpVal.assign rfl rfl), ?_⟩) | (refine DOps.valK 3 rfl rfl rfl rfl ?_; first | refine ⟨_, (OpVal.load1 tt_ok rfl rfl rfl rfl rfl rfl), ?_⟩) | (refine DOps.valK 18 rfl rfl rfl rfl ?_; first | refine ⟨_, (OpVal.fa tt_ok rfl rfl rfl rfl rfl rfl), ?_⟩) | (refine DOps.valK 2 rfl rfl rfl rfl ?_; first | refine ⟨_, (OpVal.pickT rfl rfl rfl), ?_⟩ | refine ⟨_, (OpVal.pickF rfl rfl rfl), ?_⟩) | (refine DOps.k 14 rfl ?_; first | refine DOps.cmpT rfl rfl rfl rfl rfl rfl rfl (by omega) ?_ | refine DOps.cmpF rfl rfl rfl rfl rfl rfl rfl (by omega) ?_) | (refine DOps.k 30 rfl ?_; refine DOps.boxS rfl rfl rfl rfl rfl rfl ?_) | refine DOps.cmp rfl rfl rfl rfl rfl rfl rfl (fun _ => ?_) (fun _ => ?_))
    all_goals first
      | exact endQ.ret rfl (.cons (.tmp rfl) .nil) (pures_cons trivial pures_nil) rfl
      | (exfalso; omega)
  obtain ⟨h1, h2⟩ := h1
  have hh : headB f = true := head_iff.2 ⟨h1, h2, a1, a2⟩
  by_cases h3 : 50000 < f.boxes.length
  · rw [show checkF f = 252 by rw [checkF, if_pos hh, if_pos h3]]
    refine DCalls.enter tt_ok Tryz.func8 rfl Tryz.ntmps8 (by simp) (by repeat (first | exact pures_nil | refine pures_cons ?_ ?_ | exact trivial | exact pure_aggB rfl | exact arr_pure _ | exact Load.pure _ | exact Area.pure _ | exact dvs_pure _ | exact pure_sc | exact pure_sl)) ?_
    repeat (first | refine q_seq ?_ | refine q_seqR ?_ | refine DCode.seq ?_ | refine DCode.region ?_ | refine DCode.skip ?_ | refine DCode.ret ?_ | refine DCode.condT rfl ?_ | refine DCode.condF rfl ?_ | (refine DOps.k 28 rfl ?_; refine DOps.new (r := .v (tN [f.width, f.height])) rfl rfl rfl (OpNew.bsl tt_ok (iD [f.width, f.height]) _ rfl rfl rfl rfl rfl rfl rfl rfl rfl rfl (ints_flat [f.width, f.height])) ?_) | refine DOps.call1 (ts := [tN [f.width, f.height]]) rfl rfl rfl rfl rfl Tryz.func23 rfl (by kernel_rfl) rfl (by repeat (first | exact pures_nil | refine pures_cons ?_ ?_ | exact trivial | exact pure_aggB rfl | exact arr_pure _ | exact Load.pure _ | exact Area.pure _ | exact dvs_pure _ | exact pure_sc | exact pure_sl)) (ca) ?_ | refine DOps.nil ?_ | (refine DOps.valK 0 rfl rfl rfl rfl ?_; first | refine ⟨_, (OpVal.move rfl rfl), ?_⟩) | (refine DOps.valK 1 rfl rfl rfl rfl ?_; first | refine ⟨_, (OpVal.assign rfl rfl), ?_⟩) | (refine DOps.valK 3 rfl rfl rfl rfl ?_; first | refine ⟨_, (OpVal.load1 tt_ok rfl rfl rfl rfl rfl rfl), ?_⟩) | (refine DOps.valK 18 rfl rfl rfl rfl ?_; first | refine ⟨_, (OpVal.fa tt_ok rfl rfl rfl rfl rfl rfl), ?_⟩) | (refine DOps.valK 17 rfl rfl rfl rfl ?_; first | refine ⟨_, (OpVal.lenD tt_ok rfl rfl rfl rfl rfl rfl rfl), ?_⟩) | (refine DOps.valK 2 rfl rfl rfl rfl ?_; first | refine ⟨_, (OpVal.pickF rfl rfl rfl), ?_⟩) | (refine DOps.valK 16 rfl rfl rfl rfl ?_; first | refine ⟨_, (OpVal.notB rfl rfl), ?_⟩) | (refine DOps.k 14 rfl ?_; first | refine DOps.cmpT rfl rfl rfl rfl rfl rfl rfl (by omega) ?_ | refine DOps.cmpF rfl rfl rfl rfl rfl rfl rfl (by omega) ?_) | (refine DOps.k 30 rfl ?_; refine DOps.boxS rfl rfl rfl rfl rfl rfl ?_))
    exact endQ.ret rfl (.cons (.tmp rfl) .nil) (pures_cons trivial pures_nil) rfl
  refine DCalls.enter tt_ok Tryz.func8 rfl Tryz.ntmps8 (by simp) (by repeat (first | exact pures_nil | refine pures_cons ?_ ?_ | exact trivial | exact pure_aggB rfl | exact arr_pure _ | exact Load.pure _ | exact Area.pure _ | exact dvs_pure _ | exact pure_sc | exact pure_sl)) ?_
  repeat (first | refine q_seq ?_ | refine DCode.seq ?_ | refine DCode.region ?_ | refine DCode.block ?_ | refine DCode.skip ?_ | refine DCode.condF rfl ?_ | (refine DOps.k 28 rfl ?_; refine DOps.new (r := .v (tN [f.width, f.height])) rfl rfl rfl (OpNew.bsl tt_ok (iD [f.width, f.height]) _ rfl rfl rfl rfl rfl rfl rfl rfl rfl rfl (ints_flat [f.width, f.height])) ?_) | refine DOps.call1 (ts := [tN [f.width, f.height]]) rfl rfl rfl rfl rfl Tryz.func23 rfl (by kernel_rfl) rfl (by repeat (first | exact pures_nil | refine pures_cons ?_ ?_ | exact trivial | exact pure_aggB rfl | exact arr_pure _ | exact Load.pure _ | exact Area.pure _ | exact dvs_pure _ | exact pure_sc | exact pure_sl)) (ca) ?_ | refine DOps.nil ?_ | (refine DOps.valK 0 rfl rfl rfl rfl ?_; first | refine ⟨_, (OpVal.move rfl rfl), ?_⟩) | (refine DOps.valK 1 rfl rfl rfl rfl ?_; first | refine ⟨_, (OpVal.assign rfl rfl), ?_⟩) | (refine DOps.valK 3 rfl rfl rfl rfl ?_; first | refine ⟨_, (OpVal.load1 tt_ok rfl rfl rfl rfl rfl rfl), ?_⟩) | (refine DOps.valK 18 rfl rfl rfl rfl ?_; first | refine ⟨_, (OpVal.fa tt_ok rfl rfl rfl rfl rfl rfl), ?_⟩) | (refine DOps.valK 17 rfl rfl rfl rfl ?_; first | refine ⟨_, (OpVal.lenD tt_ok rfl rfl rfl rfl rfl rfl rfl), ?_⟩) | (refine DOps.valK 2 rfl rfl rfl rfl ?_; first | refine ⟨_, (OpVal.pickF rfl rfl rfl), ?_⟩) | (refine DOps.valK 16 rfl rfl rfl rfl ?_; first | refine ⟨_, (OpVal.notB rfl rfl), ?_⟩) | (refine DOps.k 14 rfl ?_; first | refine DOps.cmpT rfl rfl rfl rfl rfl rfl rfl (by omega) ?_ | refine DOps.cmpF rfl rfl rfl rfl rfl rfl rfl (by omega) ?_) | (refine DOps.k 30 rfl ?_; refine DOps.boxS rfl rfl rfl rfl rfl rfl ?_))
  refine DCode.loopG (fun i : Nat => [(29, vI .i64 (i : Nat))]) [2, 4, 29, 30, 31, 32, 33, 34, 35, 36, 37] (fun _ => []) (fun i => i ≤ f.boxes.length ∧ (f.boxes.take i).all (rightB f) = true) (fun i => f.boxes.length - i) 0 ⟨Nat.zero_le _, rfl⟩ (fun i _ => ⟨trivial, trivial⟩) (fun i _ => trivial) (by (repeat (first | exact Off.refl _ _ | refine Sub.base ?_ | refine Sub.junk ?_ | refine Sub.cons (by rfl) ?_ | refine Off.cons rfl ?_ | refine Off.junks rfl ?_))) (by (repeat (first | exact MSubX.nil | refine MSubX.skip rfl ?_ | refine MSubX.cons (by rfl) ?_))) ?_
  intro i ⟨hi, hal⟩
  show DCode _ _ _ _ _ ([(29, vI .i64 (i : Nat))] ++ junks _ _) ([] ++ _)
  by_cases hlt : i < f.boxes.length
  · have cr := right_d f (f.boxes.getD i bx0) (hb i)
    have hst := all_take (p := rightB f) hlt
    have hmem := getD_memB hlt
    cases hr : rightB f (f.boxes.getD i bx0) with
    | false =>
      rw [hr] at cr
      rw [show checkF f = 251 by
        rw [checkF, if_pos hh, if_neg h3, if_neg]
        intro h
        have := List.all_eq_true.1 h _ hmem
        rw [hr] at this; cases this]
      repeat (first | refine q_seq ?_ | refine q_seqR ?_ | refine q_thenR ?_ | refine q_blockR ?_ | refine DCode.seq ?_ | refine DCode.region ?_ | refine DCode.block ?_ | refine DCode.skip ?_ | refine DCode.ret ?_ | refine DCode.condT rfl ?_ | (refine DOps.valK 3 rfl rfl rfl rfl ?_; refine ⟨_, OpVal.ldX tt_ok rfl rfl rfl (Int.toNat_natCast i) rfl, ?_⟩) | (refine DOps.valK 3 rfl rfl rfl rfl ?_; refine ⟨.v (f).tv, OpVal.cast (OpVal.load tt_ok rfl rfl rfl rfl rfl rfl) rfl, ?_⟩) | (refine DOps.valK 3 rfl rfl rfl rfl ?_; refine ⟨.v ((f.boxes.getD i bx0)).tv, OpVal.cast (OpVal.load tt_ok rfl rfl rfl rfl rfl rfl) rfl, ?_⟩) | refine DOps.call1 (ts := [f.tv, (f.boxes.getD i bx0).tv]) rfl rfl rfl rfl rfl Tryz.func24 rfl (by kernel_rfl) rfl (by repeat (first | exact pures_nil | refine pures_cons ?_ ?_ | exact trivial | exact pure_aggB rfl | exact arr_pure _ | exact Load.pure _ | exact Area.pure _ | exact dvs_pure _ | exact pure_sc | exact pure_sl)) (cr) ?_ | refine DOps.nil ?_ | (refine DOps.valK 1 rfl rfl rfl rfl ?_; first | refine ⟨_, (OpVal.assign rfl rfl), ?_⟩) | (refine DOps.valK 19 rfl rfl rfl rfl ?_; first | refine ⟨_, (OpVal.iaD tt_ok rfl rfl rfl rfl rfl rfl (by omega) (by omega)), ?_⟩) | (refine DOps.valK 16 rfl rfl rfl rfl ?_; first | refine ⟨_, (OpVal.notB rfl rfl), ?_⟩) | (refine DOps.k 14 rfl ?_; first | refine DOps.cmpT rfl rfl rfl rfl rfl rfl rfl (by omega) ?_ | refine DOps.cmpF rfl rfl rfl rfl rfl rfl rfl (by omega) ?_) | (refine DOps.k 29 rfl ?_; refine DOps.alS tt_ok rfl rfl rfl rfl rfl rfl rfl ?_) | (refine DOps.k 31 rfl ?_; refine DOps.store tt_ok rfl rfl rfl rfl rfl rfl rfl rfl (Nat.le_of_ble_eq_true rfl) rfl ?_))
      exact endQ.ret rfl (.cons (.tmp rfl) .nil) (pures_cons trivial pures_nil) rfl
    | true =>
      rw [hr] at cr
      repeat (first | refine q_seq ?_ | refine q_then ?_ | refine q_block ?_ | refine DCode.seq ?_ | refine DCode.region ?_ | refine DCode.block ?_ | refine DCode.skip ?_ | refine DCode.condT rfl ?_ | refine DCode.condF rfl ?_ | (refine DOps.valK 3 rfl rfl rfl rfl ?_; refine ⟨_, OpVal.ldX tt_ok rfl rfl rfl (Int.toNat_natCast i) rfl, ?_⟩) | (refine DOps.valK 3 rfl rfl rfl rfl ?_; refine ⟨.v (f).tv, OpVal.cast (OpVal.load tt_ok rfl rfl rfl rfl rfl rfl) rfl, ?_⟩) | (refine DOps.valK 3 rfl rfl rfl rfl ?_; refine ⟨.v ((f.boxes.getD i bx0)).tv, OpVal.cast (OpVal.load tt_ok rfl rfl rfl rfl rfl rfl) rfl, ?_⟩) | refine DOps.call1 (ts := [f.tv, (f.boxes.getD i bx0).tv]) rfl rfl rfl rfl rfl Tryz.func24 rfl (by kernel_rfl) rfl (by repeat (first | exact pures_nil | refine pures_cons ?_ ?_ | exact trivial | exact pure_aggB rfl | exact arr_pure _ | exact Load.pure _ | exact Area.pure _ | exact dvs_pure _ | exact pure_sc | exact pure_sl)) (cr) ?_ | refine DOps.nil ?_ | (refine DOps.valK 0 rfl rfl rfl rfl ?_; first | refine ⟨_, (OpVal.move rfl rfl), ?_⟩) | (refine DOps.valK 10 rfl rfl rfl rfl ?_; first | refine ⟨_, (OpVal.add rfl rfl rfl (by omega) (by omega)), ?_⟩) | (refine DOps.valK 19 rfl rfl rfl rfl ?_; first | refine ⟨_, (OpVal.iaD tt_ok rfl rfl rfl rfl rfl rfl (by omega) (by omega)), ?_⟩) | (refine DOps.valK 16 rfl rfl rfl rfl ?_; first | refine ⟨_, (OpVal.notB rfl rfl), ?_⟩) | (refine DOps.k 14 rfl ?_; first | refine DOps.cmpT rfl rfl rfl rfl rfl rfl rfl (by omega) ?_ | refine DOps.cmpF rfl rfl rfl rfl rfl rfl rfl (by omega) ?_) | (refine DOps.k 29 rfl ?_; refine DOps.alS tt_ok rfl rfl rfl rfl rfl rfl rfl ?_) | (refine DOps.k 31 rfl ?_; refine DOps.store tt_ok rfl rfl rfl rfl rfl rfl rfl rfl (Nat.le_of_ble_eq_true rfl) rfl ?_))
      exact ⟨i + 1, ⟨hlt, by rw [hst, hal, hr]; rfl⟩, by omega, Sub.cons (vI_congr (by omega)) (by (repeat (first | exact Off.refl _ _ | refine Sub.base ?_ | refine Sub.junk ?_ | refine Sub.cons (by rfl) ?_ | refine Off.cons rfl ?_ | refine Off.junks rfl ?_))), by (repeat (first | exact MSubX.nil | refine MSubX.skip rfl ?_ | refine MSubX.cons (by rfl) ?_))⟩
  · obtain rfl : i = f.boxes.length := by omega
    rw [List.take_length] at hal
    rw [show checkF f = 0 by rw [checkF, if_pos hh, if_neg h3, if_pos hal]]
    repeat (first | refine q_seq ?_ | refine q_seqX ?_ | refine q_thenX ?_ | refine q_blockX ?_ | refine DCode.seq ?_ | refine DCode.region ?_ | refine DCode.exit ?_ | refine DCode.ret ?_ | refine DCode.condF rfl ?_ | refine DOps.nil ?_ | (refine DOps.valK 1 rfl rfl rfl rfl ?_; first | refine ⟨_, (OpVal.assign rfl rfl), ?_⟩) | (refine DOps.k 14 rfl ?_; first | refine DOps.cmpT rfl rfl rfl rfl rfl rfl rfl (by omega) ?_ | refine DOps.cmpF rfl rfl rfl rfl rfl rfl rfl (by omega) ?_))
    exact endQ.ret rfl (.cons (.tmp rfl) .nil) (pures_cons trivial pures_nil) rfl
/-- Do two boxes lie apart? -/
def apartB (a b : Bx) : Bool :=
  decide (a.w ≤ 0) || decide (a.h ≤ 0) || decide (b.w ≤ 0) || decide (b.h ≤ 0) || !decide (a.page = b.page) || decide (IntKind.i64.wrap (a.x + a.w) ≤ b.x) || decide (IntKind.i64.wrap (b.x + b.w) ≤ a.x) || decide (IntKind.i64.wrap (a.y + a.h) ≤ b.y) || decide (IntKind.i64.wrap (b.y + b.h) ≤ a.y)
theorem apart_iff {a b : Bx} : apartB a b = true ↔ a.w ≤ 0 ∨ a.h ≤ 0 ∨ b.w ≤ 0 ∨ b.h ≤ 0 ∨ a.page ≠ b.page ∨ IntKind.i64.wrap (a.x + a.w) ≤ b.x ∨ IntKind.i64.wrap (b.x + b.w) ≤ a.x ∨ IntKind.i64.wrap (a.y + a.h) ≤ b.y ∨ IntKind.i64.wrap (b.y + b.h) ≤ a.y := by
  simp [apartB, or_assoc]
set_option maxRecDepth 10000 in
set_option maxHeartbeats 8000000 in
theorem apart_d (a b : Bx) : DCalls Tryz.prog 31 [a.tv, b.tv] (fun ts => ts = [bt (apartB a b)]) := by
  have hi := @apart_iff a b
  refine DCalls.enter tt_ok Tryz.func31 rfl Tryz.ntmps31 (by simp) (by repeat (first | exact pures_nil | refine pures_cons ?_ ?_ | exact trivial | exact pure_aggB rfl | exact arr_pure _ | exact Load.pure _ | exact Area.pure _ | exact dvs_pure _ | exact pure_sc | exact pure_sl)) ?_
  repeat' (first | refine q_seq ?_ | refine q_seqR ?_ | refine DCode.seq ?_ | refine DCode.region ?_ | refine DCode.skip ?_ | refine DCode.ret ?_ | refine DCode.condT rfl ?_ | refine DCode.condF rfl ?_ | (refine DOps.valK 10 rfl rfl rfl rfl ?_; refine ⟨_, OpVal.arith (k := .i64) (r := IntKind.i64.wrap _) rfl rfl rfl rfl, ?_⟩) | refine DOps.nil ?_ | refine DOps.off rfl rfl rfl ?_ | (refine DOps.valK 0 rfl rfl rfl rfl ?_; first | refine ⟨_, (OpVal.move rfl rfl), ?_⟩) | (refine DOps.valK 1 rfl rfl rfl rfl ?_; first | refine ⟨_, (OpVal.assign rfl rfl), ?_⟩) | (refine DOps.valK 3 rfl rfl rfl rfl ?_; first | refine ⟨_, (OpVal.load1 tt_ok rfl rfl rfl rfl rfl rfl), ?_⟩) | (refine DOps.valK 18 rfl rfl rfl rfl ?_; first | refine ⟨_, (OpVal.fa tt_ok rfl rfl rfl rfl rfl rfl), ?_⟩) | (refine DOps.valK 2 rfl rfl rfl rfl ?_; first | refine ⟨_, (OpVal.pickT rfl rfl rfl), ?_⟩ | refine ⟨_, (OpVal.pickF rfl rfl rfl), ?_⟩) | (refine DOps.k 30 rfl ?_; refine DOps.boxS rfl rfl rfl rfl rfl rfl ?_) | refine DOps.cmp rfl rfl rfl rfl rfl rfl rfl (fun _ => ?_) (fun _ => ?_))
  all_goals refine endQ.ret rfl (.cons (.tmp rfl) .nil) (pures_cons trivial pures_nil) (bt1 (Eq.symm ?_))
  all_goals first
    | (refine apart_iff.2 ?_
       omega)
    | (refine Bool.eq_false_iff.2 fun h => ?_
       have := apart_iff.1 h
       omega)
/-- Are no two boxes on one another? -/
def clearW (L : List Bx) : Bool := (List.range L.length).all fun i => (L.take i).all (apartB (L.getD i bx0))
theorem takeB (L : List Bx) (i : Nat) (h : i ≤ L.length) : DEq (.sl (i - 0) 9 fun p q => elB L (0 + p) q) (dB (L.take i)) := by
  have : (L.take i).length = i - 0 := by rw [List.length_take]; omega
  rw [dB, this]
  refine DEq.sl fun p q hp hq => ?_
  rw [elB, elB, elX, elX, Nat.zero_add]
  have e : (L.take i).getD p bx0 = L.getD p bx0 := by
    rw [List.getD_eq_getElem?_getD, List.getD_eq_getElem?_getD, List.getElem?_take, if_pos (by omega)]
  rw [e]
end Go.Proofs.YtejdeonbibbchaaGreatDoor
