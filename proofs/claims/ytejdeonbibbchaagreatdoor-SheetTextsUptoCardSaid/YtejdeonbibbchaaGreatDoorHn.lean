/- law25: what the document fixes: the walk. -/
import Derived.Test.YtejdeonbibbchaaGreatDoorHm
set_option linter.unusedVariables false
set_option linter.unusedSimpArgs false
set_option linter.constructorNameAsVariable false
namespace Go.Proofs.YtejdeonbibbchaaGreatDoor
open Go Go.RowKit Go.Proofs.YtejdeonbibbchaaGreatDoor.DL
set_option linter.unusedVariables false
set_option linter.unusedSimpArgs false
attribute [local irreducible] DCode DOps OpVal DCalls DCallsM DCallsB DCallsR thenQ seqQ inBlockQ endQ endQM OpNew DCf

theorem parseF_text {f : Fl} (hin : ∀ v ∈ f.ns, in64 v) (hb : ∀ b ∈ f.boxes, (∀ v ∈ b.ns, in64 v) ∧ (10 : UInt8) ∉ b.text) : parseF (headT f ++ f.boxes.flatMap boxT) = if checkF f = 0 then (f, 0, 0) else (fl0, checkF f, -1) := by
  have e : spl 10 (headT f ++ f.boxes.flatMap boxT) = headBody f :: (f.boxes.map boxBody ++ [[]]) := by
    have := spl_lines [] f.boxes fun b h => (hb b h).2
    rw [List.append_nil] at this
    rw [headT_body, List.append_assoc]
    rw [show headBody f ++ ([10] ++ f.boxes.flatMap boxT) = headBody f ++ 10 :: f.boxes.flatMap boxT from rfl, spl_hit _ (headBody_no10 f), this]
    rfl
  have hr : ∃ m r, f.boxes.map boxBody ++ [[]] = m :: r := by
    cases f.boxes with
    | nil => exact ⟨_, _, rfl⟩
    | cons x L => exact ⟨_, _, rfl⟩
  obtain ⟨m, r, e2⟩ := hr
  have go := lines_go ⟨f.pages, f.width, f.height, []⟩ f.boxes 1 [] fun b h => (hb b h).1
  rw [parseF, e, e2, parseL_ok (headOf_body hin), ← e2, go, lines_end, List.nil_append]
theorem fault_eq (a b c d : Int) : EqV Tryz.prog 9 28 (.agg [.d (di a), .d (di b)]) (.agg [.d (di c), .d (di d)]) (decide (a = c) && decide (b = d)) := by
  have h : EqV Tryz.prog 1 28 (.agg [.d (di a), .d (di b)]) (.agg [.d (di c), .d (di d)]) (decide (a = c) && (decide (b = d) && true)) := by
    refine EqV.struct tt_ok rfl (by kernel_rfl) ?_
    refine ⟨_, _, _, _, _, by decide, rfl, ⟨_, rfl, rfl⟩, ⟨_, rfl, rfl⟩, EqV.int tt_ok rfl, ?_, rfl⟩
    exact ⟨_, _, _, _, _, by decide, rfl, ⟨_, rfl, rfl⟩, ⟨_, rfl, rfl⟩, EqV.int tt_ok rfl, rfl, rfl⟩
  rw [Bool.and_true] at h
  exact EqV.le (by omega) h
theorem fault_same (a b : Int) : EqV Tryz.prog 9 28 (.agg [.d (di a), .d (di b)]) (.agg [.d (di a), .d (di b)]) true := by have := fault_eq a b a b; simpa using this
theorem box_eq (a b : Bx) : EqV Tryz.prog 9 37 a.tv b.tv (decide (a = b)) := by
  have h : EqV Tryz.prog 1 37 a.tv b.tv (decide (a.page = b.page) && (decide (a.kind = b.kind) && (decide (a.side = b.side) && (decide (a.word = b.word) && (decide (a.x = b.x) && (decide (a.y = b.y) && (decide (a.w = b.w) && (decide (a.h = b.h) && (decide (a.text = b.text) && true))))))))) := by
    refine EqV.struct tt_ok rfl (by kernel_rfl) ?_
    refine ⟨_, _, _, _, _, by decide, rfl, ⟨_, rfl, rfl⟩, ⟨_, rfl, rfl⟩, EqV.int tt_ok rfl, ?_, rfl⟩
    refine ⟨_, _, _, _, _, by decide, rfl, ⟨_, rfl, rfl⟩, ⟨_, rfl, rfl⟩, EqV.int tt_ok rfl, ?_, rfl⟩
    refine ⟨_, _, _, _, _, by decide, rfl, ⟨_, rfl, rfl⟩, ⟨_, rfl, rfl⟩, EqV.int tt_ok rfl, ?_, rfl⟩
    refine ⟨_, _, _, _, _, by decide, rfl, ⟨_, rfl, rfl⟩, ⟨_, rfl, rfl⟩, EqV.int tt_ok rfl, ?_, rfl⟩
    refine ⟨_, _, _, _, _, by decide, rfl, ⟨_, rfl, rfl⟩, ⟨_, rfl, rfl⟩, EqV.int tt_ok rfl, ?_, rfl⟩
    refine ⟨_, _, _, _, _, by decide, rfl, ⟨_, rfl, rfl⟩, ⟨_, rfl, rfl⟩, EqV.int tt_ok rfl, ?_, rfl⟩
    refine ⟨_, _, _, _, _, by decide, rfl, ⟨_, rfl, rfl⟩, ⟨_, rfl, rfl⟩, EqV.int tt_ok rfl, ?_, rfl⟩
    refine ⟨_, _, _, _, _, by decide, rfl, ⟨_, rfl, rfl⟩, ⟨_, rfl, rfl⟩, EqV.int tt_ok rfl, ?_, rfl⟩
    exact ⟨_, _, _, _, _, by decide, rfl, ⟨_, rfl, rfl⟩, ⟨_, rfl, rfl⟩, EqV.str tt_ok rfl, rfl, rfl⟩
  have e : decide (a = b) = (decide (a.page = b.page) && (decide (a.kind = b.kind) && (decide (a.side = b.side) && (decide (a.word = b.word) && (decide (a.x = b.x) && (decide (a.y = b.y) && (decide (a.w = b.w) && (decide (a.h = b.h) && (decide (a.text = b.text) && true))))))))) := by
    rw [Bool.eq_iff_iff]
    simp [Bx.eq_iff]
  rw [e]
  exact EqV.le (by omega) h
theorem box_eqT {a b : Bx} (h : a = b) : EqV Tryz.prog 9 37 a.tv b.tv true := by have := box_eq a b; rwa [decide_eq_true h] at this
theorem box_eqF {a b : Bx} (h : ¬ a = b) : EqV Tryz.prog 9 37 a.tv b.tv false := by have := box_eq a b; rwa [decide_eq_false h] at this
theorem boxes_diff {a b : List Bx} (hl : a.length = b.length) (h : ∀ j, j < a.length → a.getD j bx0 = b.getD j bx0) : a = b := by
  apply List.ext_getElem hl
  intro i h1 h2
  have := h i h1
  rwa [List.getD_eq_getElem?_getD, List.getElem?_eq_getElem h1, List.getD_eq_getElem?_getD, List.getElem?_eq_getElem h2] at this
set_option maxRecDepth 10000 in
set_option maxHeartbeats 8000000 in
theorem boxes_d (a b : List Bx) (ha : a.length ≤ 9223372036854775806) (hb : b.length ≤ 9223372036854775806) : DCalls Tryz.prog 22 [tB a, tB b] (fun ts => ts = [bt (decide (a = b))]) := by
  refine DCalls.enter tt_ok Tryz.func22 rfl Tryz.ntmps22 (by simp) (by repeat (first | exact pures_nil | refine pures_cons ?_ ?_ | exact trivial | exact pure_aggB rfl | exact arr_pure _ | exact Load.pure _ | exact Area.pure _ | exact dvs_pure _ | exact pure_sc | exact pure_sl)) ?_
  by_cases hl : a.length = b.length
  rotate_left
  · rw [decide_eq_false (fun e => hl (by rw [e]))]
    repeat (first | refine q_seq ?_ | refine q_seqR ?_ | refine DCode.seq ?_ | refine DCode.region ?_ | refine DCode.ret ?_ | refine DCode.condT rfl ?_ | refine DOps.nil ?_ | (refine DOps.valK 0 rfl rfl rfl rfl ?_; first | refine ⟨_, (OpVal.move rfl rfl), ?_⟩) | (refine DOps.valK 1 rfl rfl rfl rfl ?_; first | refine ⟨_, (OpVal.assign rfl rfl), ?_⟩) | (refine DOps.valK 17 rfl rfl rfl rfl ?_; first | refine ⟨_, (OpVal.lenD tt_ok rfl rfl rfl rfl rfl rfl rfl), ?_⟩) | (refine DOps.k 13 rfl ?_; first | refine DOps.cmpT rfl rfl rfl rfl rfl rfl rfl (by omega) ?_ | refine DOps.cmpF rfl rfl rfl rfl rfl rfl rfl (by omega) ?_))
    exact endQ.ret rfl (.cons (.tmp rfl) .nil) (pures_cons trivial pures_nil) rfl
  repeat (first | refine q_seq ?_ | refine DCode.seq ?_ | refine DCode.region ?_ | refine DCode.block ?_ | refine DCode.skip ?_ | refine DCode.condF rfl ?_ | refine DOps.nil ?_ | (refine DOps.valK 0 rfl rfl rfl rfl ?_; first | refine ⟨_, (OpVal.move rfl rfl), ?_⟩) | (refine DOps.valK 1 rfl rfl rfl rfl ?_; first | refine ⟨_, (OpVal.assign rfl rfl), ?_⟩) | (refine DOps.valK 17 rfl rfl rfl rfl ?_; first | refine ⟨_, (OpVal.lenD tt_ok rfl rfl rfl rfl rfl rfl rfl), ?_⟩) | (refine DOps.k 13 rfl ?_; first | refine DOps.cmpT rfl rfl rfl rfl rfl rfl rfl (by omega) ?_ | refine DOps.cmpF rfl rfl rfl rfl rfl rfl rfl (by omega) ?_))
  refine DCode.loopG (fun i : Nat => [(5, vI .i64 (i : Nat))]) [4, 5, 11, 12, 13, 14, 15, 16, 17, 18, 19, 20, 21, 22, 23, 24, 25] (fun _ => []) (fun i => i ≤ a.length ∧ ∀ j, j < i → a.getD j bx0 = b.getD j bx0) (fun i => a.length - i) 0 ⟨Nat.zero_le _, fun j h => absurd h (Nat.not_lt_zero _)⟩ (fun i _ => ⟨trivial, trivial⟩) (fun i _ => trivial) (by (repeat (first | exact Off.refl _ _ | refine Sub.base ?_ | refine Sub.junk ?_ | refine Sub.cons (by rfl) ?_ | refine Off.cons rfl ?_ | refine Off.junks rfl ?_))) (by (repeat (first | exact MSubX.nil | refine MSubX.skip rfl ?_ | refine MSubX.cons (by rfl) ?_))) ?_
  intro i ⟨hi, hk⟩
  show DCode _ _ _ _ _ ([(5, vI .i64 (i : Nat))] ++ junks _ _) ([] ++ _)
  by_cases hlt : i < a.length
  · by_cases he : a.getD i bx0 = b.getD i bx0
    · repeat (first | refine q_seq ?_ | refine DCode.seq ?_ | refine DCode.region ?_ | refine DCode.block ?_ | refine DCode.skip ?_ | refine DCode.condT rfl ?_ | refine DOps.nil ?_ | (refine DOps.valK 0 rfl rfl rfl rfl ?_; first | refine ⟨_, (OpVal.move rfl rfl), ?_⟩) | (refine DOps.valK 17 rfl rfl rfl rfl ?_; first | refine ⟨_, (OpVal.lenD tt_ok rfl rfl rfl rfl rfl rfl rfl), ?_⟩) | (refine DOps.k 14 rfl ?_; first | refine DOps.cmpT rfl rfl rfl rfl rfl rfl rfl (by omega) ?_ | refine DOps.cmpF rfl rfl rfl rfl rfl rfl rfl (by omega) ?_))
      (repeat refine DCode.seq ?_) <;> refine DCode.conf [] [] (by kernel_rfl) (by kernel_rfl) ?_
      repeat (first | (refine DCf.valK 3 rfl rfl (fun _ => rfl) rfl rfl ?_; refine ⟨_, fun _ _ _ => OpVal.ldX tt_ok rfl rfl rfl (Int.toNat_natCast i) rfl, ?_⟩) | (refine DCf.valK 13 rfl rfl (fun _ => rfl) rfl rfl ?_; refine ⟨_, fun _ _ _ => OpVal.neqA rfl rfl rfl (by kernel_rfl) (box_eqT he), ?_⟩) | (refine DCf.valK 0 rfl rfl (fun _ => rfl) rfl rfl ?_; first | refine ⟨_, fun _ _ _ => (OpVal.move rfl rfl), ?_⟩) | (refine DCf.valK 19 rfl rfl (fun _ => rfl) rfl rfl ?_; first | refine ⟨_, fun _ _ _ => (OpVal.iaD tt_ok rfl rfl rfl rfl rfl rfl (by omega) (by omega)), ?_⟩))
      refine DCf.done ?_
      repeat (first | refine q_seq ?_ | refine q_then ?_ | refine q_block ?_ | refine DCode.region ?_ | refine DCode.skip ?_ | refine DCode.condF rfl ?_ | refine DOps.nil ?_ | (refine DOps.valK 0 rfl rfl rfl rfl ?_; first | refine ⟨_, (OpVal.move rfl rfl), ?_⟩) | (refine DOps.valK 1 rfl rfl rfl rfl ?_; first | refine ⟨_, (OpVal.assign rfl rfl), ?_⟩) | (refine DOps.valK 10 rfl rfl rfl rfl ?_; first | refine ⟨_, (OpVal.add rfl rfl rfl (by omega) (by omega)), ?_⟩))
      exact ⟨i + 1, ⟨hlt, fun j hj => by
        by_cases e : j < i
        · exact hk j e
        · obtain rfl : j = i := by omega
          exact he⟩, by omega, Sub.cons (vI_congr (by omega)) (by (repeat (first | exact Off.refl _ _ | refine Sub.base ?_ | refine Sub.junk ?_ | refine Sub.cons (by rfl) ?_ | refine Off.cons rfl ?_ | refine Off.junks rfl ?_))), by (repeat (first | exact MSubX.nil | refine MSubX.skip rfl ?_ | refine MSubX.cons (by rfl) ?_))⟩
    · rw [decide_eq_false (fun e => he (by rw [e]))]
      repeat (first | refine q_seq ?_ | refine DCode.seq ?_ | refine DCode.region ?_ | refine DCode.block ?_ | refine DCode.skip ?_ | refine DCode.condT rfl ?_ | refine DOps.nil ?_ | (refine DOps.valK 0 rfl rfl rfl rfl ?_; first | refine ⟨_, (OpVal.move rfl rfl), ?_⟩) | (refine DOps.valK 17 rfl rfl rfl rfl ?_; first | refine ⟨_, (OpVal.lenD tt_ok rfl rfl rfl rfl rfl rfl rfl), ?_⟩) | (refine DOps.k 14 rfl ?_; first | refine DOps.cmpT rfl rfl rfl rfl rfl rfl rfl (by omega) ?_ | refine DOps.cmpF rfl rfl rfl rfl rfl rfl rfl (by omega) ?_))
      (repeat refine DCode.seq ?_) <;> refine DCode.conf [] [] (by kernel_rfl) (by kernel_rfl) ?_
      repeat (first | (refine DCf.valK 3 rfl rfl (fun _ => rfl) rfl rfl ?_; refine ⟨_, fun _ _ _ => OpVal.ldX tt_ok rfl rfl rfl (Int.toNat_natCast i) rfl, ?_⟩) | (refine DCf.valK 13 rfl rfl (fun _ => rfl) rfl rfl ?_; refine ⟨_, fun _ _ _ => OpVal.neqA rfl rfl rfl (by kernel_rfl) (box_eqF he), ?_⟩) | (refine DCf.valK 0 rfl rfl (fun _ => rfl) rfl rfl ?_; first | refine ⟨_, fun _ _ _ => (OpVal.move rfl rfl), ?_⟩) | (refine DCf.valK 19 rfl rfl (fun _ => rfl) rfl rfl ?_; first | refine ⟨_, fun _ _ _ => (OpVal.iaD tt_ok rfl rfl rfl rfl rfl rfl (by omega) (by omega)), ?_⟩))
      refine DCf.done ?_
      repeat (first | refine q_seq ?_ | refine q_seqR ?_ | refine q_thenR ?_ | refine q_blockR ?_ | refine DCode.seq ?_ | refine DCode.region ?_ | refine DCode.ret ?_ | refine DCode.condT rfl ?_ | refine DOps.nil ?_ | (refine DOps.valK 1 rfl rfl rfl rfl ?_; first | refine ⟨_, (OpVal.assign rfl rfl), ?_⟩))
      exact endQ.ret rfl (.cons (.tmp rfl) .nil) (pures_cons trivial pures_nil) rfl
  · obtain rfl : i = a.length := by omega
    rw [decide_eq_true (boxes_diff hl hk)]
    repeat (first | refine q_seq ?_ | refine q_seqX ?_ | refine q_thenX ?_ | refine q_blockX ?_ | refine DCode.seq ?_ | refine DCode.region ?_ | refine DCode.exit ?_ | refine DCode.ret ?_ | refine DCode.condF rfl ?_ | refine DOps.nil ?_ | (refine DOps.valK 0 rfl rfl rfl rfl ?_; first | refine ⟨_, (OpVal.move rfl rfl), ?_⟩) | (refine DOps.valK 1 rfl rfl rfl rfl ?_; first | refine ⟨_, (OpVal.assign rfl rfl), ?_⟩) | (refine DOps.valK 17 rfl rfl rfl rfl ?_; first | refine ⟨_, (OpVal.lenD tt_ok rfl rfl rfl rfl rfl rfl rfl), ?_⟩) | (refine DOps.k 14 rfl ?_; first | refine DOps.cmpT rfl rfl rfl rfl rfl rfl rfl (by omega) ?_ | refine DOps.cmpF rfl rfl rfl rfl rfl rfl rfl (by omega) ?_))
    exact endQ.ret rfl (.cons (.tmp rfl) .nil) (pures_cons trivial pures_nil) rfl
/-- Are two files the same? -/
def isF (f g : Fl) : Bool := decide (f.pages = g.pages) && decide (f.width = g.width) && decide (f.height = g.height) && decide (f.boxes = g.boxes)
theorem isF_same (f : Fl) : isF f f = true := by simp [isF]
set_option maxRecDepth 10000 in
set_option maxHeartbeats 8000000 in
theorem is_d (f g : Fl) (hf : f.boxes.length ≤ 9223372036854775806) (hg : g.boxes.length ≤ 9223372036854775806) : DCalls Tryz.prog 7 [f.tv, g.tv] (fun ts => ts = [bt (isF f g)]) := by
  have cb := boxes_d f.boxes g.boxes hf hg
  have hi : isF f g = true ↔ f.pages = g.pages ∧ f.width = g.width ∧ f.height = g.height ∧ f.boxes = g.boxes := by
    simp only [isF, Bool.and_eq_true, decide_eq_true_eq, and_assoc]
  by_cases hx : f.boxes = g.boxes
  · rw [decide_eq_true hx] at cb
    refine DCalls.enter tt_ok Tryz.func7 rfl Tryz.ntmps7 (by simp) (by repeat (first | exact pures_nil | refine pures_cons ?_ ?_ | exact trivial | exact pure_aggB rfl | exact arr_pure _ | exact Load.pure _ | exact Area.pure _ | exact dvs_pure _ | exact pure_sc | exact pure_sl)) ?_
    repeat' (first | refine q_seq ?_ | refine DCode.seq ?_ | refine DCode.region ?_ | refine DCode.ret ?_ | refine DOps.call1 (ts := [tB f.boxes, tB g.boxes]) rfl rfl rfl rfl rfl Tryz.func22 rfl (by kernel_rfl) rfl (by repeat (first | exact pures_nil | refine pures_cons ?_ ?_ | exact trivial | exact pure_aggB rfl | exact arr_pure _ | exact Load.pure _ | exact Area.pure _ | exact dvs_pure _ | exact pure_sc | exact pure_sl)) (cb) ?_ | refine DOps.nil ?_ | refine DOps.off rfl rfl rfl ?_ | (refine DOps.valK 0 rfl rfl rfl rfl ?_; first | refine ⟨_, (OpVal.move rfl rfl), ?_⟩) | (refine DOps.valK 1 rfl rfl rfl rfl ?_; first | refine ⟨_, (OpVal.assign rfl rfl), ?_⟩) | (refine DOps.valK 3 rfl rfl rfl rfl ?_; first | refine ⟨_, (OpVal.load1 tt_ok rfl rfl rfl rfl rfl rfl), ?_⟩) | (refine DOps.valK 18 rfl rfl rfl rfl ?_; first | refine ⟨_, (OpVal.fa tt_ok rfl rfl rfl rfl rfl rfl), ?_⟩) | (refine DOps.valK 2 rfl rfl rfl rfl ?_; first | refine ⟨_, (OpVal.pickT rfl rfl rfl), ?_⟩ | refine ⟨_, (OpVal.pickF rfl rfl rfl), ?_⟩) | (refine DOps.k 30 rfl ?_; refine DOps.boxS rfl rfl rfl rfl rfl rfl ?_) | refine DOps.cmp rfl rfl rfl rfl rfl rfl rfl (fun _ => ?_) (fun _ => ?_))
    all_goals refine endQ.ret rfl (.cons (.tmp rfl) .nil) (pures_cons trivial pures_nil) (bt1 (Eq.symm ?_))
    all_goals first
      | exact hi.2 ⟨by assumption, by assumption, by assumption, hx⟩
      | (refine Bool.eq_false_iff.2 fun h => ?_
         obtain ⟨h1, h2, h3, h4⟩ := hi.1 h
         contradiction)
  · rw [decide_eq_false hx] at cb
    have hno : isF f g = false := Bool.eq_false_iff.2 fun h => hx (hi.1 h).2.2.2
    rw [hno]
    refine DCalls.enter tt_ok Tryz.func7 rfl Tryz.ntmps7 (by simp) (by repeat (first | exact pures_nil | refine pures_cons ?_ ?_ | exact trivial | exact pure_aggB rfl | exact arr_pure _ | exact Load.pure _ | exact Area.pure _ | exact dvs_pure _ | exact pure_sc | exact pure_sl)) ?_
    repeat' (first | refine q_seq ?_ | refine DCode.seq ?_ | refine DCode.region ?_ | refine DCode.ret ?_ | refine DOps.call1 (ts := [tB f.boxes, tB g.boxes]) rfl rfl rfl rfl rfl Tryz.func22 rfl (by kernel_rfl) rfl (by repeat (first | exact pures_nil | refine pures_cons ?_ ?_ | exact trivial | exact pure_aggB rfl | exact arr_pure _ | exact Load.pure _ | exact Area.pure _ | exact dvs_pure _ | exact pure_sc | exact pure_sl)) (cb) ?_ | refine DOps.nil ?_ | refine DOps.off rfl rfl rfl ?_ | (refine DOps.valK 0 rfl rfl rfl rfl ?_; first | refine ⟨_, (OpVal.move rfl rfl), ?_⟩) | (refine DOps.valK 1 rfl rfl rfl rfl ?_; first | refine ⟨_, (OpVal.assign rfl rfl), ?_⟩) | (refine DOps.valK 3 rfl rfl rfl rfl ?_; first | refine ⟨_, (OpVal.load1 tt_ok rfl rfl rfl rfl rfl rfl), ?_⟩) | (refine DOps.valK 18 rfl rfl rfl rfl ?_; first | refine ⟨_, (OpVal.fa tt_ok rfl rfl rfl rfl rfl rfl), ?_⟩) | (refine DOps.valK 2 rfl rfl rfl rfl ?_; first | refine ⟨_, (OpVal.pickT rfl rfl rfl), ?_⟩ | refine ⟨_, (OpVal.pickF rfl rfl rfl), ?_⟩) | (refine DOps.k 30 rfl ?_; refine DOps.boxS rfl rfl rfl rfl rfl rfl ?_) | refine DOps.cmp rfl rfl rfl rfl rfl rfl rfl (fun _ => ?_) (fun _ => ?_))
    all_goals exact endQ.ret rfl (.cons (.tmp rfl) .nil) (pures_cons trivial pures_nil) rfl
/-! ### The example -/
abbrev plainB : Bx := ⟨1, 0, 0, 0, 1, 2, 3, 4, [104, 105]⟩
abbrev plainF : Fl := ⟨1, 10, 20, [plainB]⟩
abbrev plainT : List UInt8 := [112, 97, 103, 101, 115, 32, 49, 32, 49, 48, 32, 50, 48, 10, 98, 111, 120, 32, 49, 32, 48, 32, 48, 32, 48, 32, 49, 32, 50, 32, 51, 32, 52, 32, 104, 105, 10]
abbrev badT : List UInt8 := [112, 97, 103, 101, 115, 32, 49, 32, 49, 48, 32, 50, 48, 10, 98, 111, 120, 32, 49, 10]
abbrev farT : List UInt8 := [112, 97, 103, 101, 115, 32, 49, 32, 49, 48, 32, 50, 48, 10, 98, 111, 120, 32, 50, 32, 48, 32, 48, 32, 48, 32, 49, 32, 50, 32, 51, 32, 52, 32, 104, 105, 10]
theorem it_dig {d : Nat} (h : d < 10) : Lib.itoa (d : Int) = [UInt8.ofNat (48 + d)] := by rw [itoa_nat, dec_one h]
theorem it0 : Lib.itoa 0 = [48] := it_dig (d := 0) (by decide)
theorem it1' : Lib.itoa 1 = [49] := it_dig (d := 1) (by decide)
theorem it2 : Lib.itoa 2 = [50] := it_dig (d := 2) (by decide)
theorem it3 : Lib.itoa 3 = [51] := it_dig (d := 3) (by decide)
theorem it4 : Lib.itoa 4 = [52] := it_dig (d := 4) (by decide)
theorem it10 : Lib.itoa 10 = [49, 48] := by
  have := itoa_nat 10
  rw [dec_step 10 (by decide), dec_one (by decide)] at this
  exact this
theorem it20 : Lib.itoa 20 = [50, 48] := by
  have := itoa_nat 20
  rw [dec_step 20 (by decide), dec_one (by decide)] at this
  exact this
theorem plain_head : headT plainF = [112, 97, 103, 101, 115, 32, 49, 32, 49, 48, 32, 50, 48, 10] := by
  rw [headT, nums, Fl.ns]
  simp only [List.map_cons, List.map_nil, it1', it10, it20]
  rfl
theorem plain_text : headT plainF ++ [plainB].flatMap boxT = plainT := by
  rw [plain_head, List.flatMap_cons, List.flatMap_nil, List.append_nil, boxT, nums, Bx.ns]
  simp only [List.map_cons, List.map_nil, it0, it1', it2, it3, it4]
  rfl
theorem far_text : headT plainF ++ [({ plainB with page := 2 } : Bx)].flatMap boxT = farT := by
  rw [plain_head, List.flatMap_cons, List.flatMap_nil, List.append_nil, boxT, nums, Bx.ns]
  simp only [List.map_cons, List.map_nil, it0, it1', it2, it3, it4]
  rfl
theorem small_in {v : Int} (h : 0 ≤ v ∧ v ≤ 20) : in64 v := ⟨by omega, by omega⟩
theorem plain_ns : ∀ v ∈ plainF.ns, in64 v := fun v hv => small_in (by
  simp only [Fl.ns, List.mem_cons, List.mem_nil_iff, or_false] at hv
  omega)
theorem plain_check : checkF plainF = 0 := by decide
theorem plain_parse : parseF plainT = (plainF, 0, 0) := by
  have := parseF_text (f := plainF) plain_ns (fun b hb => by
    obtain rfl : b = plainB := by simpa using hb
    exact ⟨fun v hv => small_in (by simp only [Bx.ns, List.mem_cons, List.mem_nil_iff, or_false] at hv; omega), by decide⟩)
  rwa [show headT plainF ++ plainF.boxes.flatMap boxT = plainT from plain_text, if_pos plain_check] at this
theorem far_parse : parseF farT = (fl0, 251, -1) := by
  have := parseF_text (f := ⟨1, 10, 20, [{ plainB with page := 2 }]⟩) plain_ns (fun b hb => by
    obtain rfl : b = ({ plainB with page := 2 } : Bx) := by simpa using hb
    exact ⟨fun v hv => small_in (by simp only [Bx.ns, List.mem_cons, List.mem_nil_iff, or_false] at hv; omega), by decide⟩)
  rw [show headT (⟨1, 10, 20, [{ plainB with page := 2 }]⟩ : Fl) = headT plainF from rfl] at this
  rw [show headT plainF ++ (⟨1, 10, 20, [{ plainB with page := 2 }]⟩ : Fl).boxes.flatMap boxT = farT from far_text] at this
  rw [show checkF (⟨1, 10, 20, [{ plainB with page := 2 }]⟩ : Fl) = 251 by decide] at this
  exact this
theorem bad_parse : parseF badT = (fl0, 251, 1) := by
  have e : badT = headBody plainF ++ 10 :: [98, 111, 120, 32, 49, 10] := by
    have := plain_head
    rw [headT_body] at this
    have h2 : headBody plainF ++ 10 :: [98, 111, 120, 32, 49, 10] = (headBody plainF ++ [10]) ++ [98, 111, 120, 32, 49, 10] := by simp
    rw [h2, this]
    rfl
  have e2 : spl 10 [98, 111, 120, 32, 49, 10] = [[98, 111, 120, 32, 49], []] := rfl
  have e3 : boxOf [98, 111, 120, 32, 49] = none := boxOf_bad (.inl (by decide))
  rw [parseF, e, spl_hit _ (headBody_no10 plainF), e2, parseL_ok (headOf_body plain_ns), lines_bad e3]
  rfl
theorem none_parse : parseF [] = (fl0, 250, 0) := rfl
theorem plain_print : printF plainF = plainT := by rw [printF, if_pos plain_check]; exact plain_text
theorem plain_read : (readB plainF 0).length = 1 := by rw [readB, sortB_len]; rfl
theorem plain_bnd : bndB plainF.boxes 4194304 := bndB_of fun b hb => by
  obtain rfl : b = plainB := by simpa using hb
  decide
set_option maxRecDepth 10000 in
set_option maxHeartbeats 8000000 in
theorem plain_d : DCalls Tryz.prog 12 [] (fun ts => ts = [tT plainT]) := by
  refine DCalls.enter tt_ok Tryz.func12 rfl Tryz.ntmps12 (by simp) pures_nil ?_
  repeat (first | refine q_seq ?_ | refine DCode.seq ?_ | refine DCode.region ?_ | refine DCode.ret ?_ | refine DOps.nil ?_ | (refine DOps.valK 1 rfl rfl rfl rfl ?_; first | refine ⟨_, (OpVal.assign rfl rfl), ?_⟩))
  exact endQ.ret rfl (.cons (.tmp rfl) .nil) (pures_cons trivial pures_nil) rfl
set_option maxRecDepth 10000 in
set_option maxHeartbeats 8000000 in
theorem fixed_d : DCalls Tryz.prog 4 [] (fun ts => ts = [bt true]) := by
  have cp := plain_d
  have c1 : DCalls Tryz.prog 5 [tT plainT] (fun ts => ts = [plainF.tv, tFa 0 0]) := by
    have := parse_d plainT (by decide)
    rw [plain_parse] at this
    exact this
  have c2 : DCalls Tryz.prog 5 [tT []] (fun ts => ts = [fl0.tv, tFa 250 0]) := by
    have := parse_d [] (by decide)
    rw [none_parse] at this
    exact this
  have c3 : DCalls Tryz.prog 5 [tT badT] (fun ts => ts = [fl0.tv, tFa 251 1]) := by
    have := parse_d badT (by decide)
    rw [bad_parse] at this
    exact this
  have c4 : DCalls Tryz.prog 5 [tT farT] (fun ts => ts = [fl0.tv, tFa 251 (-1)]) := by
    have := parse_d farT (by decide)
    rw [far_parse] at this
    exact this
  have c5 := print_d plainF (by decide) plain_bnd
  rw [plain_print] at c5
  have c6 := check_d plainF (by decide) (fun i => Nat.le_trans (plain_bnd i) (by decide))
  rw [plain_check] at c6
  have c7 := clear_d plainF (by decide)
  rw [show clearW plainF.boxes = true from rfl] at c7
  have c8 := reads_d plainF 0 (by decide)
  have hr := plain_read
  generalize readB plainF 0 = R at *
  refine DCalls.enter tt_ok Tryz.func4 rfl Tryz.ntmps4 (by simp) pures_nil ?_
  repeat (first | refine q_seq ?_ | refine DCode.seq ?_ | refine DCode.region ?_ | refine DCode.ret ?_ | refine DOps.call1 (ts := []) rfl rfl rfl rfl rfl Tryz.func12 rfl (by kernel_rfl) rfl (by repeat (first | exact pures_nil | refine pures_cons ?_ ?_ | exact trivial | exact pure_aggB rfl | exact arr_pure _ | exact Load.pure _ | exact Area.pure _ | exact dvs_pure _ | exact pure_sc | exact pure_sl)) (cp) ?_ | refine DOps.call1 (ts := [tT plainT]) rfl rfl rfl rfl rfl Tryz.func5 rfl (by kernel_rfl) rfl (by repeat (first | exact pures_nil | refine pures_cons ?_ ?_ | exact trivial | exact pure_aggB rfl | exact arr_pure _ | exact Load.pure _ | exact Area.pure _ | exact dvs_pure _ | exact pure_sc | exact pure_sl)) (c1) ?_ | refine DOps.call1 (ts := [tT []]) rfl rfl rfl rfl rfl Tryz.func5 rfl (by kernel_rfl) rfl (by repeat (first | exact pures_nil | refine pures_cons ?_ ?_ | exact trivial | exact pure_aggB rfl | exact arr_pure _ | exact Load.pure _ | exact Area.pure _ | exact dvs_pure _ | exact pure_sc | exact pure_sl)) (c2) ?_ | refine DOps.call1 (ts := [tT badT]) rfl rfl rfl rfl rfl Tryz.func5 rfl (by kernel_rfl) rfl (by repeat (first | exact pures_nil | refine pures_cons ?_ ?_ | exact trivial | exact pure_aggB rfl | exact arr_pure _ | exact Load.pure _ | exact Area.pure _ | exact dvs_pure _ | exact pure_sc | exact pure_sl)) (c3) ?_ | refine DOps.call1 (ts := [tT farT]) rfl rfl rfl rfl rfl Tryz.func5 rfl (by kernel_rfl) rfl (by repeat (first | exact pures_nil | refine pures_cons ?_ ?_ | exact trivial | exact pure_aggB rfl | exact arr_pure _ | exact Load.pure _ | exact Area.pure _ | exact dvs_pure _ | exact pure_sc | exact pure_sl)) (c4) ?_ | refine DOps.call1 (ts := [plainF.tv]) rfl rfl rfl rfl rfl Tryz.func10 rfl (by kernel_rfl) rfl (by repeat (first | exact pures_nil | refine pures_cons ?_ ?_ | exact trivial | exact pure_aggB rfl | exact arr_pure _ | exact Load.pure _ | exact Area.pure _ | exact dvs_pure _ | exact pure_sc | exact pure_sl)) (c5) ?_ | refine DOps.call1 (ts := [plainF.tv]) rfl rfl rfl rfl rfl Tryz.func8 rfl (by kernel_rfl) rfl (by repeat (first | exact pures_nil | refine pures_cons ?_ ?_ | exact trivial | exact pure_aggB rfl | exact arr_pure _ | exact Load.pure _ | exact Area.pure _ | exact dvs_pure _ | exact pure_sc | exact pure_sl)) (c6) ?_ | refine DOps.call1 (ts := [plainF.tv]) rfl rfl rfl rfl rfl Tryz.func13 rfl (by kernel_rfl) rfl (by repeat (first | exact pures_nil | refine pures_cons ?_ ?_ | exact trivial | exact pure_aggB rfl | exact arr_pure _ | exact Load.pure _ | exact Area.pure _ | exact dvs_pure _ | exact pure_sc | exact pure_sl)) (c7) ?_ | refine DOps.call1 (ts := [plainF.tv, it 0]) rfl rfl rfl rfl rfl Tryz.func14 rfl (by kernel_rfl) rfl (by repeat (first | exact pures_nil | refine pures_cons ?_ ?_ | exact trivial | exact pure_aggB rfl | exact arr_pure _ | exact Load.pure _ | exact Area.pure _ | exact dvs_pure _ | exact pure_sc | exact pure_sl)) (c8) ?_ | (refine DOps.valK 3 rfl rfl rfl rfl ?_; refine ⟨.v (plainF).tv, OpVal.cast (OpVal.load tt_ok rfl rfl rfl rfl rfl rfl) rfl, ?_⟩) | (refine DOps.valK 3 rfl rfl rfl rfl ?_; refine ⟨_, OpVal.ld (y := dS [104, 105]) tt_ok rfl rfl rfl rfl (by omega) rfl, ?_⟩) | (refine DOps.valK 12 rfl rfl rfl rfl ?_; refine ⟨_, OpVal.eqlST rfl rfl rfl rfl, ?_⟩) | (refine DOps.valK 12 rfl rfl rfl rfl ?_; refine ⟨_, OpVal.eqlA rfl rfl rfl (by kernel_rfl) (fault_same _ _), ?_⟩) | (refine DOps.valK 3 rfl rfl rfl rfl ?_; refine ⟨_, OpVal.load tt_ok rfl rfl rfl rfl rfl rfl, ?_⟩) | refine DOps.nil ?_ | (refine DOps.valK 0 rfl rfl rfl rfl ?_; first | refine ⟨_, (OpVal.move rfl rfl), ?_⟩ | refine ⟨_, (OpVal.moveT rfl rfl), ?_⟩) | (refine DOps.valK 1 rfl rfl rfl rfl ?_; first | refine ⟨_, (OpVal.assign rfl rfl), ?_⟩) | (refine DOps.valK 3 rfl rfl rfl rfl ?_; first | refine ⟨_, (OpVal.load1 tt_ok rfl rfl rfl rfl rfl rfl), ?_⟩) | (refine DOps.valK 23 rfl rfl rfl rfl ?_; first | refine ⟨_, (OpVal.extract rfl rfl rfl), ?_⟩) | (refine DOps.valK 18 rfl rfl rfl rfl ?_; first | refine ⟨_, (OpVal.fa tt_ok rfl rfl rfl rfl rfl rfl), ?_⟩ | refine ⟨_, (OpVal.faD tt_ok rfl rfl rfl rfl rfl rfl), ?_⟩) | (refine DOps.valK 17 rfl rfl rfl rfl ?_; first | refine ⟨_, (OpVal.lenD tt_ok rfl rfl rfl rfl rfl rfl rfl), ?_⟩) | (refine DOps.valK 2 rfl rfl rfl rfl ?_; first | refine ⟨_, (OpVal.pickT rfl rfl rfl), ?_⟩) | (refine DOps.valK 25 rfl rfl rfl rfl ?_; first | refine ⟨_, (OpVal.buildS tt_ok rfl rfl rfl rfl rfl rfl rfl rfl), ?_⟩) | (refine DOps.k 12 rfl ?_; first | refine DOps.cmpT rfl rfl rfl rfl rfl rfl rfl (by omega) ?_ | refine DOps.cmpF rfl rfl rfl rfl rfl rfl rfl (by omega) ?_) | (refine DOps.k 29 rfl ?_; refine DOps.alS tt_ok rfl rfl rfl rfl rfl rfl rfl ?_) | (refine DOps.k 31 rfl ?_; refine DOps.store tt_ok rfl rfl rfl rfl rfl rfl rfl rfl (Nat.le_of_ble_eq_true rfl) rfl ?_) | refine DOps.val rfl rfl rfl (OpVal.iaD tt_ok rfl rfl rfl rfl rfl rfl (by decide) (by decide)) ?_ | refine DOps.cmpT rfl rfl rfl rfl rfl rfl rfl (by decide) ?_)
  exact endQ.ret rfl (.cons (.tmp rfl) .nil) (pures_cons trivial pures_nil) rfl
end Go.Proofs.YtejdeonbibbchaaGreatDoor
