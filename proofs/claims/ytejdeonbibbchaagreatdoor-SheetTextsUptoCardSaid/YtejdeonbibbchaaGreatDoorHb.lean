/- law25: boxes and files as data; whether they may be: the walks. -/
import Derived.Test.YtejdeonbibbchaaGreatDoorV0
import Derived.Test.YtejdeonbibbchaaGreatDoorD41
import Derived.Test.YtejdeonbibbchaaGreatDoorT
import Derived.Test.YtejdeonbibbchaaGreatDoorHa
set_option linter.unusedVariables false
set_option linter.unusedSimpArgs false
set_option linter.constructorNameAsVariable false
namespace Go.Proofs.YtejdeonbibbchaaGreatDoor
open Go Go.RowKit Go.Proofs.YtejdeonbibbchaaGreatDoor.DL
set_option linter.unusedVariables false
set_option linter.unusedSimpArgs false
attribute [local irreducible] DCode DOps OpVal DCalls DCallsM DCallsB DCallsR thenQ seqQ inBlockQ endQ endQM OpNew DCf

def Bx.dv (b : Bx) : List DV := [di b.page, di b.kind, di b.side, di b.word, di b.x, di b.y, di b.w, di b.h, dS b.text]
abbrev Bx.tv (b : Bx) : TV := .agg (b.dv.map .d)
abbrev elB (L : List Bx) : Nat → Nat → DV := elX Bx.dv bx0 L
abbrev dB (L : List Bx) : DV := .sl L.length 9 (elB L)
abbrev tB (L : List Bx) : TV := .one (.d (dB L))
def Fl.dv (f : Fl) : List DV := [di f.pages, di f.width, di f.height, dB f.boxes]
abbrev Fl.tv (f : Fl) : TV := .agg (f.dv.map .d)
abbrev tFa (c a : Int) : TV := .agg [.d (di c), .d (di a)]
/-- All texts are below a bound. -/
def bndB (L : List Bx) (n : Nat) : Prop := ∀ i, (L.getD i bx0).text.length ≤ n
theorem contains_ten (s : List UInt8) : Lib.contains s [10] = decide (10 ∈ s) := by
  rcases index_one_cases 10 s with ⟨h1, h2⟩ | ⟨a, b, rfl, h2, h3⟩
  · rw [Lib.contains, h1, decide_eq_false h2]; rfl
  · rw [Lib.contains, h3, decide_eq_true (by omega), decide_eq_true (by simp)]
set_option maxRecDepth 10000 in
set_option maxHeartbeats 8000000 in
theorem fits_d (n : Int) : DCalls Tryz.prog 43 [it n] (fun ts => ts = [bt (fitsB n)]) := by
  refine DCalls.enter tt_ok Tryz.func43 rfl Tryz.ntmps43 (by simp) (by repeat (first | exact pures_nil | refine pures_cons ?_ ?_ | exact trivial | exact pure_aggB rfl | exact arr_pure _ | exact Load.pure _ | exact Area.pure _ | exact dvs_pure _ | exact pure_sc | exact pure_sl)) ?_
  by_cases h1 : -1073741823 ≤ n
  · by_cases h2 : n ≤ 1073741823
    · rw [fits_iff.2 ⟨h1, h2⟩]
      repeat (first | refine q_seq ?_ | refine DCode.seq ?_ | refine DCode.region ?_ | refine DCode.ret ?_ | refine DOps.nil ?_ | (refine DOps.valK 0 rfl rfl rfl rfl ?_; first | refine ⟨_, (OpVal.move rfl rfl), ?_⟩) | (refine DOps.valK 1 rfl rfl rfl rfl ?_; first | refine ⟨_, (OpVal.assign rfl rfl), ?_⟩) | (refine DOps.valK 2 rfl rfl rfl rfl ?_; first | refine ⟨_, (OpVal.pickT rfl rfl rfl), ?_⟩) | (refine DOps.k 14 rfl ?_; first | refine DOps.cmpT rfl rfl rfl rfl rfl rfl rfl (by omega) ?_ | refine DOps.cmpF rfl rfl rfl rfl rfl rfl rfl (by omega) ?_))
      exact endQ.ret rfl (.cons (.tmp rfl) .nil) (pures_cons trivial pures_nil) rfl
    · rw [fits_not.2 fun h => h2 h.2]
      repeat (first | refine q_seq ?_ | refine DCode.seq ?_ | refine DCode.region ?_ | refine DCode.ret ?_ | refine DOps.nil ?_ | (refine DOps.valK 0 rfl rfl rfl rfl ?_; first | refine ⟨_, (OpVal.move rfl rfl), ?_⟩) | (refine DOps.valK 1 rfl rfl rfl rfl ?_; first | refine ⟨_, (OpVal.assign rfl rfl), ?_⟩) | (refine DOps.valK 2 rfl rfl rfl rfl ?_; first | refine ⟨_, (OpVal.pickT rfl rfl rfl), ?_⟩) | (refine DOps.k 14 rfl ?_; first | refine DOps.cmpT rfl rfl rfl rfl rfl rfl rfl (by omega) ?_ | refine DOps.cmpF rfl rfl rfl rfl rfl rfl rfl (by omega) ?_))
      exact endQ.ret rfl (.cons (.tmp rfl) .nil) (pures_cons trivial pures_nil) rfl
  · rw [fits_not.2 fun h => h1 h.1]
    repeat (first | refine q_seq ?_ | refine DCode.seq ?_ | refine DCode.region ?_ | refine DCode.ret ?_ | refine DOps.nil ?_ | refine DOps.off rfl rfl rfl ?_ | (refine DOps.valK 0 rfl rfl rfl rfl ?_; first | refine ⟨_, (OpVal.move rfl rfl), ?_⟩) | (refine DOps.valK 1 rfl rfl rfl rfl ?_; first | refine ⟨_, (OpVal.assign rfl rfl), ?_⟩) | (refine DOps.valK 2 rfl rfl rfl rfl ?_; first | refine ⟨_, (OpVal.pickF rfl rfl rfl), ?_⟩) | (refine DOps.k 14 rfl ?_; first | refine DOps.cmpT rfl rfl rfl rfl rfl rfl rfl (by omega) ?_ | refine DOps.cmpF rfl rfl rfl rfl rfl rfl rfl (by omega) ?_))
    exact endQ.ret rfl (.cons (.tmp rfl) .nil) (pures_cons trivial pures_nil) rfl
set_option maxRecDepth 10000 in
set_option maxHeartbeats 8000000 in
theorem amount_d (xs : List Int) (hx : xs.length ≤ 9223372036854775806) : DCalls Tryz.prog 23 [tN xs] (fun ts => ts = [bt (xs.all amt)]) := by
  refine DCalls.enter tt_ok Tryz.func23 rfl Tryz.ntmps23 (by simp) (by repeat (first | exact pures_nil | refine pures_cons ?_ ?_ | exact trivial | exact pure_aggB rfl | exact arr_pure _ | exact Load.pure _ | exact Area.pure _ | exact dvs_pure _ | exact pure_sc | exact pure_sl)) ?_
  repeat (first | refine q_seq ?_ | refine DCode.seq ?_ | refine DCode.region ?_ | refine DCode.block ?_ | refine DOps.nil ?_ | (refine DOps.valK 0 rfl rfl rfl rfl ?_; first | refine ⟨_, (OpVal.move rfl rfl), ?_⟩) | (refine DOps.valK 1 rfl rfl rfl rfl ?_; first | refine ⟨_, (OpVal.assign rfl rfl), ?_⟩) | (refine DOps.valK 17 rfl rfl rfl rfl ?_; first | refine ⟨_, (OpVal.lenD tt_ok rfl rfl rfl rfl rfl rfl rfl), ?_⟩))
  refine DCode.loopG (fun i : Nat => [(7, vI .i64 (i : Nat))]) [2, 4, 7, 8, 9, 10, 11, 12, 13, 14, 15, 16, 17, 18] (fun _ => []) (fun i => i ≤ xs.length ∧ (xs.take i).all amt = true) (fun i => xs.length - i) 0 ⟨Nat.zero_le _, rfl⟩ (fun i _ => ⟨trivial, trivial⟩) (fun i _ => trivial) (by (repeat (first | exact Off.refl _ _ | refine Sub.base ?_ | refine Sub.junk ?_ | refine Sub.cons (by rfl) ?_ | refine Off.cons rfl ?_ | refine Off.junks rfl ?_))) (by (repeat (first | exact MSubX.nil | refine MSubX.skip rfl ?_ | refine MSubX.cons (by rfl) ?_))) ?_
  intro i ⟨hi, ha⟩
  show DCode _ _ _ _ _ ([(7, vI .i64 (i : Nat))] ++ junks _ _) ([] ++ _)
  by_cases hlt : i < xs.length
  · obtain ⟨b, hb⟩ : ∃ b, xs[i]? = some b := ⟨xs[i], List.getElem?_eq_getElem hlt⟩
    have hst : (xs.take (i + 1)).all amt = ((xs.take i).all amt && amt b) := by
      rw [List.take_add_one, hb]; simp
    have hmem : b ∈ xs := List.mem_of_getElem? hb
    have hgd : xs.getD i 0 = b := by rw [List.getD_eq_getElem?_getD, hb]; rfl
    have cf := fits_d b
    by_cases h0 : b < 0
    · rw [show xs.all amt = false from List.all_eq_false.2 ⟨b, hmem, by rw [amt, decide_eq_false (by omega)]; simp⟩]
      repeat (first | refine q_seq ?_ | refine q_seqR ?_ | refine q_thenR ?_ | refine q_blockR ?_ | refine DCode.seq ?_ | refine DCode.region ?_ | refine DCode.block ?_ | refine DCode.skip ?_ | refine DCode.ret ?_ | refine DCode.condT rfl ?_ | (refine DOps.valK 3 rfl rfl rfl rfl ?_; refine ⟨_, OpVal.cast (OpVal.ldN (X := xs) (m := i) tt_ok rfl rfl rfl rfl (Int.toNat_natCast _)) (congrArg (vI .i64) hgd), ?_⟩) | refine DOps.nil ?_ | refine DOps.off rfl rfl rfl ?_ | (refine DOps.valK 0 rfl rfl rfl rfl ?_; first | refine ⟨_, (OpVal.move rfl rfl), ?_⟩) | (refine DOps.valK 1 rfl rfl rfl rfl ?_; first | refine ⟨_, (OpVal.assign rfl rfl), ?_⟩) | (refine DOps.valK 19 rfl rfl rfl rfl ?_; first | refine ⟨_, (OpVal.iaD tt_ok rfl rfl rfl rfl rfl rfl (by omega) (by omega)), ?_⟩) | (refine DOps.valK 2 rfl rfl rfl rfl ?_; first | refine ⟨_, (OpVal.pickT rfl rfl rfl), ?_⟩) | (refine DOps.k 14 rfl ?_; first | refine DOps.cmpT rfl rfl rfl rfl rfl rfl rfl (by omega) ?_ | refine DOps.cmpF rfl rfl rfl rfl rfl rfl rfl (by omega) ?_))
      exact endQ.ret rfl (.cons (.tmp rfl) .nil) (pures_cons trivial pures_nil) rfl
    · cases hf : fitsB b with
      | false =>
        rw [hf] at cf
        rw [show xs.all amt = false from List.all_eq_false.2 ⟨b, hmem, by rw [amt, hf]; simp⟩]
        repeat (first | refine q_seq ?_ | refine q_seqR ?_ | refine q_thenR ?_ | refine q_blockR ?_ | refine DCode.seq ?_ | refine DCode.region ?_ | refine DCode.block ?_ | refine DCode.skip ?_ | refine DCode.ret ?_ | refine DCode.condT rfl ?_ | (refine DOps.valK 3 rfl rfl rfl rfl ?_; refine ⟨_, OpVal.cast (OpVal.ldN (X := xs) (m := i) tt_ok rfl rfl rfl rfl (Int.toNat_natCast _)) (congrArg (vI .i64) hgd), ?_⟩) | refine DOps.call1 (ts := [it b]) rfl rfl rfl rfl rfl Tryz.func43 rfl (by kernel_rfl) rfl (by repeat (first | exact pures_nil | refine pures_cons ?_ ?_ | exact trivial | exact pure_aggB rfl | exact arr_pure _ | exact Load.pure _ | exact Area.pure _ | exact dvs_pure _ | exact pure_sc | exact pure_sl)) (cf) ?_ | refine DOps.nil ?_ | (refine DOps.valK 0 rfl rfl rfl rfl ?_; first | refine ⟨_, (OpVal.move rfl rfl), ?_⟩) | (refine DOps.valK 1 rfl rfl rfl rfl ?_; first | refine ⟨_, (OpVal.assign rfl rfl), ?_⟩) | (refine DOps.valK 19 rfl rfl rfl rfl ?_; first | refine ⟨_, (OpVal.iaD tt_ok rfl rfl rfl rfl rfl rfl (by omega) (by omega)), ?_⟩) | (refine DOps.valK 2 rfl rfl rfl rfl ?_; first | refine ⟨_, (OpVal.pickF rfl rfl rfl), ?_⟩) | (refine DOps.valK 16 rfl rfl rfl rfl ?_; first | refine ⟨_, (OpVal.notB rfl rfl), ?_⟩) | (refine DOps.k 14 rfl ?_; first | refine DOps.cmpT rfl rfl rfl rfl rfl rfl rfl (by omega) ?_ | refine DOps.cmpF rfl rfl rfl rfl rfl rfl rfl (by omega) ?_))
        exact endQ.ret rfl (.cons (.tmp rfl) .nil) (pures_cons trivial pures_nil) rfl
      | true =>
        rw [hf] at cf
        repeat (first | refine q_seq ?_ | refine q_then ?_ | refine q_block ?_ | refine DCode.seq ?_ | refine DCode.region ?_ | refine DCode.block ?_ | refine DCode.skip ?_ | refine DCode.condT rfl ?_ | refine DCode.condF rfl ?_ | (refine DOps.valK 3 rfl rfl rfl rfl ?_; refine ⟨_, OpVal.cast (OpVal.ldN (X := xs) (m := i) tt_ok rfl rfl rfl rfl (Int.toNat_natCast _)) (congrArg (vI .i64) hgd), ?_⟩) | refine DOps.call1 (ts := [it b]) rfl rfl rfl rfl rfl Tryz.func43 rfl (by kernel_rfl) rfl (by repeat (first | exact pures_nil | refine pures_cons ?_ ?_ | exact trivial | exact pure_aggB rfl | exact arr_pure _ | exact Load.pure _ | exact Area.pure _ | exact dvs_pure _ | exact pure_sc | exact pure_sl)) (cf) ?_ | refine DOps.nil ?_ | (refine DOps.valK 0 rfl rfl rfl rfl ?_; first | refine ⟨_, (OpVal.move rfl rfl), ?_⟩) | (refine DOps.valK 1 rfl rfl rfl rfl ?_; first | refine ⟨_, (OpVal.assign rfl rfl), ?_⟩) | (refine DOps.valK 10 rfl rfl rfl rfl ?_; first | refine ⟨_, (OpVal.add rfl rfl rfl (by omega) (by omega)), ?_⟩) | (refine DOps.valK 19 rfl rfl rfl rfl ?_; first | refine ⟨_, (OpVal.iaD tt_ok rfl rfl rfl rfl rfl rfl (by omega) (by omega)), ?_⟩) | (refine DOps.valK 2 rfl rfl rfl rfl ?_; first | refine ⟨_, (OpVal.pickF rfl rfl rfl), ?_⟩) | (refine DOps.valK 16 rfl rfl rfl rfl ?_; first | refine ⟨_, (OpVal.notB rfl rfl), ?_⟩) | (refine DOps.k 14 rfl ?_; first | refine DOps.cmpT rfl rfl rfl rfl rfl rfl rfl (by omega) ?_ | refine DOps.cmpF rfl rfl rfl rfl rfl rfl rfl (by omega) ?_))
        exact ⟨i + 1, ⟨hlt, by rw [hst, ha, amt, hf, decide_eq_true (by omega)]; rfl⟩, by omega, Sub.cons (vI_congr (by omega)) (by (repeat (first | exact Off.refl _ _ | refine Sub.base ?_ | refine Sub.junk ?_ | refine Sub.cons (by rfl) ?_ | refine Off.cons rfl ?_ | refine Off.junks rfl ?_))), by (repeat (first | exact MSubX.nil | refine MSubX.skip rfl ?_ | refine MSubX.cons (by rfl) ?_))⟩
  · obtain rfl : i = xs.length := by omega
    rw [List.take_length] at ha
    rw [ha]
    repeat (first | refine q_seq ?_ | refine q_seqX ?_ | refine q_thenX ?_ | refine q_blockX ?_ | refine DCode.seq ?_ | refine DCode.region ?_ | refine DCode.exit ?_ | refine DCode.ret ?_ | refine DCode.condF rfl ?_ | refine DOps.nil ?_ | (refine DOps.valK 1 rfl rfl rfl rfl ?_; first | refine ⟨_, (OpVal.assign rfl rfl), ?_⟩) | (refine DOps.k 14 rfl ?_; first | refine DOps.cmpT rfl rfl rfl rfl rfl rfl rfl (by omega) ?_ | refine DOps.cmpF rfl rfl rfl rfl rfl rfl rfl (by omega) ?_))
    exact endQ.ret rfl (.cons (.tmp rfl) .nil) (pures_cons trivial pures_nil) rfl
theorem amt_four {a b c d : Int} : [a, b, c, d].all amt = true ↔ amt a = true ∧ amt b = true ∧ amt c = true ∧ amt d = true := by
  simp only [List.all_cons, List.all_nil, Bool.and_eq_true, and_true]
set_option maxRecDepth 10000 in
set_option maxHeartbeats 8000000 in
theorem right_d (f : Fl) (b : Bx) (hl : b.text.length ≤ 4294967280) : DCalls Tryz.prog 24 [f.tv, b.tv] (fun ts => ts = [bt (rightB f b)]) := by
  have ca := amount_d [b.x, b.y, b.w, b.h] (by simp)
  have cc := contains_c b.text [10] (by omega)
  rw [contains_ten] at cc
  cases ha : [b.x, b.y, b.w, b.h].all amt with
  | false =>
    rw [ha] at ca
    have hno : rightB f b = false := Bool.eq_false_iff.2 fun h => by
      obtain ⟨h1, h2, h3, h4, h5, h6, h7, h8, h9, h10, h11, h12, h13, h14, h15⟩ := right_iff.1 h
      rw [amt_four.2 ⟨h9, h10, h11, h12⟩] at ha
      cases ha
    rw [hno]
    refine DCalls.enter tt_ok Tryz.func24 rfl Tryz.ntmps24 (by simp) (by repeat (first | exact pures_nil | refine pures_cons ?_ ?_ | exact trivial | exact pure_aggB rfl | exact arr_pure _ | exact Load.pure _ | exact Area.pure _ | exact dvs_pure _ | exact pure_sc | exact pure_sl)) ?_
    repeat' (first | refine q_seq ?_ | refine q_seqR ?_ | refine q_blockR ?_ | refine DCode.seq ?_ | refine DCode.region ?_ | refine DCode.block ?_ | refine DCode.ret ?_ | refine DCode.condT rfl ?_ | refine DCode.condF rfl ?_ | (refine DOps.k 28 rfl ?_; refine DOps.new (r := .v (tN [b.x, b.y, b.w, b.h])) rfl rfl rfl (OpNew.bsl tt_ok (iD [b.x, b.y, b.w, b.h]) _ rfl rfl rfl rfl rfl rfl rfl rfl rfl rfl (ints_flat [b.x, b.y, b.w, b.h])) ?_) | refine DOps.call1 (ts := [tN [b.x, b.y, b.w, b.h]]) rfl rfl rfl rfl rfl Tryz.func23 rfl (by kernel_rfl) rfl (by repeat (first | exact pures_nil | refine pures_cons ?_ ?_ | exact trivial | exact pure_aggB rfl | exact arr_pure _ | exact Load.pure _ | exact Area.pure _ | exact dvs_pure _ | exact pure_sc | exact pure_sl)) (ca) ?_ | refine DOps.nil ?_ | refine DOps.off rfl rfl rfl ?_ | (refine DOps.valK 0 rfl rfl rfl rfl ?_; first | refine ⟨_, (OpVal.move rfl rfl), ?_⟩) | (refine DOps.valK 1 rfl rfl rfl rfl ?_; first | refine ⟨_, (OpVal.assign rfl rfl), ?_⟩) | (refine DOps.valK 3 rfl rfl rfl rfl ?_; first | refine ⟨_, (OpVal.load1 tt_ok rfl rfl rfl rfl rfl rfl), ?_⟩) | (refine DOps.valK 18 rfl rfl rfl rfl ?_; first | refine ⟨_, (OpVal.fa tt_ok rfl rfl rfl rfl rfl rfl), ?_⟩) | (refine DOps.valK 2 rfl rfl rfl rfl ?_; first | refine ⟨_, (OpVal.pickT rfl rfl rfl), ?_⟩ | refine ⟨_, (OpVal.pickF rfl rfl rfl), ?_⟩) | (refine DOps.valK 16 rfl rfl rfl rfl ?_; first | refine ⟨_, (OpVal.notB rfl rfl), ?_⟩) | (refine DOps.k 30 rfl ?_; refine DOps.boxS rfl rfl rfl rfl rfl rfl ?_) | refine DOps.cmp rfl rfl rfl rfl rfl rfl rfl (fun _ => ?_) (fun _ => ?_))
    all_goals exact endQ.ret rfl (.cons (.tmp rfl) .nil) (pures_cons trivial pures_nil) rfl
  | true =>
    rw [ha] at ca
    obtain ⟨a1, a2, a3, a4⟩ := amt_four.1 ha
    have b1 := fits64 a1
    have b2 := fits64 a2
    have b3 := fits64 a3
    have b4 := fits64 a4
    by_cases ht : (10 : UInt8) ∈ b.text
    · rw [decide_eq_true ht] at cc
      have hno : rightB f b = false := Bool.eq_false_iff.2 fun h => (right_iff.1 h).2.2.2.2.2.2.2.2.2.2.2.2.2.2 ht
      rw [hno]
      refine DCalls.enter tt_ok Tryz.func24 rfl Tryz.ntmps24 (by simp) (by repeat (first | exact pures_nil | refine pures_cons ?_ ?_ | exact trivial | exact pure_aggB rfl | exact arr_pure _ | exact Load.pure _ | exact Area.pure _ | exact dvs_pure _ | exact pure_sc | exact pure_sl)) ?_
      repeat' (first | refine q_seq ?_ | refine q_seqR ?_ | refine q_block ?_ | refine q_blockR ?_ | refine DCode.seq ?_ | refine DCode.region ?_ | refine DCode.block ?_ | refine DCode.skip ?_ | refine DCode.ret ?_ | refine DCode.condT rfl ?_ | refine DCode.condF rfl ?_ | (refine DOps.k 28 rfl ?_; refine DOps.new (r := .v (tN [b.x, b.y, b.w, b.h])) rfl rfl rfl (OpNew.bsl tt_ok (iD [b.x, b.y, b.w, b.h]) _ rfl rfl rfl rfl rfl rfl rfl rfl rfl rfl (ints_flat [b.x, b.y, b.w, b.h])) ?_) | refine DOps.call1 (ts := [tN [b.x, b.y, b.w, b.h]]) rfl rfl rfl rfl rfl Tryz.func23 rfl (by kernel_rfl) rfl (by repeat (first | exact pures_nil | refine pures_cons ?_ ?_ | exact trivial | exact pure_aggB rfl | exact arr_pure _ | exact Load.pure _ | exact Area.pure _ | exact dvs_pure _ | exact pure_sc | exact pure_sl)) (ca) ?_ | refine DOps.call1 (ts := [tT b.text, tT [10]]) rfl rfl rfl rfl rfl Tryz.func44 rfl (by kernel_rfl) rfl (by repeat (first | exact pures_nil | refine pures_cons ?_ ?_ | exact trivial | exact pure_aggB rfl | exact arr_pure _ | exact Load.pure _ | exact Area.pure _ | exact dvs_pure _ | exact pure_sc | exact pure_sl)) (cc) ?_ | refine DOps.nil ?_ | refine DOps.off rfl rfl rfl ?_ | (refine DOps.valK 0 rfl rfl rfl rfl ?_; first | refine ⟨_, (OpVal.move rfl rfl), ?_⟩) | (refine DOps.valK 1 rfl rfl rfl rfl ?_; first | refine ⟨_, (OpVal.assign rfl rfl), ?_⟩) | (refine DOps.valK 3 rfl rfl rfl rfl ?_; first | refine ⟨_, (OpVal.load1 tt_ok rfl rfl rfl rfl rfl rfl), ?_⟩) | (refine DOps.valK 10 rfl rfl rfl rfl ?_; first | refine ⟨_, (OpVal.add rfl rfl rfl (by omega) (by omega)), ?_⟩) | (refine DOps.valK 18 rfl rfl rfl rfl ?_; first | refine ⟨_, (OpVal.fa tt_ok rfl rfl rfl rfl rfl rfl), ?_⟩) | (refine DOps.valK 2 rfl rfl rfl rfl ?_; first | refine ⟨_, (OpVal.pickT rfl rfl rfl), ?_⟩ | refine ⟨_, (OpVal.pickF rfl rfl rfl), ?_⟩) | (refine DOps.valK 16 rfl rfl rfl rfl ?_; first | refine ⟨_, (OpVal.notB rfl rfl), ?_⟩) | (refine DOps.k 30 rfl ?_; refine DOps.boxS rfl rfl rfl rfl rfl rfl ?_) | refine DOps.cmp rfl rfl rfl rfl rfl rfl rfl (fun _ => ?_) (fun _ => ?_))
      all_goals exact endQ.ret rfl (.cons (.tmp rfl) .nil) (pures_cons trivial pures_nil) rfl
    · rw [decide_eq_false ht] at cc
      refine DCalls.enter tt_ok Tryz.func24 rfl Tryz.ntmps24 (by simp) (by repeat (first | exact pures_nil | refine pures_cons ?_ ?_ | exact trivial | exact pure_aggB rfl | exact arr_pure _ | exact Load.pure _ | exact Area.pure _ | exact dvs_pure _ | exact pure_sc | exact pure_sl)) ?_
      repeat' (first | refine q_seq ?_ | refine q_seqR ?_ | refine q_block ?_ | refine q_blockR ?_ | refine DCode.seq ?_ | refine DCode.region ?_ | refine DCode.block ?_ | refine DCode.skip ?_ | refine DCode.ret ?_ | refine DCode.condT rfl ?_ | refine DCode.condF rfl ?_ | (refine DOps.k 28 rfl ?_; refine DOps.new (r := .v (tN [b.x, b.y, b.w, b.h])) rfl rfl rfl (OpNew.bsl tt_ok (iD [b.x, b.y, b.w, b.h]) _ rfl rfl rfl rfl rfl rfl rfl rfl rfl rfl (ints_flat [b.x, b.y, b.w, b.h])) ?_) | refine DOps.call1 (ts := [tN [b.x, b.y, b.w, b.h]]) rfl rfl rfl rfl rfl Tryz.func23 rfl (by kernel_rfl) rfl (by repeat (first | exact pures_nil | refine pures_cons ?_ ?_ | exact trivial | exact pure_aggB rfl | exact arr_pure _ | exact Load.pure _ | exact Area.pure _ | exact dvs_pure _ | exact pure_sc | exact pure_sl)) (ca) ?_ | refine DOps.call1 (ts := [tT b.text, tT [10]]) rfl rfl rfl rfl rfl Tryz.func44 rfl (by kernel_rfl) rfl (by repeat (first | exact pures_nil | refine pures_cons ?_ ?_ | exact trivial | exact pure_aggB rfl | exact arr_pure _ | exact Load.pure _ | exact Area.pure _ | exact dvs_pure _ | exact pure_sc | exact pure_sl)) (cc) ?_ | refine DOps.nil ?_ | refine DOps.off rfl rfl rfl ?_ | (refine DOps.valK 0 rfl rfl rfl rfl ?_; first | refine ⟨_, (OpVal.move rfl rfl), ?_⟩) | (refine DOps.valK 1 rfl rfl rfl rfl ?_; first | refine ⟨_, (OpVal.assign rfl rfl), ?_⟩) | (refine DOps.valK 3 rfl rfl rfl rfl ?_; first | refine ⟨_, (OpVal.load1 tt_ok rfl rfl rfl rfl rfl rfl), ?_⟩) | (refine DOps.valK 10 rfl rfl rfl rfl ?_; first | refine ⟨_, (OpVal.add rfl rfl rfl (by omega) (by omega)), ?_⟩) | (refine DOps.valK 18 rfl rfl rfl rfl ?_; first | refine ⟨_, (OpVal.fa tt_ok rfl rfl rfl rfl rfl rfl), ?_⟩) | (refine DOps.valK 2 rfl rfl rfl rfl ?_; first | refine ⟨_, (OpVal.pickT rfl rfl rfl), ?_⟩ | refine ⟨_, (OpVal.pickF rfl rfl rfl), ?_⟩) | (refine DOps.valK 16 rfl rfl rfl rfl ?_; first | refine ⟨_, (OpVal.notB rfl rfl), ?_⟩) | (refine DOps.k 30 rfl ?_; refine DOps.boxS rfl rfl rfl rfl rfl rfl ?_) | refine DOps.cmp rfl rfl rfl rfl rfl rfl rfl (fun _ => ?_) (fun _ => ?_))
      all_goals refine endQ.ret rfl (.cons (.tmp rfl) .nil) (pures_cons trivial pures_nil) (bt1 (Eq.symm ?_))
      all_goals first
        | (refine Bool.eq_false_iff.2 fun h => ?_
           obtain ⟨h1, h2, h3, h4, h5, h6, h7, h8, h9, h10, h11, h12, h13, h14, h15⟩ := right_iff.1 h
           omega)
        | exact right_iff.2 ⟨by omega, by omega, by omega, by omega, by omega, by omega, by omega, by omega, a1, a2, a3, a4, by omega, by omega, ht⟩
end Go.Proofs.YtejdeonbibbchaaGreatDoor
