/- Leaf: the plain law: the program takes what the document takes. -/
import Derived.Test.YtgjamldcglebjaaL
import Derived.Test.YtgjamldcglebjaaJ
namespace Go.Proofs.Ytgjamldcglebjaa
open Go Go.RowKit Go.Proofs.Ytgjamldcglebjaa.DL

theorem rest_sub (unit r : Int) (left : List Int) : restW unit r left = subW left (shownW unit r left) := by
  apply List.ext_getElem
  · simp [restW, subW, shownW]
  · intro i h1 h2
    have hi : i < left.length := by simpa [restW] using h1
    simp [restW, subW, shownW, hi]
theorem tight_same (left : List Int) (room : Int) (a : Area) (h10 : left.length = 10) (hA : Amt left) (hr : 0 ≤ a.rule) (hr1 : a.rule ≤ 1073741823) (hu : 1 ≤ a.unit) (hu1 : a.unit ≤ 1073741823) (h0 : -1073741823 ≤ room) (h1 : room ≤ 1073741823) :
    tightW left room a = if (tightR left room a).2 then ((tightR left room a).1, subW left (tightR left room a).1, true) else (zs10, zs10, false) := by
  have hL : (leastW a.unit left).length = 10 := by rw [leastW_length, h10]
  have hLA : Amt (leastW a.unit left) := Amt.of_get fun k hk => by
    rw [leastW_length] at hk
    rw [leastW_get _ _ _ hk]
    unfold leastOf; split <;> omega
  have e := roomW_eq a hr hr1 hu hu1 left room (by omega) (by omega)
  have hb := highE_bounds hr hr1 _ hLA
  have hh := high_eq hr hr1 hLA hL
  unfold tightW tightR
  by_cases h : room < highW a.rule (leastW a.unit left)
  · rw [if_pos h, if_pos (by omega)]; rfl
  · rw [if_neg h, if_neg (by omega)]
    obtain ⟨i1, _⟩ := go_same a left room (roomW a room left) h10 hA hr hr1 hu hu1 (by omega) (by omega) e 10 (Nat.le_refl _)
    rw [mix_at _ _ 10 (by rw [shownW_length, h10]) hL] at i1
    show _ = if true = true then _ else _
    rw [if_pos rfl, i1, rest_sub]

theorem amount_bounds {n u : Int} (h : amountB n u = true) : 0 ≤ n ∧ n ≤ 1073741823 := by
  have := (amountB_iff _ _).1 h
  omega
theorem row_amt {u : Int} {xs : List Int} (h : (rowA u xs).all amountP = true) : Amt xs := fun x hx =>
  amount_bounds (List.all_eq_true.1 h (x, u) (List.mem_map.2 ⟨x, hx, rfl⟩))
structure Fair (l : List Load) (left : List Int) (a : Area) : Prop where
  len : l.length ≤ 5000
  unit : 1 ≤ a.unit ∧ a.unit ≤ 1073741823
  height : 0 ≤ a.height ∧ a.height ≤ 1073741823
  rule : 0 ≤ a.rule ∧ a.rule ≤ 1073741823
  left : (rowA a.unit left).all amountP = true
  load : ∀ y ∈ l, amountB y.main 1 = true ∧ (rowA a.unit y.notes).all amountP = true
theorem mayR_fair {l : List Load} {left : List Int} {a : Area} (h : mayR l left a = true) : Fair l left a := by
  unfold mayR at h
  simp only [Bool.and_eq_true] at h
  obtain ⟨hA, hr, ⟨h1, h2⟩, _⟩ := h
  simp only [areaB, Bool.and_eq_true, decide_eq_true_eq, fitsB_iff] at hA
  refine ⟨by omega, by omega, by omega, amount_bounds hr, h1, fun y hy => ?_⟩
  rw [List.all_eq_true] at h2
  refine ⟨h2 (y.main, 1) (List.mem_flatMap.2 ⟨y, hy, List.mem_cons_self ..⟩), List.all_eq_true.2 fun p hp => h2 p (List.mem_flatMap.2 ⟨y, hy, List.mem_cons_of_mem _ hp⟩)⟩
theorem Fair.get {l : List Load} {left : List Int} {a : Area} (h : Fair l left a) {k : Nat} (hk : k < l.length) : 0 ≤ (l.getD k ⟨0, []⟩).main ∧ (l.getD k ⟨0, []⟩).main ≤ 1073741823 ∧ Amt (l.getD k ⟨0, []⟩).notes := by
  have e : l.getD k ⟨0, []⟩ = l[k] := by simp [List.getD_eq_getElem?_getD, List.getElem?_eq_getElem hk]
  have := h.load _ (List.getElem_mem hk)
  rw [e]
  have hb := amount_bounds this.1
  exact ⟨hb.1, hb.2, row_amt this.2⟩

theorem take_same (l : List Load) (p : Int) (left : List Int) (a : Area) (ht : Tens l) (h10 : left.length = 10) : takeR l p left a = takeW l p left a := by
  unfold takeR takeW
  rw [may_same l left a ht h10]
  have hi := mayAt_iff l p left a
  by_cases h : p < 0 ∨ l.length < p ∨ mayW l left a = false
  · rw [if_pos h, if_pos (hi.2 h)]
  · rw [if_neg h, if_neg fun k => h (hi.1 k)]
    have hm : mayR l left a = true := by
      rw [may_same l left a ht h10]
      cases hc : mayW l left a with
      | true => rfl
      | false => exact absurd (.inr (.inr hc)) h
    have F := mayR_fair hm
    have tsame := fun (xs : List Int) (room : Int) (h10 : xs.length = 10) (hA : Amt xs) (h0 : -1073741823 ≤ room) (h1 : room ≤ 1073741823) => tight_same xs room a h10 hA F.rule.1 F.rule.2 F.unit.1 F.unit.2 h0 h1
    split
    · rfl
    · by_cases hz : left = zs10
      · rw [if_pos hz, if_neg (show ¬ left ≠ zs10 from fun h => h hz)]
        by_cases hp : p = l.length
        · rw [if_pos hp, if_neg (by omega)]
        · have hlt : p.toNat < l.length := by omega
          have hg := F.get hlt
          have hh := F.height
          rw [if_neg hp, if_pos (by omega), w64_in (by omega) (by omega), tsame _ _ (ht.get _ hlt) hg.2.2 (by omega) (by omega)]
          unfold pageR
          cases (tightR (l.getD p.toNat ⟨0, []⟩).notes (a.height - (l.getD p.toNat ⟨0, []⟩).main) a).2 <;> rfl
      · have hh := F.height
        rw [if_neg hz, if_pos hz, tsame _ _ h10 (row_amt F.left) (by omega) (by omega)]
        unfold pageR
        cases (tightR left a.height a).2 <;> rfl
end Go.Proofs.Ytgjamldcglebjaa
