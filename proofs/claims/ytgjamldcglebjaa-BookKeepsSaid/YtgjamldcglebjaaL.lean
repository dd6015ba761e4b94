/- Leaf: the plain law: a page that is taken, the program's way and the document's. -/
import Derived.Test.YtgjamldcglebjaaK
import Derived.Test.YtgjamldcglebjaaI
namespace Go.Proofs.Ytgjamldcglebjaa
open Go Go.RowKit Go.Proofs.Ytgjamldcglebjaa.DL

def hi1 (rule h : Int) : Int := if 0 < h then h + rule else 0
def highE (rule : Int) : List Int → Int
  | [] => 0
  | x :: xs => hi1 rule x + highE rule xs
def Amt (xs : List Int) : Prop := ∀ x ∈ xs, 0 ≤ x ∧ x ≤ 1073741823
theorem Amt.tail {x : Int} {xs : List Int} (h : Amt (x :: xs)) : Amt xs := fun y hy => h y (List.mem_cons_of_mem _ hy)
theorem Amt.get {xs : List Int} (h : Amt xs) (k : Nat) : 0 ≤ xs.getD k 0 ∧ xs.getD k 0 ≤ 1073741823 := by
  by_cases hk : k < xs.length
  · have := h _ (List.getElem_mem hk)
    simpa [List.getD_eq_getElem?_getD, List.getElem?_eq_getElem hk] using this
  · simp [List.getD_eq_getElem?_getD, List.getElem?_eq_none (Nat.le_of_not_lt hk)]
theorem Amt.of_get {xs : List Int} (h : ∀ k, k < xs.length → 0 ≤ xs.getD k 0 ∧ xs.getD k 0 ≤ 1073741823) : Amt xs := fun x hx => by
  obtain ⟨k, hk, rfl⟩ := List.getElem_of_mem hx
  have := h k hk
  simpa [List.getD_eq_getElem?_getD, List.getElem?_eq_getElem hk] using this
theorem hi1_bounds {rule h : Int} (hr : 0 ≤ rule) (hr1 : rule ≤ 1073741823) (h0 : 0 ≤ h) (h1 : h ≤ 1073741823) : 0 ≤ hi1 rule h ∧ hi1 rule h ≤ 2147483646 := by
  unfold hi1; split <;> omega
theorem highE_bounds {rule : Int} (hr : 0 ≤ rule) (hr1 : rule ≤ 1073741823) : ∀ (xs : List Int), Amt xs → 0 ≤ highE rule xs ∧ highE rule xs ≤ 2147483646 * xs.length
  | [], _ => by simp [highE]
  | x :: xs, h => by
    have h1 := highE_bounds hr hr1 xs h.tail
    have h2 := h x (List.mem_cons_self ..)
    have h3 := hi1_bounds hr hr1 h2.1 h2.2
    rw [highE, List.length_cons]
    omega
theorem high_go {rule : Int} (hr : 0 ≤ rule) (hr1 : rule ≤ 1073741823) : ∀ (xs : List Int) (s : Int), Amt xs → 0 ≤ s → s + 2147483646 * xs.length ≤ 9223372036854775807 → xs.foldl (hiStep rule) s = s + highE rule xs
  | [], s, _, _, _ => by simp [highE]
  | x :: xs, s, h, h0, h1 => by
    have h2 := h x (List.mem_cons_self ..)
    rw [List.length_cons] at h1
    rw [List.foldl_cons, highE]
    have e : hiStep rule s x = s + hi1 rule x := by
      unfold hiStep hi1
      split
      · rw [w64_in (n := x + rule) (by omega) (by omega), w64_in (by omega) (by omega)]
      · omega
    have h3 := hi1_bounds hr hr1 h2.1 h2.2
    rw [e, high_go hr hr1 xs _ h.tail (by omega) (by omega)]
    omega
theorem high_eq {rule : Int} (hr : 0 ≤ rule) (hr1 : rule ≤ 1073741823) {xs : List Int} (hA : Amt xs) (hx : xs.length = 10) : highW rule xs = highE rule xs := by
  rw [highW, high_go hr hr1 xs 0 hA (by omega) (by omega), Int.zero_add]
theorem highE_set (rule v : Int) : ∀ (xs : List Int) (k : Nat), k < xs.length → highE rule (xs.set k v) = highE rule xs - hi1 rule (xs.getD k 0) + hi1 rule v
  | [], k, h => by simp at h
  | x :: xs, 0, _ => by
    rw [List.set_cons_zero, highE, highE, List.getD_cons_zero]; omega
  | x :: xs, k + 1, h => by
    rw [List.set_cons_succ, highE, highE, highE_set rule v xs k (by simpa using h), List.getD_cons_succ]; omega

theorem roomW_eq (a : Area) (hr : 0 ≤ a.rule) (hr1 : a.rule ≤ 1073741823) (hu : 1 ≤ a.unit) (hu1 : a.unit ≤ 1073741823) (xs : List Int) : ∀ (r : Int), 2147483646 * xs.length ≤ r + 9000000000000000000 → r ≤ 9000000000000000000 → roomW a r xs = r - highE a.rule (leastW a.unit xs) := by
  induction xs with
  | nil => intro r _ _; simp [roomW, leastW, highE]
  | cons x xs ih =>
    intro r h0 h1
    rw [List.length_cons] at h0
    have e : roomStep a r x = r - hi1 a.rule (leastOf a.unit x) := by
      unfold roomStep hi1 leastOf
      by_cases hx : 0 < x
      · rw [if_pos hx, if_pos hx, if_pos (by omega), w64_in (n := a.rule + a.unit) (by omega) (by omega), w64_in (by omega) (by omega)]; omega
      · rw [if_neg hx, if_neg hx, if_neg (by omega)]; omega
    have hb : 0 ≤ hi1 a.rule (leastOf a.unit x) ∧ hi1 a.rule (leastOf a.unit x) ≤ 2147483646 := by
      unfold hi1 leastOf
      split <;> split <;> omega
    show roomW a (roomStep a r x) xs = _
    rw [e, ih (r - hi1 a.rule (leastOf a.unit x)) (by omega) (by omega)]
    show _ = r - (hi1 a.rule (leastOf a.unit x) + highE a.rule (leastW a.unit xs))
    omega

theorem quo_bounds {r u : Int} (hr : 0 ≤ r) (hu : 1 ≤ u) : 0 ≤ r.tdiv u ∧ r.tdiv u ≤ r ∧ 0 ≤ r.tdiv u * u ∧ r.tdiv u * u ≤ r := by
  rw [Int.tdiv_eq_ediv_of_nonneg hr]
  have h0 := Int.ediv_nonneg hr (show 0 ≤ u by omega)
  have h1 := Int.ediv_mul_le r (show u ≠ 0 by omega)
  have h2 : 0 ≤ r / u * u := Int.mul_nonneg h0 (by omega)
  have h3 : r / u * 1 ≤ r / u * u := Int.mul_le_mul_of_nonneg_left hu h0
  omega
theorem more_eq {unit r h : Int} (hu : 1 ≤ unit) (hu1 : unit ≤ 1073741823) (hr : 0 ≤ r) (hr1 : r ≤ 1000000000000) (h0 : 0 ≤ h) (h1 : h ≤ 1073741823) :
    moreW unit r h = mn (h - leastOf unit h) (r.tdiv unit * unit) := by
  have hq := quo_bounds hr hu
  have hl : 0 ≤ leastOf unit h ∧ leastOf unit h ≤ 1073741823 := by unfold leastOf; split <;> omega
  rw [moreW, w64_in (n := r.tdiv unit) (by omega) (by omega), w64_in (n := r.tdiv unit * unit) (by omega) (by omega), w64_in (by omega) (by omega)]
theorem mn_comm (x y : Int) : mn x y = mn y x := by unfold mn; split <;> split <;> omega
theorem mn_le (x y : Int) : mn x y ≤ x ∧ mn x y ≤ y ∧ (mn x y = x ∨ mn x y = y) := by unfold mn; split <;> omega

theorem go_same (a : Area) (left : List Int) (room r : Int) (h10 : left.length = 10) (hA : Amt left) (hr : 0 ≤ a.rule) (hr1 : a.rule ≤ 1073741823) (hu : 1 ≤ a.unit) (hu1 : a.unit ≤ 1073741823) (hr0 : 0 ≤ r) (hrm : r ≤ 1073741823) (he : r = room - highE a.rule (leastW a.unit left)) :
    ∀ k, k ≤ 10 → goR a room left k = mix (shownW a.unit r left) (leastW a.unit left) k ∧ Amt (goR a room left k) ∧ room - highE a.rule (goR a room left k) = room2 a.unit r (left.take k) ∧ 0 ≤ room2 a.unit r (left.take k) ∧ room2 a.unit r (left.take k) ≤ 1073741823 + 1073741823 * k
  | 0, _ => by
    have e : goR a room left 0 = leastW a.unit left := rfl
    rw [e, mix_zero]
    refine ⟨rfl, Amt.of_get fun k hk => ?_, ?_, ?_, ?_⟩
    · rw [leastW_length] at hk
      rw [leastW_get _ _ _ hk]
      unfold leastOf; split <;> omega
    · rw [← he]; rfl
    · exact hr0
    · show r ≤ _; omega
  | k + 1, hk => by
    obtain ⟨i1, i2, i3, i4, i5⟩ := go_same a left room r h10 hA hr hr1 hu hu1 hr0 hrm he k (by omega)
    have hL : (leastW a.unit left).length = 10 := by rw [leastW_length, h10]
    have hS : (shownW a.unit r left).length = 10 := by rw [shownW_length, h10]
    have hG : (goR a room left k).length = 10 := by rw [goR_length, h10]
    have hk10 : k < left.length := by omega
    have hh := hA.get k
    have hg : (goR a room left k).getD k 0 = leastOf a.unit (left.getD k 0) := by
      rw [i1, mix_get _ _ _ (by rw [hS, hL]) (by omega), leastW_get _ _ _ hk10]
    have hmore := more_eq hu hu1 i4 (by omega) hh.1 hh.2
    have hq := quo_bounds i4 hu
    have hrk := room2_take a.unit r left k hk10
    have hsg := shownW_get a.unit r left k hk10
    have hset := mix_set (shownW a.unit r left) (leastW a.unit left) k (by rw [hS, hL]) (by omega)
    have hkeep := mix_keep (shownW a.unit r left) (leastW a.unit left) k (by rw [hS, hL]) (by omega)
    have hHs := highE_set a.rule (shownAt a.unit r left k) (goR a room left k) k (by omega)
    have hhigh := high_eq hr hr1 i2 hG
    have hbd := highE_bounds hr hr1 _ i2
    have hat : shownAt a.unit r left k = w64 (leastOf a.unit (left.getD k 0) + moreW a.unit (room2 a.unit r (left.take k)) (left.getD k 0)) := rfl
    have hstep := goR_succ a room left k
    rw [stepR] at hstep
    rw [leastW_get _ _ _ hk10] at hkeep
    generalize room2 a.unit r (left.take k) = rk at *
    generalize hge : left.getD k 0 = h at hh hg hmore hrk hat hstep hkeep
    have hm := mn_le (h - leastOf a.unit h) (rk.tdiv a.unit * a.unit)
    by_cases hpos : 0 < h
    · rw [if_pos hpos] at hstep
      have hl : leastOf a.unit h = a.unit := by rw [leastOf, if_pos hpos]
      rw [hl] at hmore hm hat hg hkeep
      have hhw : w64 (room - highW a.rule (goR a room left k)) = rk := by
        rw [hhigh, i3, w64_in (by omega) (by omega)]
      have hmr : mn (w64 (w64 ((w64 (room - highW a.rule (goR a room left k))).tdiv a.unit) * a.unit)) (w64 (h - a.unit)) = moreW a.unit rk h := by
        rw [hhw, hmore, w64_in (n := rk.tdiv a.unit) (by omega) (by omega), w64_in (n := rk.tdiv a.unit * a.unit) (by omega) (by omega), w64_in (by omega) (by omega), mn_comm]
      rw [moreR, hge, hg, hmr, ← hat] at hstep
      have hv : shownAt a.unit r left k = a.unit + moreW a.unit rk h := by rw [hat, w64_in (by omega) (by omega)]
      have hvp : 0 < shownAt a.unit r left k ∧ shownAt a.unit r left k ≤ 1073741823 := by omega
      have hhl : hi1 a.rule a.unit = a.unit + a.rule := by unfold hi1; rw [if_pos (by omega)]
      have hhv : hi1 a.rule (shownAt a.unit r left k) = shownAt a.unit r left k + a.rule := by unfold hi1; rw [if_pos hvp.1]
      rw [hg, hhl, hhv] at hHs
      rw [w64_in (by omega) (by omega)] at hrk
      rw [hstep, hrk]
      refine ⟨?_, ?_, ?_, ?_, ?_⟩
      · rw [i1, ← hset, hsg]
      · refine Amt.of_get fun j hj => ?_
        rw [List.length_set] at hj
        by_cases hjk : k = j
        · subst hjk
          simp only [List.getD_eq_getElem?_getD, List.getElem?_set_self (show k < (goR a room left k).length by omega), Option.getD_some]
          omega
        · have := i2.get j
          simp only [List.getD_eq_getElem?_getD, List.getElem?_set_ne hjk] at this ⊢
          exact this
      · rw [hHs]; omega
      · omega
      · rw [Int.natCast_succ]; omega
    · rw [if_neg hpos] at hstep
      obtain rfl : h = 0 := by omega
      have hl : leastOf a.unit 0 = 0 := rfl
      rw [hl] at hmore hm hat hkeep
      have hm0 : moreW a.unit rk 0 = 0 := by omega
      rw [hm0] at hat hrk
      have hz : shownAt a.unit r left k = 0 := hat
      rw [w64_in (by omega) (by omega)] at hrk
      rw [hstep, hrk]
      refine ⟨?_, i2, ?_, ?_, ?_⟩
      · rw [i1]; exact hkeep (by rw [hsg, hz])
      · omega
      · omega
      · rw [Int.natCast_succ]; omega
end Go.Proofs.Ytgjamldcglebjaa
