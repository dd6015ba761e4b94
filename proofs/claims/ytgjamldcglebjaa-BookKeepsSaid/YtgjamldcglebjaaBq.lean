/- Book: the plain law: nothing is lost from page to page. No program in sight. -/
import Derived.Test.YtgjamldcglebjaaBp
namespace Go.Proofs.Ytgjamldcglebjaa
open Go Go.RowKit Go.Proofs.Ytgjamldcglebjaa.DL
set_option linter.unusedVariables false

/-- Of one series, what lines have. -/
def colE (k : Nat) : List Load → Int
  | [] => 0
  | y :: s => y.notes.getD k 0 + colE k s
theorem colE_append (k : Nat) : ∀ (s t : List Load), colE k (s ++ t) = colE k s + colE k t
  | [], t => by simp [colE]
  | y :: s, t => by rw [List.cons_append, colE, colE, colE_append k s t]; omega
theorem addE_get (xs ys : List Int) (k : Nat) (hx : k < xs.length) (hy : k < ys.length) : (addE xs ys).getD k 0 = xs.getD k 0 + ys.getD k 0 := by
  have h : k < (List.zipWith (fun a b => a + b) xs ys).length := by simp; omega
  simp only [addE, List.getD_eq_getElem?_getD, List.getElem?_eq_getElem h, List.getElem?_eq_getElem hx, List.getElem?_eq_getElem hy, Option.getD_some, List.getElem_zipWith]
theorem sE_get (k : Nat) (hk : k < 10) : ∀ (s : List Load) (left : List Int), (∀ y ∈ s, y.notes.length = 10) → left.length = 10 → (sE s left).getD k 0 = left.getD k 0 + colE k s
  | [], left, _, _ => by simp [sE, colE]
  | y :: s, left, ht, h10 => by
    have hy := ht y (List.mem_cons_self ..)
    rw [sE, sE_get k hk s _ (fun x hx => ht x (List.mem_cons_of_mem _ hx)) (addE_length _ _ h10 hy), addE_get _ _ _ (by omega) (by omega), colE]
    omega
theorem colE_bounds (k : Nat) : ∀ (s : List Load), FairL s → 0 ≤ colE k s ∧ colE k s ≤ 1073741823 * s.length
  | [], _ => by simp [colE]
  | y :: s, h => by
    have h1 := colE_bounds k s h.tail
    have h2 := (h y (List.mem_cons_self ..)).2.1.get k
    rw [colE, List.length_cons]
    omega
theorem seg_col (l : List Load) (k p n : Nat) : colE k (l.take (p + n)) = colE k (l.take p) + colE k (segL l p (p + n)) := by
  rw [← colE_append]
  congr 1
  rw [segL, List.drop_take, show p + n - p = n by omega, List.take_add]

/-- Lines are taken only where nothing is left over, or nothing is left behind them. -/
theorem take_left {l : List Load} {p : Int} {left : List Int} {a : Area} {x : LeafM} (h : takeW l p left a = (x, true)) : left = zs10 ∨ x.left = zs10 ∨ x.lines = 0 := by
  unfold takeW at h
  by_cases h1 : mayAt l p left a = false
  · rw [if_pos h1] at h; simp at h
  rw [if_neg h1] at h
  by_cases h2 : 0 < fitN l p.toNat left a
  · rw [if_pos h2] at h
    simp only [Prod.mk.injEq, and_true] at h
    rw [← h]; exact .inr (.inl rfl)
  rw [if_neg h2] at h
  by_cases h3 : left ≠ zs10
  · rw [if_pos h3] at h
    split at h
    · simp only [Prod.mk.injEq, and_true] at h
      rw [← h]; exact .inr (.inr rfl)
    · simp at h
  · exact .inl (Classical.byContradiction h3)
theorem Held.full {l : List Load} {p : Int} {left : List Int} {a : Area} {x : LeafM} {n : Nat} (H : Held l p left a x n) {k : Nat} (hk : k < 10) (h : 0 < (sE (segL l p.toNat (p.toNat + n)) left).getD k 0) : a.unit ≤ x.shown.getD k 0 := by
  obtain ⟨t1, t2, t3, t4, t5, t6⟩ := H.tight.each k hk
  exact Int.le_of_dvd (t4 h) t5
/-- A page is not empty, where there is something to show. -/
theorem Held.some {l : List Load} {p : Nat} {left : List Int} {a : Area} {x : LeafM} {n : Nat} (H : Held l (p : Int) left a x n) (h10 : left.length = 10) (ht : Tens l) (hgo : p < l.length ∨ left ≠ zs10) (hx : takeW l (p : Int) left a = (x, true)) : ¬ (n = 0 ∧ x.shown = zs10) := by
  rintro ⟨rfl, hs⟩
  have hseg : segL l (p : Int).toNat ((p : Int).toNat + 0) = [] := by simp [segL]
  by_cases hz : left = zs10
  · have hp : p < l.length := hgo.resolve_right fun h => h hz
    unfold takeW at hx
    by_cases h1 : mayAt l (p : Int) left a = false
    · rw [if_pos h1] at hx; simp at hx
    rw [if_neg h1] at hx
    by_cases h2 : 0 < fitN l (p : Int).toNat left a
    · rw [if_pos h2] at hx
      simp only [Prod.mk.injEq, and_true] at hx
      have := H.lines
      rw [← hx] at this
      have : (fitN l (p : Int).toNat left a : Int) = ((0 : Nat) : Int) := this
      omega
    rw [if_neg h2, if_neg (fun h => h hz), if_pos (by omega)] at hx
    split at hx
    · simp only [Prod.mk.injEq, and_true] at hx
      have := H.lines
      rw [← hx] at this
      have : (1 : Int) = ((0 : Nat) : Int) := this
      omega
    · simp at hx
  · apply hz
    apply List.ext_getElem
    · rw [h10]; rfl
    · intro i h1 h2
      have hi : i < 10 := by rw [h10] at h1; exact h1
      obtain ⟨t1, t2, t3, t4, t5, t6⟩ := H.tight.each i hi
      rw [hseg, sE] at t1 t4
      have hA := (row_amt H.fair.left).get i
      have hz0 : (zs10 : List Int).getD i 0 = 0 := by
        match i, hi with
        | 0, _ | 1, _ | 2, _ | 3, _ | 4, _ | 5, _ | 6, _ | 7, _ | 8, _ | 9, _ => rfl
      have hs0 : x.shown.getD i 0 = 0 := by rw [hs]; exact hz0
      have h0 : left.getD i 0 = 0 := by
        rcases Int.lt_or_le 0 (left.getD i 0) with h | h
        · have := t4 h; omega
        · omega
      have e1 : left.getD i 0 = left[i] := by simp [List.getD_eq_getElem?_getD, List.getElem?_eq_getElem h1]
      have e2 : (zs10 : List Int).getD i 0 = zs10[i] := by simp [List.getD_eq_getElem?_getD, List.getElem?_eq_getElem h2]
      rw [← e1, ← e2, h0, hz0]

/-- How the walk from page to page stands: page i begins at line p, with what is left; shown: of all pages ahead. -/
structure Kept22 (l : List Load) (a : Area) (ps : List LeafM) (i p : Nat) (left shown : List Int) : Prop where
  chain : Chain l a p left (ps.drop i)
  le : i ≤ ps.length
  left10 : left.length = 10
  shown10 : shown.length = 10
  sum : ∀ k, k < 10 → shown.getD k 0 + left.getD k 0 = colE k (l.take p)
  pos : ∀ k, k < 10 → 0 ≤ shown.getD k 0
theorem Kept22.step {l : List Load} {a : Area} {ps : List LeafM} {i p : Nat} {left shown : List Int} (h : Kept22 l a ps i p left shown) (ht : Tens l) (hi : i < ps.length) :
    ∃ n, Held l (p : Int) left a (ps.getD i leaf0) n ∧ takeW l (p : Int) left a = (ps.getD i leaf0, true) ∧ (p < l.length ∨ left ≠ zs10) ∧
      Kept22 l a ps (i + 1) (p + n) (ps.getD i leaf0).left (addE shown (ps.getD i leaf0).shown) := by
  have e : ps.drop i = ps.getD i leaf0 :: ps.drop (i + 1) := by
    rw [List.drop_eq_getElem_cons hi]
    simp [List.getD_eq_getElem?_getD, List.getElem?_eq_getElem hi]
  have hc := h.chain
  rw [e] at hc
  generalize ps.getD i leaf0 = x at *
  cases hc with
  | @cons _ _ _ n _ hgo hx H hc =>
    refine ⟨n, H, hx, hgo, hc, hi, H.ten.2, addE_length _ _ h.shown10 H.ten.1, fun k hk => ?_, fun k hk => ?_⟩
    · have hs := h.sum k hk
      have s10 := h.shown10
      have x10 := H.ten.1
      obtain ⟨t1, _⟩ := H.tight.each k hk
      rw [Int.toNat_natCast, sE_get k hk _ _ (fun y hy => (ht.seg p (p + n)) y hy) h.left10] at t1
      rw [addE_get _ _ _ (by omega) (by omega), seg_col]
      omega
    · have s10 := h.shown10
      have x10 := H.ten.1
      obtain ⟨_, t2, _⟩ := H.tight.each k hk
      have := h.pos k hk
      rw [addE_get _ _ _ (by omega) (by omega)]
      omega
theorem Kept22.end_ {l : List Load} {a : Area} {ps : List LeafM} {p : Nat} {left shown : List Int} (h : Kept22 l a ps ps.length p left shown) (ht : Tens l) (F : FairL l) (hl : l.length ≤ 5000) : p = l.length ∧ left = zs10 ∧ shown = sumsW l zs10 := by
  have hc := h.chain
  rw [List.drop_length] at hc
  cases hc with
  | nil =>
    refine ⟨rfl, rfl, ?_⟩
    obtain ⟨s1, s2⟩ := sums_eq l zs10 0 F (fun x hx => by
      have : x = 0 := by simpa using hx
      omega) (by omega)
    rw [s1]
    have hS := sE_length l zs10 (fun y hy => ht y hy) rfl
    apply List.ext_getElem
    · rw [h.shown10, hS]
    · intro i h1 h2
      have hi : i < 10 := by rw [h.shown10] at h1; exact h1
      have e := h.sum i hi
      rw [List.take_length] at e
      have e2 := sE_get i hi l zs10 (fun y hy => ht y hy) rfl
      have e1 : shown.getD i 0 = shown[i] := by simp [List.getD_eq_getElem?_getD, List.getElem?_eq_getElem h1]
      have e3 : (sE l zs10).getD i 0 = (sE l zs10)[i] := by simp [List.getD_eq_getElem?_getD, List.getElem?_eq_getElem h2]
      have hz0 : (zs10 : List Int).getD i 0 = 0 := by
        match i, hi with
        | 0, _ | 1, _ | 2, _ | 3, _ | 4, _ | 5, _ | 6, _ | 7, _ | 8, _ | 9, _ => rfl
      rw [← e1, ← e3]
      omega
theorem Kept22.init {l : List Load} {a : Area} {ps : List LeafM} (h : Chain l a 0 zs10 ps) : Kept22 l a ps 0 0 zs10 zs10 := by
  have hz : ∀ k, k < 10 → (zs10 : List Int).getD k 0 = 0 := fun k hk => by
    match k, hk with
    | 0, _ | 1, _ | 2, _ | 3, _ | 4, _ | 5, _ | 6, _ | 7, _ | 8, _ | 9, _ => rfl
  refine ⟨h, Nat.zero_le _, rfl, rfl, fun k hk => ?_, fun k hk => ?_⟩
  · rw [hz k hk]; rfl
  · rw [hz k hk]; exact Int.le_refl _
end Go.Proofs.Ytgjamldcglebjaa
