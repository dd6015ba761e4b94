/- law18: OrderTurned: the plain law. -/
import Derived.Test.YtgjamldcglebjaaOm
namespace Go.Proofs.Ytgjamldcglebjaa
open Go Go.RowKit Go.Proofs.Ytgjamldcglebjaa.DL
set_option linter.unusedVariables false
set_option linter.unusedSimpArgs false

def backL (l : List NoteM) : Nat → List NoteM
  | 0 => []
  | i + 1 => backL l i ++ [l.getD (l.length - 1 - i) note0]
def lessL (l : List NoteM) (a : Nat) : Nat → List NoteM
  | 0 => []
  | i + 1 => lessL l a i ++ if i = a then [] else [l.getD i note0]
theorem backL_len (l : List NoteM) : ∀ i, (backL l i).length = i
  | 0 => rfl
  | i + 1 => by rw [backL, List.length_append, backL_len l i]; rfl
theorem lessL_len (l : List NoteM) (a : Nat) : ∀ i, (lessL l a i).length = if i ≤ a then i else i - 1
  | 0 => by simp [lessL]
  | i + 1 => by
    rw [lessL, List.length_append, lessL_len l a i]
    by_cases h : i = a
    · subst h; simp
    · rw [if_neg h, List.length_singleton]
      split <;> split <;> omega
theorem backL_get (l : List NoteM) : ∀ i j, j < i → (backL l i).getD j note0 = l.getD (l.length - 1 - j) note0
  | 0, j, h => absurd h (Nat.not_lt_zero _)
  | i + 1, j, h => by
    rw [backL]
    by_cases hj : j < i
    · rw [List.getD_eq_getElem?_getD, List.getElem?_append_left (by rw [backL_len]; exact hj), ← List.getD_eq_getElem?_getD, backL_get l i j hj]
    · obtain rfl : j = i := by omega
      rw [List.getD_eq_getElem?_getD, List.getElem?_append_right (by rw [backL_len]; exact Nat.le_refl _), backL_len, Nat.sub_self]
      rfl
/-- Where a note stood. -/
def upN (a j : Nat) : Nat := if j < a then j else j + 1
theorem lessL_get (l : List NoteM) (a : Nat) : ∀ i j, upN a j < i → (lessL l a i).getD j note0 = l.getD (upN a j) note0
  | 0, j, h => absurd h (Nat.not_lt_zero _)
  | i + 1, j, h => by
    rw [lessL]
    have hl := lessL_len l a i
    by_cases hj : upN a j < i
    · rw [List.getD_eq_getElem?_getD, List.getElem?_append_left (by rw [hl]; unfold upN at hj; split <;> split at hj <;> omega), ← List.getD_eq_getElem?_getD, lessL_get l a i j hj]
    · have hu : upN a j = i := by omega
      have hia : i ≠ a := by unfold upN at hu; split at hu <;> omega
      have hlj : (lessL l a i).length = j := by rw [hl]; unfold upN at hu; split <;> split at hu <;> omega
      rw [if_neg hia, List.getD_eq_getElem?_getD, List.getElem?_append_right (by omega), hlj, Nat.sub_self, hu]
      rfl

/-! In whichever order: the lemmas stand the same. -/
def keyX (l : List NoteM) (x : Int) : Int × Int := ((l.getD x.toNat note0).first, (l.getD x.toNat note0).last)
def keyLe (a b : Int × Int) : Prop := a.1 < b.1 ∨ a.1 = b.1 ∧ b.2 ≤ a.2
theorem pre_key {l : List NoteM} {x y : Int} (h : pre (ltX l) x y) : keyLe (keyX l x) (keyX l y) := by
  have e : ∀ x y, ltX l x y = true ↔ (l.getD x.toNat note0).first < (l.getD y.toNat note0).first ∨ (l.getD x.toNat note0).first = (l.getD y.toNat note0).first ∧ (l.getD x.toNat note0).last > (l.getD y.toNat note0).last := fun x y => by
    rw [ltX, decide_eq_true_iff, cmpX, cmpN_lt]
  unfold keyLe keyX
  dsimp only
  rcases h with h | ⟨h, _⟩
  · have := (e x y).1 h
    omega
  · have : ¬ _ := fun k => by rw [(e y x).2 k] at h; cases h
    omega
theorem keys_pairs (l : List NoteM) : ((sortW l).map (keyX l)).Pairwise keyLe :=
  List.pairwise_map.2 ((sortW_pairs l).imp fun h => pre_key h)
theorem keys_perm (l : List NoteM) : ((sortW l).map (keyX l)).Perm (l.map fun y => (y.first, y.last)) := by
  refine ((sortW_perm l).map _).trans ?_
  have : (idx l.length).map (keyX l) = l.map fun y => (y.first, y.last) := by
    apply List.ext_getElem (by simp [idx])
    intro i h1 h2
    simp [idx, keyX]
    rw [List.length_map] at h2
    rw [List.getElem?_eq_getElem h2]
    exact ⟨rfl, rfl⟩
  rw [this]
theorem keys_uniq {xs ys : List (Int × Int)} (h1 : xs.Pairwise keyLe) (h2 : ys.Pairwise keyLe) (hp : xs.Perm ys) : xs = ys :=
  List.Perm.eq_of_pairwise (fun a b _ _ k1 k2 => by
    unfold keyLe at k1 k2
    exact Prod.ext (by omega) (by omega)) h1 h2 hp
theorem back_perm (l : List NoteM) : (backL l l.length).Perm l := by
  have : backL l l.length = l.reverse := by
    apply List.ext_getElem (by rw [backL_len, List.length_reverse])
    intro i h1 h2
    have h := backL_get l l.length i (by rwa [backL_len] at h1)
    rw [List.getD_eq_getElem?_getD, List.getElem?_eq_getElem h1, Option.getD_some] at h
    rw [List.length_reverse] at h2
    rw [h, List.getElem_reverse, List.getD_eq_getElem?_getD, List.getElem?_eq_getElem (by omega), Option.getD_some]
  rw [this]
  exact List.reverse_perm l
theorem turned_keys (l : List NoteM) {i : Nat} (hi : i < l.length) :
    keyX l ((sortW l).getD i 0) = keyX (backL l l.length) ((sortW (backL l l.length)).getD i 0) := by
  have h := keys_uniq (keys_pairs l) (keys_pairs (backL l l.length)) ((keys_perm l).trans (((back_perm l).map _).symm.trans (keys_perm _).symm))
  have hl1 := sortW_len l
  have hl2 := sortW_len (backL l l.length)
  rw [backL_len] at hl2
  have e := congrArg (fun z => z[i]?) h
  simp only [List.getElem?_map, List.getElem?_eq_getElem (show i < (sortW l).length by omega), List.getElem?_eq_getElem (show i < (sortW (backL l l.length)).length by omega), Option.map_some] at e
  rw [List.getD_eq_getElem?_getD, List.getD_eq_getElem?_getD, List.getElem?_eq_getElem (show i < (sortW l).length by omega), List.getElem?_eq_getElem (show i < (sortW (backL l l.length)).length by omega)]
  exact Option.some.inj e

/-! One left away. -/
def upI (a : Nat) (x : Int) : Int := ((upN a x.toNat : Nat) : Int)
def notAt (a : Nat) (x : Int) : Bool := decide (x ≠ (a : Int))
theorem less_idx {n a : Nat} (ha : a < n) : (idx (n - 1)).map (upI a) = (idx n).filter (notAt a) := by
  have key : ∀ m, (idx m).filter (notAt a) = (idx (if m ≤ a then m else m - 1)).map (upI a) := by
    intro m
    induction m with
    | zero => simp [idx]
    | succ m ih =>
      rw [idx_succ, List.filter_append, ih]
      by_cases h1 : m < a
      · rw [if_pos (by omega : m ≤ a), if_pos (by omega : m + 1 ≤ a), idx_succ, List.map_append]
        congr 1
        have : notAt a ((m : Nat) : Int) = true := decide_eq_true (by omega)
        simp [List.filter_cons, this, upI, upN, h1]
      · by_cases h2 : m = a
        · subst h2
          have : notAt m ((m : Nat) : Int) = false := decide_eq_false (by simp)
          rw [if_pos (Nat.le_refl _), if_neg (by omega)]
          simp [List.filter_cons, this]
        · rw [if_neg (by omega : ¬ m ≤ a), if_neg (by omega : ¬ m + 1 ≤ a)]
          obtain ⟨k, rfl⟩ : ∃ k, m = k + 1 := ⟨m - 1, by omega⟩
          rw [show k + 1 + 1 - 1 = k + 1 by omega, show k + 1 - 1 = k by omega, idx_succ k, List.map_append]
          congr 1
          have : notAt a (((k + 1 : Nat)) : Int) = true := decide_eq_true (by omega)
          have h4 : notAt a ((k : Int) + 1) = true := this
          simp [List.filter_cons, h4, upI, upN, show ¬ k < a by omega]
  rw [key n, if_neg (by omega)]
theorem less_sort (l : List NoteM) {a : Nat} (ha : a < l.length) : (sortW (lessL l a l.length)).map (upI a) = (sortW l).filter (notAt a) := by
  have hl : (lessL l a l.length).length = l.length - 1 := by rw [lessL_len, if_neg (by omega)]
  have hin : ∀ x ∈ sortW (lessL l a l.length), 0 ≤ x ∧ x < ((l.length - 1 : Nat) : Int) := fun x hx => by
    have := (idx_inR (lessL l a l.length)).perm (sortS_perm _ _) x hx
    rw [hl] at this
    exact this
  refine ord_uniq (ltX_ord l) ?_ ((sortW_pairs l).filter _) ?_
  · refine List.pairwise_map.2 ((sortW_pairs (lessL l a l.length)).imp_of_mem fun {x y} hx hy h => ?_)
    have h1 := hin x hx
    have h2 := hin y hy
    have hg : ∀ z : Int, 0 ≤ z ∧ z < ((l.length - 1 : Nat) : Int) → (lessL l a l.length).getD z.toNat note0 = l.getD (upI a z).toNat note0 := fun z hz => by
      rw [lessL_get l a _ _ (by unfold upN; split <;> omega)]
      rfl
    have hlt : ∀ u v : Int, (0 ≤ u ∧ u < ((l.length - 1 : Nat) : Int)) → (0 ≤ v ∧ v < ((l.length - 1 : Nat) : Int)) → ltX (lessL l a l.length) u v = ltX l (upI a u) (upI a v) := fun u v hu hv => by
      rw [ltX, ltX, cmpX, cmpX, hg u hu, hg v hv]
    rcases h with h | ⟨h, h3⟩
    · exact .inl (by rw [← hlt x y h1 h2]; exact h)
    · refine .inr ⟨by rw [← hlt y x h2 h1]; exact h, ?_⟩
      unfold upI upN
      split <;> split <;> omega
  · refine ((sortW_perm _).map _).trans ?_
    rw [hl, less_idx ha]
    exact ((sortW_perm l).filter _).symm
theorem turned_less (l : List NoteM) {a k : Nat} (ha : a < l.length) (hk : k < ((sortW l).filter (notAt a)).length) :
    k < (sortW (lessL l a l.length)).length ∧ (lessL l a l.length).getD ((sortW (lessL l a l.length)).getD k 0).toNat note0 = l.getD (((sortW l).filter (notAt a)).getD k 0).toNat note0 := by
  have h := less_sort l ha
  have hlen := congrArg List.length h
  rw [List.length_map] at hlen
  have hk2 : k < (sortW (lessL l a l.length)).length := by omega
  refine ⟨hk2, ?_⟩
  have hin : 0 ≤ (sortW (lessL l a l.length)).getD k 0 ∧ (sortW (lessL l a l.length)).getD k 0 < (lessL l a l.length).length := ((idx_inR (lessL l a l.length)).perm (sortS_perm _ _)).get hk2
  have hll : (lessL l a l.length).length = l.length - 1 := by rw [lessL_len, if_neg (by omega)]
  rw [← h]
  rw [lessL_get l a _ _ (by unfold upN; split <;> omega)]
  congr 1
  rw [List.getD_eq_getElem?_getD (l := List.map _ _), List.getElem?_map, List.getElem?_eq_getElem hk2, List.getD_eq_getElem?_getD, List.getElem?_eq_getElem hk2]
  rfl
/-- The k-th that is kept. -/
theorem kept_nth {p : Int → Bool} {xs : List Int} {i : Nat} (hi : i < xs.length) (hp : p (xs.getD i 0) = true) :
    ((xs.take i).filter p).length < (xs.filter p).length ∧ (xs.filter p).getD ((xs.take i).filter p).length 0 = xs.getD i 0 := by
  have h : (xs.take (i + 1)).filter p ++ (xs.drop (i + 1)).filter p = xs.filter p := by rw [← List.filter_append, List.take_append_drop]
  rw [take_filter hi, if_pos hp] at h
  rw [← h]
  constructor
  · simp only [List.length_append, List.length_cons, List.length_nil]; omega
  · rw [List.getD_eq_getElem?_getD, List.append_assoc, List.getElem?_append_right (Nat.le_refl _), Nat.sub_self]
    rfl
end Go.Proofs.Ytgjamldcglebjaa
