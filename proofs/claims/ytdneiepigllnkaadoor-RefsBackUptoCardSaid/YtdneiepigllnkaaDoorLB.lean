/- The plain law of lemma (layer 15): marks tell words apart; what heads begin and end with. No program in sight. -/
import Derived.Test.YtdneiepigllnkaaDoorLA
namespace Go.Proofs.YtdneiepigllnkaaDoor
open Go

/-! ### A number's digits tell it -/
def valD (l : List UInt8) : Nat := l.foldl (fun a c => a * 10 + (c.toNat - 48)) 0
theorem digit_toNat {d : Nat} (h : d < 10) : (UInt8.ofNat (48 + d)).toNat = 48 + d := by
  rw [UInt8.toNat_ofNat', Nat.mod_eq_of_lt (by omega)]
theorem valD_dec (n : Nat) : valD (Lib.decDigits n) = n := by
  induction n using Nat.strongRecOn with
  | ind n ih =>
    by_cases h : n < 10
    · rw [Lib.decDigits_one h]
      show 0 * 10 + ((UInt8.ofNat (48 + n)).toNat - 48) = n
      rw [digit_toNat h]; omega
    · rw [dec_step n h]
      have e := ih (n / 10) (by omega)
      unfold valD at e ⊢
      rw [List.foldl_append, e]
      show n / 10 * 10 + ((UInt8.ofNat (48 + n % 10)).toNat - 48) = n
      rw [digit_toNat (Nat.mod_lt _ (by decide))]; omega
theorem itoa_nat (n : Nat) : Lib.itoa (n : Int) = Lib.decDigits n := by
  rw [Lib.itoa, if_neg (by omega)]; rfl
theorem itoa_inj {n m : Nat} (h : Lib.itoa (n : Int) = Lib.itoa (m : Int)) : n = m := by
  rw [itoa_nat, itoa_nat] at h
  have := congrArg valD h
  rwa [valD_dec, valD_dec] at this

theorem pl_mem {x : UInt8} : ∀ {l : List UInt8}, x ∈ pl l → x ∈ l
  | [], h => h
  | [y], h => h
  | y :: z :: r, h => by
    rw [pl] at h
    split at h
    · exact List.mem_cons_of_mem _ (List.mem_cons_of_mem _ (pl_mem h))
    · rcases List.mem_cons.1 h with e | h
      · exact e ▸ List.mem_cons_self ..
      · exact List.mem_cons_of_mem _ (pl_mem h)
theorem split_first {c : UInt8} : ∀ {a b x y : List UInt8}, c ∉ a → c ∉ b → a ++ ([c] ++ x) = b ++ ([c] ++ y) → a = b ∧ x = y
  | [], [], x, y, _, _, h => ⟨rfl, by simpa using h⟩
  | [], z :: b, x, y, _, hb, h => by
    simp only [List.nil_append, List.cons_append, List.cons.injEq] at h
    exact absurd (h.1 ▸ List.mem_cons_self ..) hb
  | z :: a, [], x, y, ha, _, h => by
    simp only [List.nil_append, List.cons_append, List.cons.injEq] at h
    exact absurd (h.1 ▸ List.mem_cons_self ..) ha
  | z :: a, u :: b, x, y, ha, hb, h => by
    simp only [List.cons_append, List.cons.injEq] at h
    obtain ⟨e1, e2⟩ := split_first (fun m => ha (List.mem_cons_of_mem _ m)) (fun m => hb (List.mem_cons_of_mem _ m)) h.2
    exact ⟨by rw [h.1, e1], e2⟩

theorem same_congr (L : List (List UInt8)) {x y : List UInt8} (h : pl x = pl y) (k : Nat) : same L x k = same L y k := by
  unfold same; rw [h]
theorem cnt_at {L : List (List UInt8)} {i : Nat} (h : i < L.length) : cnt L (i : Int) = (same L (L.getD i []) (i + 1), same L (L.getD i []) L.length) := by
  rw [cnt, if_pos ⟨by omega, by omega⟩]; rfl
theorem same_self {L : List (List UInt8)} {i : Nat} (h : i < L.length) : same L (L.getD i []) (i + 1) = same L (L.getD i []) i + 1 := by
  rw [same_succ _ h, if_pos rfl]
theorem same_two {L : List (List UInt8)} {i k : Nat} (hk : k < i) (h : i < L.length) (e : pl (L.getD i []) = pl (L.getD k [])) : same L (L.getD k []) (k + 1) < same L (L.getD i []) (i + 1) := by
  have h1 := same_self h
  have h2 := same_mono L (L.getD i []) (show k + 1 ≤ i by omega)
  rw [same_congr L e (k + 1)] at h2
  omega
theorem mark_apart {L : List (List UInt8)} (hh : ∀ x ∈ L, (94 : UInt8) ∉ x) {i k : Nat} (hk : k < i) (h : i < L.length) : mark L (i : Int) ≠ mark L (k : Int) := by
  have hm : ∀ j, (94 : UInt8) ∉ pl (L.getD j []) := fun j hj => by
    have := pl_mem hj
    rw [List.getD_eq_getElem?_getD] at this
    cases e : L[j]? with
    | none => rw [e] at this; cases this
    | some x => rw [e] at this; exact hh x (List.mem_of_getElem? e) this
  have hs : ∀ j, (mark L j = pl (L.getD j.toNat []) ++ ([94] ++ Lib.itoa (cnt L j).1)) → (94 : UInt8) ∈ mark L j := fun j e => by rw [e]; simp
  have c1 := cnt_at h
  have c2 := cnt_at (show k < L.length by omega)
  have s1 := same_self h
  have s2 := same_self (show k < L.length by omega)
  have m1 := same_mono L (L.getD i []) (show i + 1 ≤ L.length by omega)
  have m2 := same_mono L (L.getD k []) (show k + 1 ≤ L.length by omega)
  intro he
  unfold mark at he
  rw [c1, c2] at he
  simp only [Int.toNat_natCast] at he
  have ni : ¬ same L (L.getD i []) L.length = 0 := by omega
  have nk : ¬ same L (L.getD k []) L.length = 0 := by omega
  rw [if_neg ni, if_neg nk] at he
  split at he
  · rename_i a1
    split at he
    · have := same_two hk h he
      omega
    · exact hm i (by rw [he]; simp)
  · split at he
    · exact hm k (by rw [← he]; simp)
    · obtain ⟨e1, e2⟩ := split_first (hm i) (hm k) he
      have := itoa_inj e2
      have := same_two hk h e1
      omega

/-! ### Heads -/
theorem joinW_prefix {L : List (List UInt8)} (h : 0 < L.length) : L.getD 0 [] <+: joinW L := by
  unfold joinW
  split
  · rw [List.append_assoc]; exact List.prefix_append _ _
  · cases L with
    | nil => simp at h
    | cons x r => rw [Lib.join_cons]; exact List.prefix_append _ _
theorem joinW_suffix {L : List (List UInt8)} (h : 0 < L.length) : L.getD (L.length - 1) [] <:+ joinW L := by
  unfold joinW
  split
  · exact List.suffix_append _ _
  · have e : L = L.take (L.length - 1) ++ [L.getD (L.length - 1) []] := by
      rw [← take_snoc (show L.length - 1 < L.length by omega), List.take_of_length_le (by omega)]
    by_cases h0 : L.take (L.length - 1) = []
    · rw [h0, List.nil_append] at e
      generalize L.getD (L.length - 1) [] = y at e ⊢
      rw [e, Lib.join_one]
      exact List.suffix_refl _
    · have e2 := join_snoc (L.take (L.length - 1)) (L.getD (L.length - 1) []) [32] h0
      rw [← e] at e2
      rw [e2]
      exact List.suffix_append _ _
theorem marks_get {L : List (List UInt8)} {a b i : Nat} (h : i < b - a) : (marks L a b).getD i [] = mark L ((a + i : Nat) : Int) := by
  unfold marks
  rw [List.getD_eq_getElem?_getD, List.getElem?_map, List.getElem?_range h]
  rfl
theorem headW_of {L : List (List UInt8)} {a b : Nat} (h1 : a < b) (h2 : b ≤ L.length) : headW L a b = joinW (marks L a b) := by
  unfold headW
  rw [if_neg (by omega)]; rfl
theorem headW_one {L : List (List UInt8)} {a : Nat} (h2 : a + 1 ≤ L.length) : headW L a ((a + 1 : Nat) : Int) = mark L (a : Int) := by
  rw [headW_of (by omega) h2, marks_snoc L (Nat.le_refl a), marks_self]
  show joinW [mark L (a : Int)] = _
  rw [joinW, if_neg (by simp), Lib.join_one]
theorem headW_prefix {L : List (List UInt8)} {a b : Nat} (h1 : a < b) (h2 : b ≤ L.length) : (headW L a b).take (mark L (a : Int)).length = mark L (a : Int) ∧ (mark L (a : Int)).length ≤ (headW L a b).length := by
  have h := joinW_prefix (L := marks L a b) (by rw [marks_length]; omega)
  rw [marks_get (by omega), ← headW_of h1 h2, Nat.add_zero] at h
  obtain ⟨t, ht⟩ := h
  rw [← ht]
  simp
theorem headW_suffix {L : List (List UInt8)} {a b : Nat} (h1 : a < b) (h2 : b ≤ L.length) : (headW L a b).drop ((headW L a b).length - (mark L ((b - 1 : Nat) : Int)).length) = mark L ((b - 1 : Nat) : Int) ∧ (mark L ((b - 1 : Nat) : Int)).length ≤ (headW L a b).length := by
  have h := joinW_suffix (L := marks L a b) (by rw [marks_length]; omega)
  rw [marks_length, marks_get (by omega), ← headW_of h1 h2, show a + (b - a - 1) = b - 1 by omega] at h
  obtain ⟨t, ht⟩ := h
  rw [← ht]
  simp
/-- No word stands twice. -/
theorem headW_all {L : List (List UInt8)} (h0 : 0 < L.length) (h : ∀ i, i < L.length → (cnt L (i : Int)).2 = 1) : headW L 0 (L.length : Int) = shortW L := by
  have e : marks L 0 L.length = L.map pl := by
    apply List.ext_getElem?
    intro i
    unfold marks
    rw [List.getElem?_map, List.getElem?_map]
    by_cases hi : i < L.length
    · rw [List.getElem?_range (by omega), List.getElem?_eq_getElem hi]
      simp only [Option.map_some, Nat.zero_add, Option.some.injEq]
      have hc := h i hi
      unfold mark
      rw [hc, if_neg (by omega), if_pos rfl]
      simp [List.getD_eq_getElem?_getD, hi]
    · rw [List.getElem?_eq_none (by rw [List.length_range]; omega), List.getElem?_eq_none (by omega)]
      rfl
  have := headW_of (L := L) (a := 0) (b := L.length) h0 (Nat.le_refl _)
  rw [shortW, ← e]
  exact this
theorem short_stays {L : List (List UInt8)} (h : (L.map pl).map pl = L.map pl) : shortW (L.map pl) = shortW L := by
  rw [shortW, h]; rfl
end Go.Proofs.YtdneiepigllnkaaDoor
