/- The plain law of the library's stable sort, on a list of numbers that are told apart by where they stood: insertion, rotation, merging in place. No program in sight. -/
import Derived.Test.YtejdeonbibbchaaGreatDoorHa
set_option linter.unusedVariables false
set_option linter.unusedSimpArgs false
set_option linter.constructorNameAsVariable false
namespace Go.Proofs.YtejdeonbibbchaaGreatDoor
set_option linter.unusedVariables false

def gI (xs : List Int) (i : Nat) : Int := xs.getD i 0
/-- Two numbers change places. -/
def swp (xs : List Int) (i j : Nat) : List Int := (xs.set i (gI xs j)).set j (gI xs i)
theorem swp_length (xs : List Int) (i j : Nat) : (swp xs i j).length = xs.length := by simp [swp]
theorem gI_set (xs : List Int) (i : Nat) (v : Int) (k : Nat) (h : i < xs.length) : gI (xs.set i v) k = if k = i then v else gI xs k := by
  unfold gI
  rw [List.getD_eq_getElem?_getD, List.getD_eq_getElem?_getD, List.getElem?_set]
  by_cases hk : i = k
  · subst hk; simp [h]
  · rw [if_neg hk, if_neg (fun e => hk e.symm)]
theorem gI_swp {xs : List Int} {i j : Nat} (hi : i < xs.length) (hj : j < xs.length) (k : Nat) : gI (swp xs i j) k = if k = j then gI xs i else if k = i then gI xs j else gI xs k := by
  rw [swp, gI_set _ _ _ _ (by simpa using hj)]
  split
  · rfl
  · rw [gI_set _ _ _ _ hi]
theorem gI_get {xs : List Int} {i : Nat} (h : i < xs.length) : gI xs i = xs[i] := by
  unfold gI; rw [List.getD_eq_getElem?_getD, List.getElem?_eq_getElem h]; rfl
theorem swp_perm {xs : List Int} {i j : Nat} (hi : i < xs.length) (hj : j < xs.length) : (swp xs i j).Perm xs := by
  rw [swp, gI_get hi, gI_get hj]
  exact List.set_set_perm hi hj

/-- ys is xs but for places a to b, where the same stand in some order. -/
structure Rg (a b : Nat) (xs ys : List Int) : Prop where
  len : ys.length = xs.length
  out : ∀ i, i < a ∨ b ≤ i → gI ys i = gI xs i
  inn : ∀ i, a ≤ i → i < b → ∃ j, a ≤ j ∧ j < b ∧ gI ys i = gI xs j
  perm : ys.Perm xs
theorem Rg.refl (a b : Nat) (xs : List Int) : Rg a b xs xs := ⟨rfl, fun _ _ => rfl, fun i h1 h2 => ⟨i, h1, h2, rfl⟩, .refl _⟩
theorem Rg.trans {a b : Nat} {xs ys zs : List Int} (h : Rg a b xs ys) (k : Rg a b ys zs) : Rg a b xs zs :=
  ⟨k.len.trans h.len, fun i hi => (k.out i hi).trans (h.out i hi), fun i h1 h2 => let ⟨j, a1, a2, a3⟩ := k.inn i h1 h2; let ⟨j', b1, b2, b3⟩ := h.inn j a1 a2; ⟨j', b1, b2, a3.trans b3⟩, k.perm.trans h.perm⟩
theorem Rg.mono {a b a' b' : Nat} {xs ys : List Int} (h : Rg a b xs ys) (h1 : a' ≤ a) (h2 : b ≤ b') : Rg a' b' xs ys :=
  ⟨h.len, fun i hi => h.out i (by omega), fun i k1 k2 => by
    by_cases hi : a ≤ i ∧ i < b
    · obtain ⟨j, a1, a2, a3⟩ := h.inn i hi.1 hi.2
      exact ⟨j, by omega, by omega, a3⟩
    · exact ⟨i, k1, k2, h.out i (by omega)⟩, h.perm⟩
theorem Rg.swp {a b i j : Nat} {xs : List Int} (hi : a ≤ i ∧ i < b) (hj : a ≤ j ∧ j < b) (hb : b ≤ xs.length) : Rg a b xs (swp xs i j) := by
  have h1 : i < xs.length := by omega
  have h2 : j < xs.length := by omega
  refine ⟨swp_length _ _ _, fun k hk => ?_, fun k k1 k2 => ?_, swp_perm h1 h2⟩
  · rw [gI_swp h1 h2, if_neg (by omega), if_neg (by omega)]
  · rw [gI_swp h1 h2]
    split
    · exact ⟨i, hi.1, hi.2, rfl⟩
    · split
      · exact ⟨j, hj.1, hj.2, rfl⟩
      · exact ⟨k, k1, k2, rfl⟩

/-- k places from a on change with those from b on. -/
def swpR (xs : List Int) (a b : Nat) : Nat → List Int
  | 0 => xs
  | k + 1 => swp (swpR xs a b k) (a + k) (b + k)
theorem swpR_length (xs : List Int) (a b : Nat) : ∀ k, (swpR xs a b k).length = xs.length
  | 0 => rfl
  | k + 1 => by rw [swpR, swp_length, swpR_length xs a b k]
theorem gI_swpR {xs : List Int} {a b : Nat} : ∀ (k : Nat), a + k ≤ b → b + k ≤ xs.length → ∀ i, gI (swpR xs a b k) i = if a ≤ i ∧ i < a + k then gI xs (i - a + b) else if b ≤ i ∧ i < b + k then gI xs (i - b + a) else gI xs i
  | 0, _, _, i => by rw [swpR, if_neg (by omega), if_neg (by omega)]
  | k + 1, h1, h2, i => by
    have ih := gI_swpR (xs := xs) (a := a) (b := b) k (by omega) (by omega)
    rw [swpR, gI_swp (by rw [swpR_length]; omega) (by rw [swpR_length]; omega)]
    simp only [ih]
    repeat' split
    all_goals first | rfl | (congr 1 <;> omega) | (exfalso; omega) | exact absurd trivial ‹¬True›
theorem Rg.swpR {A B : Nat} {xs : List Int} {a b : Nat} : ∀ (k : Nat), A ≤ a → a + k ≤ B → A ≤ b → b + k ≤ B → B ≤ xs.length → Rg A B xs (swpR xs a b k)
  | 0, _, _, _, _, _ => Rg.refl _ _ _
  | k + 1, h1, h2, h3, h4, h5 => (Rg.swpR (xs := xs) k h1 (by omega) h3 (by omega) h5).trans (Rg.swp (by omega) (by omega) (by rw [swpR_length]; omega))

/-- i places ahead of m, and j places from m on, change round. -/
def rot (xs : List Int) (m i j : Nat) : List Int :=
  if h : i = j then swpR xs (m - i) m i
  else if h2 : i = 0 ∨ j = 0 then xs
  else if i > j then rot (swpR xs (m - i) m j) m (i - j) j
  else rot (swpR xs (m - i) (m + j - i) i) m i (j - i)
termination_by i + j
decreasing_by all_goals omega
theorem rot_spec : ∀ (n : Nat) (xs : List Int) (m i j : Nat), i + j ≤ n → 0 < i → 0 < j → i ≤ m → m + j ≤ xs.length →
    Rg (m - i) (m + j) xs (rot xs m i j) ∧ ∀ k, gI (rot xs m i j) k = if m - i ≤ k ∧ k < m - i + j then gI xs (k + i) else if m - i + j ≤ k ∧ k < m + j then gI xs (k - j) else gI xs k
  | 0, xs, m, i, j, h, h1, _, _, _ => by omega
  | n + 1, xs, m, i, j, h, h1, h2, h3, h4 => by
    rw [rot]
    by_cases e1 : i = j
    · rw [dif_pos e1]
      refine ⟨Rg.swpR i (by omega) (by omega) (by omega) (by omega) h4, fun k => ?_⟩
      rw [gI_swpR i (by omega) (by omega)]
      repeat' split
      all_goals first | rfl | (congr 1 <;> omega) | (exfalso; omega) | exact absurd trivial ‹¬True›
    · rw [dif_neg e1, dif_neg (by omega)]
      by_cases e2 : i > j
      · rw [if_pos e2]
        obtain ⟨r1, r2⟩ := rot_spec n (swpR xs (m - i) m j) m (i - j) j (by omega) (by omega) h2 (by omega) (by rw [swpR_length]; omega)
        refine ⟨(Rg.swpR j (by omega) (by omega) (by omega) (by omega) h4).trans (r1.mono (by omega) (Nat.le_refl _)), fun k => ?_⟩
        rw [r2]
        have s := gI_swpR (xs := xs) (a := m - i) (b := m) j (by omega) (by omega)
        simp only [s]
        repeat' split
        all_goals first | rfl | (congr 1 <;> omega) | (exfalso; omega) | exact absurd trivial ‹¬True›
      · rw [if_neg e2]
        obtain ⟨r1, r2⟩ := rot_spec n (swpR xs (m - i) (m + j - i) i) m i (j - i) (by omega) h1 (by omega) h3 (by rw [swpR_length]; omega)
        refine ⟨(Rg.swpR i (by omega) (by omega) (by omega) (by omega) h4).trans (r1.mono (Nat.le_refl _) (by omega)), fun k => ?_⟩
        rw [r2]
        have s := gI_swpR (xs := xs) (a := m - i) (b := m + j - i) i (by omega) (by omega)
        simp only [s]
        repeat' split
        all_goals first | rfl | (congr 1 <;> omega) | (exfalso; omega) | exact absurd trivial ‹¬True›

section
variable {lt : Int → Int → Bool}
/-- A search by halves. -/
def BS (f : Nat → Bool) (lo hi : Nat) : Nat := if lo < hi then (if f ((lo + hi) / 2) then BS f ((lo + hi) / 2 + 1) hi else BS f lo ((lo + hi) / 2)) else lo
termination_by hi - lo
decreasing_by all_goals omega
/-- n steps up: what stands at a goes to a + n. -/
def upS (xs : List Int) (a : Nat) : Nat → List Int
  | 0 => xs
  | k + 1 => swp (upS xs a k) (a + k) (a + k + 1)
theorem upS_length (xs : List Int) (a : Nat) : ∀ k, (upS xs a k).length = xs.length
  | 0 => rfl
  | k + 1 => by rw [upS, swp_length, upS_length xs a k]
theorem Rg.upS {A B : Nat} {xs : List Int} {a : Nat} : ∀ (n : Nat), A ≤ a → a + n < B → B ≤ xs.length → Rg A B xs (upS xs a n)
  | 0, _, _, _ => Rg.refl _ _ _
  | n + 1, h1, h2, h3 => (Rg.upS (xs := xs) n h1 (by omega) h3).trans (Rg.swp (by omega) (by omega) (by rw [upS_length]; omega))
/-- n steps down: what stands at m goes to m - n. -/
def dnS (xs : List Int) (m : Nat) : Nat → List Int
  | 0 => xs
  | k + 1 => swp (dnS xs m k) (m - k) (m - k - 1)
theorem dnS_length (xs : List Int) (m : Nat) : ∀ k, (dnS xs m k).length = xs.length
  | 0 => rfl
  | k + 1 => by rw [dnS, swp_length, dnS_length xs m k]
theorem Rg.dnS {A B : Nat} {xs : List Int} {m : Nat} : ∀ (n : Nat), A + n ≤ m → m < B → B ≤ xs.length → Rg A B xs (dnS xs m n)
  | 0, _, _, _ => Rg.refl _ _ _
  | n + 1, h1, h2, h3 => (Rg.dnS (xs := xs) n (by omega) h2 h3).trans (Rg.swp (by omega) (by omega) (by rw [dnS_length]; omega))

/-- Where the halves part. -/
def symStart (lt : Int → Int → Bool) (xs : List Int) (a m b : Nat) : Nat :=
  if m > (a + b) / 2 then BS (fun k => !lt (gI xs ((a + b) / 2 + m - 1 - k)) (gI xs k)) ((a + b) / 2 + m - b) ((a + b) / 2)
  else BS (fun k => !lt (gI xs ((a + b) / 2 + m - 1 - k)) (gI xs k)) a m
/-- Two parts that stand in order become one. -/
def symM (lt : Int → Int → Bool) : Nat → List Int → Nat → Nat → Nat → List Int
  | 0, xs, _, _, _ => xs
  | n + 1, xs, a, m, b =>
    if m = a + 1 then upS xs a (BS (fun h => lt (gI xs h) (gI xs a)) m b - 1 - a)
    else if b = m + 1 then dnS xs m (m - BS (fun h => !lt (gI xs m) (gI xs h)) a m)
    else
      let mid := (a + b) / 2
      let st := symStart lt xs a m b
      let e := mid + m - st
      let xs1 := if st < m ∧ m < e then rot xs m (m - st) (e - m) else xs
      let xs2 := if a < st ∧ st < mid then symM lt n xs1 a st mid else xs1
      if mid < e ∧ e < b then symM lt n xs2 mid e b else xs2

end
end Go.Proofs.YtejdeonbibbchaaGreatDoor
