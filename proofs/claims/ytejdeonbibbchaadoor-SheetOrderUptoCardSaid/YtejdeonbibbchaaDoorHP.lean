/- The plain law of the library's stable sort, on a list of numbers that are told apart by where they stood: insertion, rotation, merging in place. No program in sight. -/
import Derived.Test.YtejdeonbibbchaaDoorHa
set_option linter.unusedVariables false
set_option linter.unusedSimpArgs false
set_option linter.constructorNameAsVariable false
namespace Go.Proofs.YtejdeonbibbchaaDoor
set_option linter.unusedSimpArgs false
set_option linter.constructorNameAsVariable false
set_option linter.unusedVariables false

def gI (xs : List Int) (i : Nat) : Int := xs.getD i 0
/-- Two numbers change places. -/
def swp (xs : List Int) (i j : Nat) : List Int := (xs.set i (gI xs j)).set j (gI xs i)
theorem swp_length (xs : List Int) (i j : Nat) : (swp xs i j).length = xs.length := by simp [swp]
theorem gI_set (xs : List Int) (i : Nat) (v : Int) (k : Nat) (h : i < xs.length) : gI (xs.set i v) k = if k = i then v else gI xs k := by
  unfold gI
  rw [List.getD_eq_getElem?_getD, List.getD_eq_getElem?_getD, List.getElem?_set]
  by_cases hk : i = k
  · subst hk; simp [h]
  · rw [if_neg hk, if_neg (fun e => hk e.symm)]
theorem gI_swp {xs : List Int} {i j : Nat} (hi : i < xs.length) (hj : j < xs.length) (k : Nat) : gI (swp xs i j) k = if k = j then gI xs i else if k = i then gI xs j else gI xs k := by
  rw [swp, gI_set _ _ _ _ (by simpa using hj)]
  split
  · rfl
  · rw [gI_set _ _ _ _ hi]
theorem gI_get {xs : List Int} {i : Nat} (h : i < xs.length) : gI xs i = xs[i] := by
  unfold gI; rw [List.getD_eq_getElem?_getD, List.getElem?_eq_getElem h]; rfl
theorem swp_perm {xs : List Int} {i j : Nat} (hi : i < xs.length) (hj : j < xs.length) : (swp xs i j).Perm xs := by
  rw [swp, gI_get hi, gI_get hj]
  exact List.set_set_perm hi hj

/-- ys is xs but for places a to b, where the same stand in some order. -/
structure Rg (a b : Nat) (xs ys : List Int) : Prop where
  len : ys.length = xs.length
  out : ∀ i, i < a ∨ b ≤ i → gI ys i = gI xs i
  inn : ∀ i, a ≤ i → i < b → ∃ j, a ≤ j ∧ j < b ∧ gI ys i = gI xs j
  perm : ys.Perm xs
theorem Rg.refl (a b : Nat) (xs : List Int) : Rg a b xs xs := ⟨rfl, fun _ _ => rfl, fun i h1 h2 => ⟨i, h1, h2, rfl⟩, .refl _⟩
theorem Rg.trans {a b : Nat} {xs ys zs : List Int} (h : Rg a b xs ys) (k : Rg a b ys zs) : Rg a b xs zs :=
  ⟨k.len.trans h.len, fun i hi => (k.out i hi).trans (h.out i hi), fun i h1 h2 => let ⟨j, a1, a2, a3⟩ := k.inn i h1 h2; let ⟨j', b1, b2, b3⟩ := h.inn j a1 a2; ⟨j', b1, b2, a3.trans b3⟩, k.perm.trans h.perm⟩
theorem Rg.mono {a b a' b' : Nat} {xs ys : List Int} (h : Rg a b xs ys) (h1 : a' ≤ a) (h2 : b ≤ b') : Rg a' b' xs ys :=
  ⟨h.len, fun i hi => h.out i (by omega), fun i k1 k2 => by
    by_cases hi : a ≤ i ∧ i < b
    · obtain ⟨j, a1, a2, a3⟩ := h.inn i hi.1 hi.2
      exact ⟨j, by omega, by omega, a3⟩
    · exact ⟨i, k1, k2, h.out i (by omega)⟩, h.perm⟩
theorem Rg.swp {a b i j : Nat} {xs : List Int} (hi : a ≤ i ∧ i < b) (hj : a ≤ j ∧ j < b) (hb : b ≤ xs.length) : Rg a b xs (swp xs i j) := by
  have h1 : i < xs.length := by omega
  have h2 : j < xs.length := by omega
  refine ⟨swp_length _ _ _, fun k hk => ?_, fun k k1 k2 => ?_, swp_perm h1 h2⟩
  · rw [gI_swp h1 h2, if_neg (by omega), if_neg (by omega)]
  · rw [gI_swp h1 h2]
    split
    · exact ⟨i, hi.1, hi.2, rfl⟩
    · split
      · exact ⟨j, hj.1, hj.2, rfl⟩
      · exact ⟨k, k1, k2, rfl⟩

/-- k places from a on change with those from b on. -/
def swpR (xs : List Int) (a b : Nat) : Nat → List Int
  | 0 => xs
  | k + 1 => swp (swpR xs a b k) (a + k) (b + k)
theorem swpR_length (xs : List Int) (a b : Nat) : ∀ k, (swpR xs a b k).length = xs.length
  | 0 => rfl
  | k + 1 => by rw [swpR, swp_length, swpR_length xs a b k]
theorem gI_swpR {xs : List Int} {a b : Nat} : ∀ (k : Nat), a + k ≤ b → b + k ≤ xs.length → ∀ i, gI (swpR xs a b k) i = if a ≤ i ∧ i < a + k then gI xs (i - a + b) else if b ≤ i ∧ i < b + k then gI xs (i - b + a) else gI xs i
  | 0, _, _, i => by rw [swpR, if_neg (by omega), if_neg (by omega)]
  | k + 1, h1, h2, i => by
    have ih := gI_swpR (xs := xs) (a := a) (b := b) k (by omega) (by omega)
    rw [swpR, gI_swp (by rw [swpR_length]; omega) (by rw [swpR_length]; omega)]
    simp only [ih]
    repeat' split
    all_goals first | rfl | (congr 1 <;> omega) | (exfalso; omega) | exact absurd trivial ‹¬True›
theorem Rg.swpR {A B : Nat} {xs : List Int} {a b : Nat} : ∀ (k : Nat), A ≤ a → a + k ≤ B → A ≤ b → b + k ≤ B → B ≤ xs.length → Rg A B xs (swpR xs a b k)
  | 0, _, _, _, _, _ => Rg.refl _ _ _
  | k + 1, h1, h2, h3, h4, h5 => (Rg.swpR (xs := xs) k h1 (by omega) h3 (by omega) h5).trans (Rg.swp (by omega) (by omega) (by rw [swpR_length]; omega))

/-- i places ahead of m, and j places from m on, change round. -/
def rot (xs : List Int) (m i j : Nat) : List Int :=
  if h : i = j then swpR xs (m - i) m i
  else if h2 : i = 0 ∨ j = 0 then xs
  else if i > j then rot (swpR xs (m - i) m j) m (i - j) j
  else rot (swpR xs (m - i) (m + j - i) i) m i (j - i)
termination_by i + j
decreasing_by all_goals omega
theorem rot_spec : ∀ (n : Nat) (xs : List Int) (m i j : Nat), i + j ≤ n → 0 < i → 0 < j → i ≤ m → m + j ≤ xs.length →
    Rg (m - i) (m + j) xs (rot xs m i j) ∧ ∀ k, gI (rot xs m i j) k = if m - i ≤ k ∧ k < m - i + j then gI xs (k + i) else if m - i + j ≤ k ∧ k < m + j then gI xs (k - j) else gI xs k
  | 0, xs, m, i, j, h, h1, _, _, _ => by omega
  | n + 1, xs, m, i, j, h, h1, h2, h3, h4 => by
    rw [rot]
    by_cases e1 : i = j
    · rw [dif_pos e1]
      refine ⟨Rg.swpR i (by omega) (by omega) (by omega) (by omega) h4, fun k => ?_⟩
      rw [gI_swpR i (by omega) (by omega)]
      repeat' split
      all_goals first | rfl | (congr 1 <;> omega) | (exfalso; omega) | exact absurd trivial ‹¬True›
    · rw [dif_neg e1, dif_neg (by omega)]
      by_cases e2 : i > j
      · rw [if_pos e2]
        obtain ⟨r1, r2⟩ := rot_spec n (swpR xs (m - i) m j) m (i - j) j (by omega) (by omega) h2 (by omega) (by rw [swpR_length]; omega)
        refine ⟨(Rg.swpR j (by omega) (by omega) (by omega) (by omega) h4).trans (r1.mono (by omega) (Nat.le_refl _)), fun k => ?_⟩
        rw [r2]
        have s := gI_swpR (xs := xs) (a := m - i) (b := m) j (by omega) (by omega)
        simp only [s]
        repeat' split
        all_goals first | rfl | (congr 1 <;> omega) | (exfalso; omega) | exact absurd trivial ‹¬True›
      · rw [if_neg e2]
        obtain ⟨r1, r2⟩ := rot_spec n (swpR xs (m - i) (m + j - i) i) m i (j - i) (by omega) h1 (by omega) h3 (by rw [swpR_length]; omega)
        refine ⟨(Rg.swpR i (by omega) (by omega) (by omega) (by omega) h4).trans (r1.mono (Nat.le_refl _) (by omega)), fun k => ?_⟩
        rw [r2]
        have s := gI_swpR (xs := xs) (a := m - i) (b := m + j - i) i (by omega) (by omega)
        simp only [s]
        repeat' split
        all_goals first | rfl | (congr 1 <;> omega) | (exfalso; omega) | exact absurd trivial ‹¬True›

/-- What is ahead stands in strict order of keys: a number is ahead of another one by lt, or, if neither is, by its own size. -/
structure Ord (lt : Int → Int → Bool) : Prop where
  irr : ∀ x, lt x x = false
  tr : ∀ x y z, lt x y = true → lt y z = true → lt x z = true
  co : ∀ x y z, lt x z = true → lt x y = true ∨ lt y z = true
def pre (lt : Int → Int → Bool) (x y : Int) : Prop := lt x y = true ∨ (lt y x = false ∧ x < y)
section
variable {lt : Int → Int → Bool}
theorem Ord.asym (O : Ord lt) {x y : Int} (h : lt x y = true) : lt y x = false := by
  cases h2 : lt y x with
  | false => rfl
  | true => have := O.tr x y x h h2; rw [O.irr] at this; cases this
theorem pre_tr (O : Ord lt) {x y z : Int} (h : pre lt x y) (k : pre lt y z) : pre lt x z := by
  rcases h with h | ⟨h1, h2⟩
  · rcases k with k | ⟨k1, k2⟩
    · exact .inl (O.tr _ _ _ h k)
    · rcases O.co x z y h with h3 | h3
      · exact .inl h3
      · rw [k1] at h3; cases h3
  · rcases k with k | ⟨k1, k2⟩
    · rcases O.co y x z k with h3 | h3
      · rw [h1] at h3; cases h3
      · exact .inl h3
    · refine .inr ⟨?_, by omega⟩
      cases h3 : lt z x with
      | false => rfl
      | true =>
        rcases O.co z y x h3 with h4 | h4
        · rw [k1] at h4; cases h4
        · rw [h1] at h4; cases h4
theorem pre_of_lt (O : Ord lt) {x y : Int} (h : x < y) : pre lt x y ↔ lt y x = false := by
  constructor
  · rintro (h1 | h1)
    · exact O.asym h1
    · exact h1.1
  · exact fun h1 => .inr ⟨h1, h⟩
theorem pre_of_gt {x y : Int} (h : x < y) : pre lt y x ↔ lt y x = true := by
  constructor
  · rintro (h1 | h1)
    · exact h1
    · exact absurd h1.2 (by omega)
  · exact .inl

/-- A search by halves. -/
def BS (f : Nat → Bool) (lo hi : Nat) : Nat := if lo < hi then (if f ((lo + hi) / 2) then BS f ((lo + hi) / 2 + 1) hi else BS f lo ((lo + hi) / 2)) else lo
termination_by hi - lo
decreasing_by all_goals omega
theorem BS_spec (f : Nat → Bool) : ∀ (n lo hi : Nat), hi - lo ≤ n → lo ≤ hi → (∀ i j, lo ≤ i → i < j → j < hi → f j = true → f i = true) →
    lo ≤ BS f lo hi ∧ BS f lo hi ≤ hi ∧ (∀ i, lo ≤ i → i < BS f lo hi → f i = true) ∧ (∀ i, BS f lo hi ≤ i → i < hi → f i = false)
  | n, lo, hi, hn, hle, hm => by
    rw [BS]
    by_cases h : lo < hi
    · rw [if_pos h]
      cases n with
      | zero => omega
      | succ n =>
        by_cases hf : f ((lo + hi) / 2) = true
        · rw [if_pos hf]
          obtain ⟨a1, a2, a3, a4⟩ := BS_spec f n ((lo + hi) / 2 + 1) hi (by omega) (by omega) fun i j h1 h2 h3 => hm i j (by omega) h2 h3
          refine ⟨by omega, a2, fun i h1 h2 => ?_, a4⟩
          by_cases h3 : (lo + hi) / 2 + 1 ≤ i
          · exact a3 i h3 h2
          · by_cases h4 : i = (lo + hi) / 2
            · rw [h4]; exact hf
            · exact hm i ((lo + hi) / 2) h1 (by omega) (by omega) hf
        · rw [if_neg hf]
          obtain ⟨a1, a2, a3, a4⟩ := BS_spec f n lo ((lo + hi) / 2) (by omega) (by omega) fun i j h1 h2 h3 => hm i j h1 h2 (by omega)
          refine ⟨a1, by omega, a3, fun i h1 h2 => ?_⟩
          by_cases h3 : i < (lo + hi) / 2
          · exact a4 i h1 h3
          · cases hi' : f i with
            | false => rfl
            | true =>
              by_cases h4 : i = (lo + hi) / 2
              · rw [h4] at hi'; exact absurd hi' hf
              · exact absurd (hm ((lo + hi) / 2) i (by omega) (by omega) h2 hi') hf
    · rw [if_neg h]
      exact ⟨Nat.le_refl _, hle, fun i h1 h2 => by omega, fun i h1 h2 => by omega⟩

/-- n steps up: what stands at a goes to a + n. -/
def upS (xs : List Int) (a : Nat) : Nat → List Int
  | 0 => xs
  | k + 1 => swp (upS xs a k) (a + k) (a + k + 1)
theorem upS_length (xs : List Int) (a : Nat) : ∀ k, (upS xs a k).length = xs.length
  | 0 => rfl
  | k + 1 => by rw [upS, swp_length, upS_length xs a k]
theorem gI_upS {xs : List Int} {a : Nat} : ∀ (n : Nat), a + n < xs.length → ∀ i, gI (upS xs a n) i = if a ≤ i ∧ i < a + n then gI xs (i + 1) else if i = a + n then gI xs a else gI xs i
  | 0, _, i => by rw [upS]; repeat' split
                  all_goals first | rfl | (congr 1 <;> omega) | (exfalso; omega) | exact absurd trivial ‹¬True›
  | n + 1, h, i => by
    have ih := gI_upS (xs := xs) (a := a) n (by omega)
    rw [upS, gI_swp (by rw [upS_length]; omega) (by rw [upS_length]; omega)]
    simp only [ih]
    repeat' split
    all_goals first | rfl | (congr 1 <;> omega) | (exfalso; omega) | exact absurd trivial ‹¬True›
theorem Rg.upS {A B : Nat} {xs : List Int} {a : Nat} : ∀ (n : Nat), A ≤ a → a + n < B → B ≤ xs.length → Rg A B xs (upS xs a n)
  | 0, _, _, _ => Rg.refl _ _ _
  | n + 1, h1, h2, h3 => (Rg.upS (xs := xs) n h1 (by omega) h3).trans (Rg.swp (by omega) (by omega) (by rw [upS_length]; omega))
/-- n steps down: what stands at m goes to m - n. -/
def dnS (xs : List Int) (m : Nat) : Nat → List Int
  | 0 => xs
  | k + 1 => swp (dnS xs m k) (m - k) (m - k - 1)
theorem dnS_length (xs : List Int) (m : Nat) : ∀ k, (dnS xs m k).length = xs.length
  | 0 => rfl
  | k + 1 => by rw [dnS, swp_length, dnS_length xs m k]
theorem gI_dnS {xs : List Int} {m : Nat} (hm : m < xs.length) : ∀ (n : Nat), n ≤ m → ∀ i, gI (dnS xs m n) i = if m - n < i ∧ i ≤ m then gI xs (i - 1) else if i = m - n then gI xs m else gI xs i
  | 0, _, i => by rw [dnS]; repeat' split
                  all_goals first | rfl | (congr 1 <;> omega) | (exfalso; omega) | exact absurd trivial ‹¬True›
  | n + 1, h, i => by
    have ih := gI_dnS (xs := xs) hm n (by omega)
    rw [dnS, gI_swp (by rw [dnS_length]; omega) (by rw [dnS_length]; omega)]
    simp only [ih]
    repeat' split
    all_goals first | rfl | (congr 1 <;> omega) | (exfalso; omega) | exact absurd trivial ‹¬True›
theorem Rg.dnS {A B : Nat} {xs : List Int} {m : Nat} : ∀ (n : Nat), A + n ≤ m → m < B → B ≤ xs.length → Rg A B xs (dnS xs m n)
  | 0, _, _, _ => Rg.refl _ _ _
  | n + 1, h1, h2, h3 => (Rg.dnS (xs := xs) n (by omega) h2 h3).trans (Rg.swp (by omega) (by omega) (by rw [dnS_length]; omega))

/-- Places a to b stand in order. -/
def Srt (lt : Int → Int → Bool) (a b : Nat) (xs : List Int) : Prop := ∀ i j, a ≤ i → i < j → j < b → pre lt (gI xs i) (gI xs j)

/-- Where the halves part. -/
def symStart (lt : Int → Int → Bool) (xs : List Int) (a m b : Nat) : Nat :=
  if m > (a + b) / 2 then BS (fun k => !lt (gI xs ((a + b) / 2 + m - 1 - k)) (gI xs k)) ((a + b) / 2 + m - b) ((a + b) / 2)
  else BS (fun k => !lt (gI xs ((a + b) / 2 + m - 1 - k)) (gI xs k)) a m
/-- Two parts that stand in order become one. -/
def symM (lt : Int → Int → Bool) : Nat → List Int → Nat → Nat → Nat → List Int
  | 0, xs, _, _, _ => xs
  | n + 1, xs, a, m, b =>
    if m = a + 1 then upS xs a (BS (fun h => lt (gI xs h) (gI xs a)) m b - 1 - a)
    else if b = m + 1 then dnS xs m (m - BS (fun h => !lt (gI xs m) (gI xs h)) a m)
    else
      let mid := (a + b) / 2
      let st := symStart lt xs a m b
      let e := mid + m - st
      let xs1 := if st < m ∧ m < e then rot xs m (m - st) (e - m) else xs
      let xs2 := if a < st ∧ st < mid then symM lt n xs1 a st mid else xs1
      if mid < e ∧ e < b then symM lt n xs2 mid e b else xs2

theorem symM_spec (O : Ord lt) : ∀ (n : Nat) (xs : List Int) (a m b : Nat), b - a ≤ n → a < m → m < b → b ≤ xs.length → Srt lt a m xs → Srt lt m b xs → (∀ i j, a ≤ i → i < m → m ≤ j → j < b → gI xs i < gI xs j) →
    Rg a b xs (symM lt n xs a m b) ∧ Srt lt a b (symM lt n xs a m b)
  | 0, xs, a, m, b, hn, h1, h2, _, _, _, _ => by omega
  | n + 1, xs, a, m, b, hn, h1, h2, hb, sA, sB, hx => by
    rw [symM]
    by_cases c1 : m = a + 1
    · rw [if_pos c1]
      obtain ⟨b1, b2, b3, b4⟩ := BS_spec (fun h => lt (gI xs h) (gI xs a)) (b - m) m b (Nat.le_refl _) (by omega) fun i j k1 k2 k3 hf => by
        have hia := hx a i (Nat.le_refl _) (by omega) (by omega) (by omega)
        exact (pre_of_gt hia).1 (pre_tr O (sB i j k1 k2 k3) (.inl hf))
      generalize BS (fun h => lt (gI xs h) (gI xs a)) m b = i at *
      refine ⟨Rg.upS _ (Nat.le_refl _) (by omega) hb, fun p q p1 p2 p3 => ?_⟩
      rw [gI_upS _ (by omega), gI_upS _ (by omega)]
      have low : ∀ k, m ≤ k → k < i → pre lt (gI xs k) (gI xs a) := fun k k1 k2 => .inl (b3 k k1 k2)
      have high : ∀ k, i ≤ k → k < b → pre lt (gI xs a) (gI xs k) := fun k k1 k2 => (pre_of_lt O (hx a k (Nat.le_refl _) (by omega) (by omega) k2)).2 (b4 k k1 k2)
      repeat' split
      all_goals first | (exfalso; omega) | exact sB _ _ (by omega) (by omega) (by omega) | exact low _ (by omega) (by omega) | exact high _ (by omega) (by omega)
    · rw [if_neg c1]
      by_cases c2 : b = m + 1
      · rw [if_pos c2]
        obtain ⟨b1, b2, b3, b4⟩ := BS_spec (fun h => !lt (gI xs m) (gI xs h)) (m - a) a m (Nat.le_refl _) (by omega) fun i j k1 k2 k3 hf => by
          have him := hx i m k1 (by omega) (Nat.le_refl _) (by omega)
          have hjm := hx j m (by omega) (by omega) (Nat.le_refl _) (by omega)
          have := (pre_of_lt O him).1 (pre_tr O (sA i j k1 k2 k3) ((pre_of_lt O hjm).2 (by simpa using hf)))
          simp [this]
        generalize BS (fun h => !lt (gI xs m) (gI xs h)) a m = i at *
        refine ⟨Rg.dnS _ (by omega) h2 hb, fun p q p1 p2 p3 => ?_⟩
        rw [gI_dnS (by omega) _ (by omega), gI_dnS (by omega) _ (by omega)]
        have low : ∀ k, a ≤ k → k < i → pre lt (gI xs k) (gI xs m) := fun k k1 k2 => (pre_of_lt O (hx k m k1 (by omega) (Nat.le_refl _) (by omega))).2 (by simpa using b3 k k1 k2)
        have high : ∀ k, i ≤ k → k < m → pre lt (gI xs m) (gI xs k) := fun k k1 k2 => .inl (by simpa using b4 k k1 k2)
        repeat' split
        all_goals first | (exfalso; omega) | exact sA _ _ (by omega) (by omega) (by omega) | exact low _ (by omega) (by omega) | exact high _ (by omega) (by omega)
      · rw [if_neg c2]
        generalize hmid : (a + b) / 2 = mid
        have hst : ∃ lo hi, (m > mid ∧ lo = mid + m - b ∧ hi = mid ∨ ¬ m > mid ∧ lo = a ∧ hi = m) ∧ symStart lt xs a m b = BS (fun k => !lt (gI xs (mid + m - 1 - k)) (gI xs k)) lo hi := by
          rw [symStart, hmid]
          by_cases h : m > mid
          · exact ⟨_, _, .inl ⟨h, rfl, rfl⟩, by rw [if_pos h]⟩
          · exact ⟨_, _, .inr ⟨h, rfl, rfl⟩, by rw [if_neg h]⟩
        obtain ⟨lo, hi, hlh, hst⟩ := hst
        obtain ⟨b1, b2, b3, b4⟩ := BS_spec (fun k => !lt (gI xs (mid + m - 1 - k)) (gI xs k)) (hi - lo) lo hi (Nat.le_refl _) (by omega) fun i j k1 k2 k3 hf => by
          have hjj := hx j (mid + m - 1 - j) (by omega) (by omega) (by omega) (by omega)
          have hii := hx i (mid + m - 1 - i) (by omega) (by omega) (by omega) (by omega)
          have p1 := (pre_of_lt O hjj).2 (by simpa using hf)
          have p2 := pre_tr O (sA i j (by omega) k2 (by omega)) (pre_tr O p1 (sB (mid + m - 1 - j) (mid + m - 1 - i) (by omega) (by omega) (by omega)))
          have := (pre_of_lt O hii).1 p2
          simp [this]
        rw [← hst] at b1 b2 b3 b4
        generalize symStart lt xs a m b = st at *
        have yes : ∀ k, lo ≤ k → k < st → pre lt (gI xs k) (gI xs (mid + m - 1 - k)) := fun k k1 k2 => (pre_of_lt O (hx k _ (by omega) (by omega) (by omega) (by omega))).2 (by simpa using b3 k k1 k2)
        have no : ∀ k, st ≤ k → k < hi → pre lt (gI xs (mid + m - 1 - k)) (gI xs k) := fun k k1 k2 => .inl (by simpa using b4 k k1 k2)
        simp only []
        generalize he : mid + m - st = e
        have bnd : a ≤ st ∧ st ≤ m ∧ st ≤ mid ∧ m ≤ e ∧ mid ≤ e ∧ e ≤ b ∧ a < mid ∧ mid < b := by omega
        -- the turn
        have R1 : Rg a b xs (if st < m ∧ m < e then rot xs m (m - st) (e - m) else xs) ∧ ∀ k, gI (if st < m ∧ m < e then rot xs m (m - st) (e - m) else xs) k = if st ≤ k ∧ k < mid then gI xs (k + (m - st)) else if mid ≤ k ∧ k < e then gI xs (k - (e - m)) else gI xs k := by
          by_cases hr : st < m ∧ m < e
          · rw [if_pos hr]
            obtain ⟨r1, r2⟩ := rot_spec _ xs m (m - st) (e - m) (Nat.le_refl _) (by omega) (by omega) (by omega) (by omega)
            refine ⟨r1.mono (by omega) (by omega), fun k => ?_⟩
            rw [r2]
            repeat' split
            all_goals first | rfl | (congr 1 <;> omega) | (exfalso; omega) | exact absurd trivial ‹¬True›
          · rw [if_neg hr]
            refine ⟨Rg.refl _ _ _, fun k => ?_⟩
            repeat' split
            all_goals first | rfl | (congr 1 <;> omega) | (exfalso; omega) | exact absurd trivial ‹¬True›
        obtain ⟨R1, g1⟩ := R1
        generalize (if st < m ∧ m < e then rot xs m (m - st) (e - m) else xs) = xs1 at *
        have lA1 : Srt lt a st xs1 := fun i j k1 k2 k3 => by
          rw [g1, g1, if_neg (by omega), if_neg (by omega), if_neg (by omega), if_neg (by omega)]
          exact sA i j k1 k2 (by omega)
        have lB1 : Srt lt st mid xs1 := fun i j k1 k2 k3 => by
          rw [g1, g1, if_pos (by omega), if_pos (by omega)]
          exact sB _ _ (by omega) (by omega) (by omega)
        have lA2 : Srt lt mid e xs1 := fun i j k1 k2 k3 => by
          rw [g1, g1, if_neg (by omega), if_pos (by omega), if_neg (by omega), if_pos (by omega)]
          exact sA _ _ (by omega) (by omega) (by omega)
        have lB2 : Srt lt e b xs1 := fun i j k1 k2 k3 => by
          rw [g1, g1, if_neg (by omega), if_neg (by omega), if_neg (by omega), if_neg (by omega)]
          exact sB _ _ (by omega) (by omega) (by omega)
        have cross : ∀ p q, a ≤ p → p < mid → mid ≤ q → q < b → pre lt (gI xs1 p) (gI xs1 q) := fun p q p1 p2 q1 q2 => by
          have chA : ∀ i j, a ≤ i → i ≤ j → j < m → ∀ z, pre lt (gI xs j) z → pre lt (gI xs i) z := fun i j k1 k2 k3 z hz => by
            by_cases h : i = j
            · rw [h]; exact hz
            · exact pre_tr O (sA i j k1 (by omega) k3) hz
          have chB : ∀ i j, m ≤ i → i ≤ j → j < b → ∀ z, pre lt z (gI xs i) → pre lt z (gI xs j) := fun i j k1 k2 k3 z hz => by
            by_cases h : i = j
            · rw [← h]; exact hz
            · exact pre_tr O hz (sB i j k1 (by omega) k3)
          have chA' : ∀ i j, a ≤ i → i ≤ j → j < m → ∀ z, pre lt z (gI xs i) → pre lt z (gI xs j) := fun i j k1 k2 k3 z hz => by
            by_cases h : i = j
            · rw [← h]; exact hz
            · exact pre_tr O hz (sA i j k1 (by omega) k3)
          have chB' : ∀ i j, m ≤ i → i ≤ j → j < b → ∀ z, pre lt (gI xs j) z → pre lt (gI xs i) z := fun i j k1 k2 k3 z hz => by
            by_cases h : i = j
            · rw [h]; exact hz
            · exact pre_tr O (sB i j k1 (by omega) k3) hz
          rw [g1, g1]
          rw [if_neg (show ¬ (st ≤ q ∧ q < mid) by omega), if_neg (show ¬ (mid ≤ p ∧ p < e) by omega)]
          by_cases d1 : st ≤ p ∧ p < mid
          · rw [if_pos d1]
            by_cases d2 : mid ≤ q ∧ q < e
            · rw [if_pos d2]
              have := no st (Nat.le_refl _) (by omega)
              rw [show mid + m - 1 - st = e - 1 by omega] at this
              exact chA' st _ (by omega) (by omega) (by omega) _ (chB' _ (e - 1) (by omega) (by omega) (by omega) _ this)
            · rw [if_neg d2]
              exact sB _ _ (by omega) (by omega) (by omega)
          · rw [if_neg d1]
            by_cases d2 : mid ≤ q ∧ q < e
            · rw [if_pos d2]
              exact sA _ _ (by omega) (by omega) (by omega)
            · rw [if_neg d2]
              have := yes (st - 1) (by omega) (by omega)
              rw [show mid + m - 1 - (st - 1) = e by omega] at this
              exact chA _ (st - 1) (by omega) (by omega) (by omega) _ (chB e _ (by omega) (by omega) (by omega) _ this)
        have R2 : Rg a mid xs1 (if a < st ∧ st < mid then symM lt n xs1 a st mid else xs1) ∧ Srt lt a mid (if a < st ∧ st < mid then symM lt n xs1 a st mid else xs1) := by
          by_cases hr : a < st ∧ st < mid
          · rw [if_pos hr]
            refine symM_spec O n xs1 a st mid (by omega) hr.1 hr.2 (by rw [R1.len]; omega) lA1 lB1 fun i j k1 k2 k3 k4 => ?_
            rw [g1, g1, if_neg (by omega), if_neg (by omega), if_pos (by omega)]
            exact hx _ _ (by omega) (by omega) (by omega) (by omega)
          · rw [if_neg hr]
            refine ⟨Rg.refl _ _ _, ?_⟩
            by_cases h : a = st
            · rw [h]; exact lB1
            · rw [show mid = st by omega]; exact lA1
        obtain ⟨R2, s2⟩ := R2
        generalize (if a < st ∧ st < mid then symM lt n xs1 a st mid else xs1) = xs2 at *
        have g2 : ∀ k, mid ≤ k → gI xs2 k = gI xs1 k := fun k hk => R2.out k (.inr hk)
        have R3 : Rg mid b xs2 (if mid < e ∧ e < b then symM lt n xs2 mid e b else xs2) ∧ Srt lt mid b (if mid < e ∧ e < b then symM lt n xs2 mid e b else xs2) := by
          have l1 : Srt lt mid e xs2 := fun i j k1 k2 k3 => by rw [g2 i k1, g2 j (by omega)]; exact lA2 i j k1 k2 k3
          have l2 : Srt lt e b xs2 := fun i j k1 k2 k3 => by rw [g2 i (by omega), g2 j (by omega)]; exact lB2 i j k1 k2 k3
          by_cases hr : mid < e ∧ e < b
          · rw [if_pos hr]
            refine symM_spec O n xs2 mid e b (by omega) hr.1 hr.2 (by rw [R2.len, R1.len]; omega) l1 l2 fun i j k1 k2 k3 k4 => ?_
            rw [g2 i k1, g2 j (by omega), g1, g1, if_neg (by omega), if_pos (by omega), if_neg (by omega), if_neg (by omega)]
            exact hx _ _ (by omega) (by omega) (by omega) (by omega)
          · rw [if_neg hr]
            refine ⟨Rg.refl _ _ _, ?_⟩
            by_cases h : mid = e
            · rw [h]; exact l2
            · rw [show b = e by omega]; exact l1
        obtain ⟨R3, s3⟩ := R3
        refine ⟨R1.trans ((R2.mono (a' := a) (b' := b) (Nat.le_refl _) (by omega)).trans (R3.mono (a' := a) (b' := b) (by omega) (Nat.le_refl _))), fun i j k1 k2 k3 => ?_⟩
        by_cases d1 : j < mid
        · rw [R3.out i (.inl (by omega)), R3.out j (.inl d1)]
          exact s2 i j k1 k2 d1
        · by_cases d2 : mid ≤ i
          · exact s3 i j d2 k2 k3
          · rw [R3.out i (.inl (by omega))]
            obtain ⟨j', j1, j2, j3⟩ := R3.inn j (by omega) k3
            obtain ⟨i', i1, i2, i3⟩ := R2.inn i k1 (by omega)
            rw [j3, i3, g2 j' j1]
            exact cross i' j' i1 i2 j1 j2
end
end Go.Proofs.YtejdeonbibbchaaDoor
