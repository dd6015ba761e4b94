/- The plain law of refs (layer 17): a reference's text, and how it is read. No program in sight. -/
import Derived.Test.YtdneiepigllnkaaDoorLB
import Derived.Lib.AtoiAllCases
import Derived.Lib.IndexMore
import Derived.Lib.AtoiTie
namespace Go.Proofs.YtdneiepigllnkaaDoor
open Go

/-! ### Places -/
structure Rf where
  page : Int
  line : Int
  sub : Int
def rf0 : Rf := ⟨0, 0, 0⟩
theorem Rf.eq_iff {a b : Rf} : a = b ↔ a.page = b.page ∧ a.line = b.line ∧ a.sub = b.sub := by
  cases a; cases b; simp
instance : DecidableEq Rf := fun a b => decidable_of_iff (a.page = b.page ∧ a.line = b.line ∧ a.sub = b.sub) Rf.eq_iff.symm
def okN (n : Int) : Prop := 0 ≤ n ∧ n ≤ 999999
instance (n : Int) : Decidable (okN n) := inferInstanceAs (Decidable (_ ∧ _))
def mayP (r : Rf) : Prop := okN r.page ∧ okN r.line ∧ okN r.sub
instance (r : Rf) : Decidable (mayP r) := inferInstanceAs (Decidable (_ ∧ _ ∧ _))
def lineW (r : Rf) : List UInt8 := if r.sub = 0 then Lib.itoa r.line else Lib.itoa r.line ++ [58] ++ Lib.itoa r.sub
def secondW (a b : Rf) : List UInt8 :=
  if a.page ≠ b.page then [45] ++ Lib.itoa b.page ++ [46] ++ lineW b
  else if a.line ≠ b.line then [45] ++ lineW b
  else if a.sub ≠ b.sub then [45, 58] ++ Lib.itoa b.sub else []
def pageW (a prev : Rf) (has : Bool) : List UInt8 := if has = false ∨ prev.page ≠ a.page then Lib.itoa a.page ++ [46] else []
/-- No reference. -/
def noneW (a b prev : Rf) (has : Bool) : Prop := ¬ mayP a ∨ ¬ mayP b ∨ has = true ∧ ¬ mayP prev ∨ has = true ∧ a = b ∧ a = prev
instance (a b prev : Rf) (has : Bool) : Decidable (noneW a b prev has) := inferInstanceAs (Decidable (_ ∨ _ ∨ _ ∨ _))
def fmtW (a b prev : Rf) (has : Bool) : List UInt8 := if noneW a b prev has then [] else pageW a prev has ++ lineW a ++ secondW a b

/-! ### Digits -/
def dig (c : UInt8) : Prop := 48 ≤ c.toNat ∧ c.toNat ≤ 57
theorem dec_dig (n : Nat) : ∀ c ∈ Lib.decDigits n, dig c := by
  induction n using Nat.strongRecOn with
  | ind n ih =>
    intro c hc
    by_cases h : n < 10
    · rw [Lib.decDigits_one h] at hc
      simp only [List.mem_cons, List.mem_nil_iff, or_false] at hc
      rw [hc, dig, digit_toNat h]; omega
    · rw [dec_step n h, List.mem_append] at hc
      rcases hc with hc | hc
      · exact ih (n / 10) (by omega) c hc
      · simp only [List.mem_cons, List.mem_nil_iff, or_false] at hc
        rw [hc, dig, digit_toNat (Nat.mod_lt _ (by decide))]; omega
theorem dec_ne (n : Nat) : Lib.decDigits n ≠ [] := by
  have := Lib.nDigits_pos n
  rw [← Lib.decDigits_length] at this
  intro h; rw [h] at this; simp at this
theorem itoa_ok {n : Int} (h : okN n) : Lib.itoa n = Lib.decDigits n.toNat := by
  rw [Lib.itoa, if_neg (by have := h.1; omega)]
theorem itoa_dig {n : Int} (h : okN n) : ∀ c ∈ Lib.itoa n, dig c := by rw [itoa_ok h]; exact dec_dig _
theorem itoa_ne {n : Int} (h : okN n) : Lib.itoa n ≠ [] := by rw [itoa_ok h]; exact dec_ne _
theorem itoa_six {n : Int} (h : okN n) : (Lib.itoa n).length ≤ 6 := by
  rw [itoa_ok h, Lib.decDigits_length]
  exact nDigits_le 5 _ (by have := h.1; have := h.2; omega)
theorem itoa_not {n : Int} (h : okN n) {c : UInt8} (hc : ¬ dig c) : c ∉ Lib.itoa n := fun hm => hc (itoa_dig h c hm)
theorem nd45 : ¬ dig 45 := by unfold dig; decide
theorem nd46 : ¬ dig 46 := by unfold dig; decide
theorem nd58 : ¬ dig 58 := by unfold dig; decide

theorem pu_snoc : ∀ (l : List UInt8) (acc u : Nat) (c : UInt8), Lib.parseUint10 acc l = .ok u → dig c → u < 1000000000000000000 → Lib.parseUint10 acc (l ++ [c]) = .ok (u * 10 + (c.toNat - 48))
  | [], acc, u, c, h, hc, hu => by
    simp only [Lib.parseUint10] at h
    injection h with h
    subst h
    obtain ⟨h1, h2⟩ := hc
    simp only [List.nil_append, Lib.parseUint10]
    rw [if_pos ⟨h1, h2⟩, if_neg (by omega), if_neg (by omega)]
  | x :: l, acc, u, c, h, hc, hu => by
    simp only [List.cons_append, Lib.parseUint10] at h ⊢
    split at h
    · rename_i h1
      rw [if_pos h1]
      split at h
      · cases h
      · rename_i h2
        rw [if_neg h2]
        split at h
        · cases h
        · rename_i h3
          rw [if_neg h3]
          exact pu_snoc l _ u c h hc hu
    · cases h
theorem pu_dec (n : Nat) : n < 1000000000000000000 → Lib.parseUint10 0 (Lib.decDigits n) = .ok n := by
  induction n using Nat.strongRecOn with
  | ind n ih =>
    intro hn
    by_cases h : n < 10
    · rw [Lib.decDigits_one h]
      have := pu_snoc [] 0 0 (UInt8.ofNat (48 + n)) rfl (by rw [dig, digit_toNat h]; omega) (by omega)
      rw [digit_toNat h] at this
      simpa using this
    · have hm := Nat.mod_lt n (show 0 < 10 by decide)
      rw [dec_step n h]
      have := pu_snoc (Lib.decDigits (n / 10)) 0 (n / 10) (UInt8.ofNat (48 + n % 10)) (ih (n / 10) (by omega) (by omega)) (by rw [dig, digit_toNat hm]; omega) (by omega)
      rw [digit_toNat hm] at this
      rw [this]
      congr 1
      omega
theorem atoi_dec {n : Nat} (hn : n < 1000000000000000000) : Lib.atoiAll (Lib.decDigits n) = .ok (n : Int) := by
  cases h : Lib.decDigits n with
  | nil => exact absurd h (dec_ne n)
  | cons c r =>
    have hc : dig c := dec_dig n c (by rw [h]; exact List.mem_cons_self ..)
    obtain ⟨h1, h2⟩ := hc
    rw [Lib.atoiAll_plain c r (by omega) (by omega), Lib.parseMag, if_neg (by simp), ← h, pu_dec n hn]
    rw [Lib.signless, if_neg (by omega)]

/-! ### Cutting -/
theorem index_one_none {c : UInt8} : ∀ {l : List UInt8}, c ∉ l → Lib.index l [c] = -1
  | [], _ => rfl
  | x :: l, h => by
    have h1 : (c == x) = false := beq_eq_false_iff_ne.2 fun e => h (e ▸ List.mem_cons_self ..)
    have h2 := index_one_none (fun m => h (List.mem_cons_of_mem _ m) : c ∉ l)
    simp [Lib.index, List.isPrefixOf, h1, h2]
theorem index_one_hit {c : UInt8} : ∀ {x y : List UInt8}, c ∉ x → Lib.index (x ++ [c] ++ y) [c] = (x.length : Int)
  | [], y, _ => by simp [Lib.index, List.isPrefixOf]
  | z :: x, y, h => by
    have h1 : (c == z) = false := beq_eq_false_iff_ne.2 fun e => h (e ▸ List.mem_cons_self ..)
    have h2 := index_one_hit (y := y) (fun m => h (List.mem_cons_of_mem _ m) : c ∉ x)
    simp only [List.cons_append, Lib.index, List.isPrefixOf, h1, Bool.false_and, Bool.false_eq_true, if_false, h2]
    rw [if_neg (by simp), List.length_cons]
    omega
theorem cut_none {c : UInt8} {l : List UInt8} (h : c ∉ l) : Lib.cut l [c] = (l, [], false) := by
  rw [Lib.cut, index_one_none h, if_neg (by omega)]
theorem cut_hit {c : UInt8} {x y : List UInt8} (h : c ∉ x) : Lib.cut (x ++ [c] ++ y) [c] = (x, y, true) := by
  rw [Lib.cut, index_one_hit h, if_pos (by omega), Int.toNat_natCast]
  congr 1
  · rw [List.append_assoc, List.take_left]
  · congr 1
    rw [show x.length + [c].length = (x ++ [c]).length by simp, List.drop_left]

/-! ### How a reference is read -/
def atV (l : List UInt8) : Int := match Lib.atoiAll l with | .ok v => v | Lib.NumEnd.syntax => 0 | .range => Lib.atoiSat l
def isOk (l : List UInt8) : Bool := match Lib.atoiAll l with | .ok _ => true | _ => false
def numW (l : List UInt8) : Int × Bool := (atV l, isOk l && decide (0 ≤ atV l) && decide (atV l ≤ 999999) && decide (Lib.itoa (atV l) = l))
def placeW (s : List UInt8) (at_ : Rf) : Rf × Bool :=
  let c := Lib.cut s [46]
  let pg := if c.2.2 then (numW c.1).1 else at_.page
  let ok := if c.2.2 then (numW c.1).2 else true
  let d := Lib.cut (if c.2.2 then c.2.1 else s) [58]
  let named := d.1 ≠ [] ∨ d.2.2 = false
  let ln := if named then (numW d.1).1 else at_.line
  let ok2 := if named then ok && (numW d.1).2 else ok
  let sb := if d.2.2 then (numW d.2.1).1 else 0
  (⟨pg, ln, sb⟩, if d.2.2 then ok2 && (numW d.2.1).2 else ok2)
def decP (s : List UInt8) (prev : Rf) : Rf × Rf × Bool :=
  let c := Lib.cut s [45]
  let x := if s ≠ [] then placeW c.1 prev else (prev, true)
  let y := if c.2.2 then placeW c.2.1 x.1 else (x.1, true)
  (x.1, y.1, if c.2.2 then x.2 && y.2 else x.2)
def isRef (s : List UInt8) (a b prev : Rf) (has : Bool) : Prop := (has = true ∨ s ≠ []) ∧ mayP a ∧ mayP b ∧ (has = true → mayP prev) ∧ fmtW a b prev has = s
instance (s : List UInt8) (a b prev : Rf) (has : Bool) : Decidable (isRef s a b prev has) := inferInstanceAs (Decidable (_ ∧ _ ∧ _ ∧ _ ∧ _))
def decW (s : List UInt8) (prev : Rf) (has : Bool) : Rf × Rf × Bool :=
  if (decP s prev).2.2 = true ∧ isRef s (decP s prev).1 (decP s prev).2.1 prev has then ((decP s prev).1, (decP s prev).2.1, true) else (rf0, rf0, false)

theorem numW_itoa {n : Int} (h : okN n) : numW (Lib.itoa n) = (n, true) := by
  have e : Lib.atoiAll (Lib.itoa n) = .ok n := by
    rw [itoa_ok h, atoi_dec (by have := h.1; have := h.2; omega)]
    congr 1
    have := h.1; omega
  have e1 : atV (Lib.itoa n) = n := by rw [atV, e]
  have e2 : isOk (Lib.itoa n) = true := by rw [isOk, e]
  rw [numW, e1, e2]
  have := h.1; have := h.2
  simp [*]
theorem lineW_not {r : Rf} (h : mayP r) {c : UInt8} (hc : ¬ dig c) (h58 : c ≠ 58) : c ∉ lineW r := by
  unfold lineW
  split
  · exact itoa_not h.2.1 hc
  · simp only [List.mem_append, List.mem_cons, List.mem_nil_iff, or_false, not_or]
    exact ⟨⟨itoa_not h.2.1 hc, h58⟩, itoa_not h.2.2 hc⟩
/-- A line's text, behind its page or not. -/
theorem place_line {r at_ : Rf} (h : mayP r) (hp : at_.page = r.page) : placeW (lineW r) at_ = (r, true) := by
  unfold placeW
  simp only [cut_none (lineW_not h nd46 (by decide)), Bool.false_eq_true, if_false]
  unfold lineW
  by_cases hs : r.sub = 0
  · rw [if_pos hs, cut_none (itoa_not h.2.1 nd58)]
    simp only [Bool.false_eq_true, if_false, or_true, if_true, numW_itoa h.2.1, Bool.and_true]
    rw [hp, ← hs]
  · rw [if_neg hs, cut_hit (itoa_not h.2.1 nd58)]
    simp only [itoa_ne h.2.1, ne_eq, not_false_eq_true, true_or, if_true, numW_itoa h.2.1, numW_itoa h.2.2, Bool.and_true]
    rw [hp]
theorem place_page {r at_ : Rf} (h : mayP r) : placeW (Lib.itoa r.page ++ [46] ++ lineW r) at_ = (r, true) := by
  unfold placeW
  simp only [cut_hit (itoa_not h.1 nd46), if_true, numW_itoa h.1]
  unfold lineW
  by_cases hs : r.sub = 0
  · rw [if_pos hs, cut_none (itoa_not h.2.1 nd58)]
    simp only [Bool.false_eq_true, if_false, or_true, if_true, numW_itoa h.2.1, Bool.and_true]
    rw [← hs]
  · rw [if_neg hs, cut_hit (itoa_not h.2.1 nd58)]
    simp only [itoa_ne h.2.1, ne_eq, not_false_eq_true, true_or, if_true, numW_itoa h.2.1, numW_itoa h.2.2, Bool.and_true]
theorem place_sub {r at_ : Rf} (h : mayP r) (hp : at_.page = r.page) (hl : at_.line = r.line) : placeW ([58] ++ Lib.itoa r.sub) at_ = (r, true) := by
  unfold placeW
  have h46 : (46 : UInt8) ∉ [58] ++ Lib.itoa r.sub := by
    simp only [List.mem_append, List.mem_cons, List.mem_nil_iff, or_false, not_or]
    exact ⟨by decide, itoa_not h.2.2 nd46⟩
  have h58 := cut_hit (c := 58) (x := []) (y := Lib.itoa r.sub) (by simp)
  rw [List.nil_append] at h58
  simp only [cut_none h46, Bool.false_eq_true, if_false, h58, ne_eq, not_true_eq_false, reduceCtorEq, or_self, if_true, numW_itoa h.2.2, Bool.and_true]
  rw [hp, hl]
theorem lineW_ne {r : Rf} (h : mayP r) : lineW r ≠ [] := by
  unfold lineW
  split
  · exact itoa_ne h.2.1
  · simp
theorem page_line {a prev at_ : Rf} {has : Bool} (h : mayP a) (hp : at_.page = prev.page) : placeW (pageW a prev has ++ lineW a) at_ = (a, true) := by
  unfold pageW
  split
  · exact place_page h
  · rename_i hn
    rw [List.nil_append]
    exact place_line h (by rw [hp]; exact Classical.byContradiction fun e => hn (.inr e))
theorem pageW_not {a prev : Rf} {has : Bool} (h : mayP a) {c : UInt8} (hc : ¬ dig c) (h46 : c ≠ 46) : c ∉ pageW a prev has := by
  unfold pageW
  split
  · simp only [List.mem_append, List.mem_cons, List.mem_nil_iff, or_false, not_or]
    exact ⟨itoa_not h.1 hc, h46⟩
  · simp
theorem fmtW_some {a b prev : Rf} {has : Bool} (h : ¬ noneW a b prev has) : fmtW a b prev has = pageW a prev has ++ lineW a ++ secondW a b := by rw [fmtW, if_neg h]
theorem fmtW_ne {a b prev : Rf} {has : Bool} (h : ¬ noneW a b prev has) : fmtW a b prev has ≠ [] := by
  rw [fmtW_some h]
  have : mayP a := Classical.byContradiction fun e => h (.inl e)
  have := lineW_ne this
  simp [this]
theorem isRef_none {s : List UInt8} {a b prev : Rf} {has : Bool} (h : isRef s a b prev has) : s = [] ↔ has = true ∧ a = b ∧ a = prev := by
  obtain ⟨h1, h2, h3, h4, h5⟩ := h
  constructor
  · intro e
    by_cases hn : noneW a b prev has
    · rcases hn with hn | hn | ⟨hh, hn⟩ | hn
      · exact absurd h2 hn
      · exact absurd h3 hn
      · exact absurd (h4 hh) hn
      · exact hn
    · exact absurd (h5.trans e) (fmtW_ne hn)
  · intro e
    rw [← h5, fmtW, if_pos (.inr (.inr (.inr e)))]
theorem decP_back {s : List UInt8} {a b prev : Rf} {has : Bool} (h : isRef s a b prev has) : decP s prev = (a, b, true) := by
  have hnil := isRef_none h
  obtain ⟨h1, h2, h3, h4, h5⟩ := h
  by_cases e : s = []
  · obtain ⟨_, rfl, rfl⟩ := hnil.1 e
    subst e
    unfold decP
    have : Lib.cut [] [45] = ([], [], false) := cut_none (by simp)
    simp [this]
  · have hn : ¬ noneW a b prev has := by
      rintro (hn | hn | ⟨hh, hn⟩ | hn)
      · exact hn h2
      · exact hn h3
      · exact hn (h4 hh)
      · exact e (hnil.2 hn)
    rw [fmtW_some hn] at h5
    have n45 : (45 : UInt8) ∉ pageW a prev has ++ lineW a := by
      rw [List.mem_append, not_or]
      exact ⟨pageW_not h2 nd45 (by decide), lineW_not h2 nd45 (by decide)⟩
    have pa : ∀ x : Rf, x.page = prev.page → placeW (pageW a prev has ++ lineW a) x = (a, true) := fun x hx => page_line h2 hx
    unfold decP
    unfold secondW at h5
    by_cases q1 : a.page = b.page
    · rw [if_neg (by simp [q1])] at h5
      by_cases q2 : a.line = b.line
      · rw [if_neg (by simp [q2])] at h5
        by_cases q3 : a.sub = b.sub
        · rw [if_neg (by simp [q3]), List.append_nil] at h5
          have hab : a = b := Rf.eq_iff.2 ⟨q1, q2, q3⟩
          rw [← h5] at e ⊢
          simp only [cut_none n45, ne_eq, e, not_false_eq_true, if_true, Bool.false_eq_true, if_false, pa prev rfl]
          rw [hab]
        · rw [if_pos (by simp [q3]), show ([45, 58] : List UInt8) ++ Lib.itoa b.sub = [45] ++ ([58] ++ Lib.itoa b.sub) by simp, ← List.append_assoc] at h5
          rw [← h5] at e ⊢
          simp only [cut_hit n45, ne_eq, e, not_false_eq_true, if_true, pa prev rfl, place_sub h3 q1 q2, Bool.and_true]
      · rw [if_pos (by simp [q2]), ← List.append_assoc] at h5
        rw [← h5] at e ⊢
        simp only [cut_hit n45, ne_eq, e, not_false_eq_true, if_true, pa prev rfl, place_line h3 q1, Bool.and_true]
    · rw [if_pos (by simp [q1]), show ([45] : List UInt8) ++ Lib.itoa b.page ++ [46] ++ lineW b = [45] ++ (Lib.itoa b.page ++ [46] ++ lineW b) by simp, ← List.append_assoc] at h5
      rw [← h5] at e ⊢
      simp only [cut_hit n45, ne_eq, e, not_false_eq_true, if_true, pa prev rfl, place_page h3, Bool.and_true]
/-- What is read is what has this text. -/
theorem decW_of {s : List UInt8} {a b prev : Rf} {has : Bool} (h : isRef s a b prev has) : decW s prev has = (a, b, true) := by
  have e := decP_back h
  rw [decW, e, if_pos ⟨rfl, h⟩]
theorem decW_no {s : List UInt8} {prev : Rf} {has : Bool} (h : ∀ a b, ¬ isRef s a b prev has) : decW s prev has = (rf0, rf0, false) := by
  rw [decW, if_neg fun hh => h _ _ hh.2]
theorem decW_some {s : List UInt8} {prev : Rf} {has : Bool} {a b : Rf} (h : decW s prev has = (a, b, true)) : isRef s a b prev has := by
  unfold decW at h
  split at h
  · rename_i hh
    simp only [Prod.mk.injEq, and_true] at h
    rw [← h.1, ← h.2]; exact hh.2
  · simp at h
theorem decW_cases (s : List UInt8) (prev : Rf) (has : Bool) : (∃ a b, decW s prev has = (a, b, true) ∧ isRef s a b prev has) ∨ decW s prev has = (rf0, rf0, false) := by
  by_cases h : ∃ a b, isRef s a b prev has
  · obtain ⟨a, b, h⟩ := h
    exact .inl ⟨a, b, decW_of h, h⟩
  · exact .inr (decW_no fun a b hh => h ⟨a, b, hh⟩)
theorem fmt_back {a b prev : Rf} {has : Bool} (h1 : mayP a) (h2 : mayP b) (h3 : has = true → mayP prev) : decW (fmtW a b prev has) prev has = (a, b, true) := by
  refine decW_of ⟨?_, h1, h2, h3, rfl⟩
  by_cases hh : has = true
  · exact .inl hh
  · refine .inr (fmtW_ne ?_)
    rintro (hn | hn | ⟨hx, _⟩ | ⟨hx, _⟩)
    · exact hn h1
    · exact hn h2
    · exact hh hx
    · exact hh hx
theorem lineW_len {r : Rf} (h : mayP r) : (lineW r).length ≤ 13 := by
  have h1 := itoa_six h.2.1
  have h2 := itoa_six h.2.2
  unfold lineW
  split
  · omega
  · simp only [List.length_append, List.length_cons, List.length_nil]; omega
theorem secondW_len {a b : Rf} (h : mayP b) : (secondW a b).length ≤ 21 := by
  have h1 := itoa_six h.1
  have h2 := itoa_six h.2.2
  have h3 := lineW_len h
  unfold secondW
  repeat' split
  all_goals simp only [List.length_append, List.length_cons, List.length_nil]; omega
theorem pageW_len {a prev : Rf} {has : Bool} (h : mayP a) : (pageW a prev has).length ≤ 7 := by
  have h1 := itoa_six h.1
  unfold pageW
  split
  · simp only [List.length_append, List.length_cons, List.length_nil]; omega
  · simp
theorem fmtW_len (a b prev : Rf) (has : Bool) : (fmtW a b prev has).length ≤ 41 := by
  by_cases hn : noneW a b prev has
  · rw [fmtW, if_pos hn]; simp
  · rw [fmtW_some hn]
    have h1 : mayP a := Classical.byContradiction fun e => hn (.inl e)
    have h2 : mayP b := Classical.byContradiction fun e => hn (.inr (.inl e))
    have := lineW_len h1
    have := secondW_len (a := a) h2
    have := pageW_len (prev := prev) (has := has) h1
    simp only [List.length_append]; omega
/-- Of a list. -/
def prevW (L : List Rf) (i : Nat) : Rf := if i = 0 then rf0 else L.getD (2 * (i - 1)) rf0
def refW (L : List Rf) (i : Nat) : List UInt8 := fmtW (L.getD (2 * i) rf0) (L.getD (2 * i + 1) rf0) (prevW L i) (decide (0 < i))
def allW (L : List Rf) : List (List UInt8) := (List.range (L.length / 2)).map (refW L)
end Go.Proofs.YtdneiepigllnkaaDoor
