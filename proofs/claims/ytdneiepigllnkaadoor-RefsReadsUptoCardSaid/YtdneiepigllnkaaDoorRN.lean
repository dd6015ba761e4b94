/- The plain law of refs (layer 17): a text's numbers; of a reference's text they tell its places. No program in sight. -/
import Derived.Test.YtdneiepigllnkaaDoorRA
namespace Go.Proofs.YtdneiepigllnkaaDoor
open Go

instance (c : UInt8) : Decidable (dig c) := inferInstanceAs (Decidable (_ ∧ _))
def lastN (out : List Int) : Int := out.getD (out.length - 1) 0
def bump (out : List Int) (d : Int) : List Int := if lastN out < 10000000 then out.set (out.length - 1) (10 * lastN out + d) else out
def numStep (st : List Int × Bool) (c : UInt8) : List Int × Bool :=
  if 8 ≤ st.1.length then st else if dig c then (bump (if st.2 then st.1 else st.1 ++ [0]) ((c.toNat : Int) - 48), true) else (st.1, false)
def numF (l : List UInt8) (st : List Int × Bool) : List Int × Bool := l.foldl numStep st
def numsW (l : List UInt8) : List Int := (numF l ([], false)).1
theorem numF_app (x y : List UInt8) (st : List Int × Bool) : numF (x ++ y) st = numF y (numF x st) := List.foldl_append
theorem numF_full (l : List UInt8) (st : List Int × Bool) (h : 8 ≤ st.1.length) : numF l st = st := by
  induction l with
  | nil => rfl
  | cons c l ih =>
    show numF l (numStep st c) = st
    rw [numStep, if_pos h]; exact ih
theorem bump_length (out : List Int) (d : Int) : (bump out d).length = out.length := by
  unfold bump; split <;> simp
theorem lastN_snoc (out : List Int) (x : Int) : lastN (out ++ [x]) = x := by
  unfold lastN
  rw [List.length_append, List.length_cons, List.length_nil, Nat.add_sub_cancel, List.getD_eq_getElem?_getD, List.getElem?_append_right (Nat.le_refl _), Nat.sub_self]
  rfl
theorem bump_snoc (out : List Int) (x d : Int) (h : x < 10000000) : bump (out ++ [x]) d = out ++ [10 * x + d] := by
  unfold bump
  rw [lastN_snoc, if_pos h, List.length_append, List.length_cons, List.length_nil, Nat.add_sub_cancel, List.set_append_right _ _ (Nat.le_refl _), Nat.sub_self]
  rfl
theorem numF_dec (n : Nat) : ∀ out : List Int, n ≤ 999999 → out.length ≤ 6 → numF (Lib.decDigits n) (out, false) = (out ++ [(n : Int)], true) := by
  induction n using Nat.strongRecOn with
  | ind n ih =>
    intro out hn ho
    by_cases h : n < 10
    · rw [Lib.decDigits_one h]
      show numStep (out, false) _ = _
      have hd : dig (UInt8.ofNat (48 + n)) := by rw [dig, digit_toNat h]; omega
      rw [numStep, if_neg (by show ¬ 8 ≤ out.length; omega), if_pos hd]
      simp only [Bool.false_eq_true, if_false]
      rw [bump_snoc _ _ _ (by omega), digit_toNat h]
      congr 3
      omega
    · have hm := Nat.mod_lt n (show 0 < 10 by decide)
      rw [dec_step n h, numF_app, ih (n / 10) (by omega) out (by omega) ho]
      show numStep (out ++ [((n / 10 : Nat) : Int)], true) _ = _
      have hd : dig (UInt8.ofNat (48 + n % 10)) := by rw [dig, digit_toNat hm]; omega
      rw [numStep, if_neg (by simp only [List.length_append, List.length_cons, List.length_nil]; omega), if_pos hd]
      simp only [if_true]
      rw [bump_snoc _ _ _ (by omega), digit_toNat hm]
      congr 3
      omega
theorem numF_itoa {n : Int} (h : okN n) (out : List Int) (ho : out.length ≤ 6) : numF (Lib.itoa n) (out, false) = (out ++ [n], true) := by
  have h0 := h.1; have h1 := h.2
  rw [itoa_ok h, numF_dec _ out (by omega) ho]
  congr 3
  omega
theorem numF_sep {c : UInt8} (hc : ¬ dig c) (out : List Int) (b : Bool) (ho : out.length ≤ 7) : numF [c] (out, b) = (out, false) := by
  show numStep (out, b) c = _
  rw [numStep, if_neg (by show ¬ 8 ≤ out.length; omega), if_neg hc]
def lineN (r : Rf) : List Int := if r.sub = 0 then [r.line] else [r.line, r.sub]
def pageN (a prev : Rf) (has : Bool) : List Int := if has = false ∨ prev.page ≠ a.page then [a.page] else []
def secN (a b : Rf) : List Int := if a.page ≠ b.page then b.page :: lineN b else if a.line ≠ b.line then lineN b else if a.sub ≠ b.sub then [b.sub] else []
theorem lineN_len (r : Rf) : (lineN r).length ≤ 2 := by unfold lineN; split <;> simp
theorem pageN_len (a prev : Rf) (has : Bool) : (pageN a prev has).length ≤ 1 := by unfold pageN; split <;> simp
theorem secN_len (a b : Rf) : (secN a b).length ≤ 3 := by
  have := lineN_len b
  unfold secN
  repeat' split
  all_goals first | omega | (simp only [List.length_cons, List.length_nil]; omega)
theorem numF_line {r : Rf} (h : mayP r) (out : List Int) (ho : out.length ≤ 5) : numF (lineW r) (out, false) = (out ++ lineN r, true) := by
  unfold lineW lineN
  split
  · exact numF_itoa h.2.1 out (by omega)
  · rw [numF_app, numF_app, numF_itoa h.2.1 out (by omega), numF_sep nd58 _ _ (by simp; omega), numF_itoa h.2.2 _ (by simp; omega)]
    simp
theorem numF_page {a prev : Rf} {has : Bool} (h : mayP a) (out : List Int) (ho : out.length ≤ 6) : numF (pageW a prev has) (out, false) = (out ++ pageN a prev has, false) := by
  unfold pageW pageN
  split
  · rw [numF_app, numF_itoa h.1 out (by omega), numF_sep nd46 _ _ (by simp; omega)]
  · simp [numF]
theorem numF_second {a b : Rf} (h : mayP b) (out : List Int) (ho : out.length ≤ 3) : (numF (secondW a b) (out, true)).1 = out ++ secN a b := by
  unfold secondW secN
  split
  · rw [numF_app, numF_app, numF_app, numF_sep nd45 _ _ (by omega), numF_itoa h.1 _ (by omega), numF_sep nd46 _ _ (by simp; omega), numF_line h _ (by simp; omega)]
    simp
  · split
    · rw [numF_app, numF_sep nd45 _ _ (by omega), numF_line h _ (by omega)]
    · split
      · rw [show ([45, 58] : List UInt8) ++ Lib.itoa b.sub = [45] ++ ([58] ++ Lib.itoa b.sub) from rfl, numF_app, numF_app, numF_sep nd45 _ _ (by omega), numF_sep nd58 _ _ (by omega), numF_itoa h.2.2 _ (by omega)]
      · simp [numF]
theorem nums_fmt {a b prev : Rf} {has : Bool} (h : ¬ noneW a b prev has) : numsW (fmtW a b prev has) = pageN a prev has ++ lineN a ++ secN a b := by
  have h1 : mayP a := Classical.byContradiction fun e => h (.inl e)
  have h2 : mayP b := Classical.byContradiction fun e => h (.inr (.inl e))
  have l1 := pageN_len a prev has
  have l2 := lineN_len a
  rw [fmtW_some h, numsW, numF_app, numF_app, numF_page h1 [] (by simp), numF_line h1 _ (by simp; omega), numF_second h2 _ (by simp; omega)]
  simp
theorem nums_six {a b prev : Rf} {has : Bool} (h : ¬ noneW a b prev has) : (numsW (fmtW a b prev has)).length ≤ 6 := by
  have l1 := pageN_len a prev has
  have l2 := lineN_len a
  have l3 := secN_len a b
  rw [nums_fmt h]
  simp only [List.length_append]; omega
/-- The places that are tried. -/
def aC (p q : Nat) (prev : Rf) (N : Nat → Int) : Rf := ⟨if p = 1 then N 0 else prev.page, N p, if q = 1 then N (p + 1) else 0⟩
def wayC (p q k : Nat) (prev : Rf) (N : Nat → Int) : Rf :=
  ([aC p q prev N, ⟨N (p + 1 + q), N (p + 1 + q + 1), N (p + 1 + q + 2)⟩, ⟨N (p + 1 + q), N (p + 1 + q + 1), 0⟩, ⟨(aC p q prev N).page, N (p + 1 + q), N (p + 1 + q + 1)⟩, ⟨(aC p q prev N).page, N (p + 1 + q), 0⟩, ⟨(aC p q prev N).page, (aC p q prev N).line, N (p + 1 + q)⟩] : List Rf).getD k rf0
theorem ref_tried {s : List UInt8} {a b prev : Rf} {has : Bool} (h : isRef s a b prev has) (hs : s ≠ []) : ∃ p q k, p < 2 ∧ q < 2 ∧ k < 6 ∧ aC p q prev (fun i => (numsW s).getD i 0) = a ∧ wayC p q k prev (fun i => (numsW s).getD i 0) = b := by
  have hn : ¬ noneW a b prev has := fun hn => by
    have := h.2.2.2.2
    rw [fmtW, if_pos hn] at this
    exact hs this.symm
  have e := nums_fmt hn
  rw [h.2.2.2.2] at e
  rw [e]
  obtain ⟨ap, al, as⟩ := a
  obtain ⟨bp, bl, bs⟩ := b
  unfold pageN secN lineN
  simp only []
  by_cases hp : has = false ∨ prev.page ≠ ap
  · rw [if_pos hp]
    by_cases hz : as = 0
    · rw [if_pos hz]
      subst hz
      refine ⟨1, 0, ?_⟩
      by_cases e1 : ap = bp
      · by_cases e2 : al = bl
        · by_cases e3 : 0 = bs
          · exact ⟨0, by omega, by omega, by omega, by simp [aC, e1, e2, e3], by simp [aC, wayC, e1, e2, e3]⟩
          · exact ⟨5, by omega, by omega, by omega, by simp [aC, e1, e2, e3], by simp [aC, wayC, e1, e2, e3]⟩
        · by_cases e3 : bs = 0
          · exact ⟨4, by omega, by omega, by omega, by simp [aC, e1, e2, e3], by simp [aC, wayC, e1, e2, e3]⟩
          · exact ⟨3, by omega, by omega, by omega, by simp [aC, e1, e2, e3], by simp [aC, wayC, e1, e2, e3]⟩
      · by_cases e3 : bs = 0
        · exact ⟨2, by omega, by omega, by omega, by simp [aC, e1, e3], by simp [aC, wayC, e1, e3]⟩
        · exact ⟨1, by omega, by omega, by omega, by simp [aC, e1, e3], by simp [aC, wayC, e1, e3]⟩
    · rw [if_neg hz]
      refine ⟨1, 1, ?_⟩
      by_cases e1 : ap = bp
      · by_cases e2 : al = bl
        · by_cases e3 : as = bs
          · exact ⟨0, by omega, by omega, by omega, by simp [aC, e1, e2, e3], by simp [aC, wayC, e1, e2, e3]⟩
          · exact ⟨5, by omega, by omega, by omega, by simp [aC, e1, e2, e3], by simp [aC, wayC, e1, e2, e3]⟩
        · by_cases e3 : bs = 0
          · exact ⟨4, by omega, by omega, by omega, by simp [aC, e1, e2, e3], by simp [aC, wayC, e1, e2, e3]⟩
          · exact ⟨3, by omega, by omega, by omega, by simp [aC, e1, e2, e3], by simp [aC, wayC, e1, e2, e3]⟩
      · by_cases e3 : bs = 0
        · exact ⟨2, by omega, by omega, by omega, by simp [aC, e1, e3], by simp [aC, wayC, e1, e3]⟩
        · exact ⟨1, by omega, by omega, by omega, by simp [aC, e1, e3], by simp [aC, wayC, e1, e3]⟩
  · rw [if_neg hp, List.nil_append]
    have hpp : prev.page = ap := Classical.byContradiction fun e => hp (.inr e)
    by_cases hz : as = 0
    · rw [if_pos hz]
      subst hz
      refine ⟨0, 0, ?_⟩
      by_cases e1 : ap = bp
      · by_cases e2 : al = bl
        · by_cases e3 : 0 = bs
          · exact ⟨0, by omega, by omega, by omega, by simp [aC, hpp, e1, e2, e3], by simp [aC, wayC, hpp, e1, e2, e3]⟩
          · exact ⟨5, by omega, by omega, by omega, by simp [aC, hpp, e1, e2, e3], by simp [aC, wayC, hpp, e1, e2, e3]⟩
        · by_cases e3 : bs = 0
          · exact ⟨4, by omega, by omega, by omega, by simp [aC, hpp, e1, e2, e3], by simp [aC, wayC, hpp, e1, e2, e3]⟩
          · exact ⟨3, by omega, by omega, by omega, by simp [aC, hpp, e1, e2, e3], by simp [aC, wayC, hpp, e1, e2, e3]⟩
      · by_cases e3 : bs = 0
        · exact ⟨2, by omega, by omega, by omega, by simp [aC, hpp, e1, e3], by simp [aC, wayC, hpp, e1, e3]⟩
        · exact ⟨1, by omega, by omega, by omega, by simp [aC, hpp, e1, e3], by simp [aC, wayC, hpp, e1, e3]⟩
    · rw [if_neg hz]
      refine ⟨0, 1, ?_⟩
      by_cases e1 : ap = bp
      · by_cases e2 : al = bl
        · by_cases e3 : as = bs
          · exact ⟨0, by omega, by omega, by omega, by simp [aC, hpp, e1, e2, e3], by simp [aC, wayC, hpp, e1, e2, e3]⟩
          · exact ⟨5, by omega, by omega, by omega, by simp [aC, hpp, e1, e2, e3], by simp [aC, wayC, hpp, e1, e2, e3]⟩
        · by_cases e3 : bs = 0
          · exact ⟨4, by omega, by omega, by omega, by simp [aC, hpp, e1, e2, e3], by simp [aC, wayC, hpp, e1, e2, e3]⟩
          · exact ⟨3, by omega, by omega, by omega, by simp [aC, hpp, e1, e2, e3], by simp [aC, wayC, hpp, e1, e2, e3]⟩
      · by_cases e3 : bs = 0
        · exact ⟨2, by omega, by omega, by omega, by simp [aC, hpp, e1, e3], by simp [aC, wayC, hpp, e1, e3]⟩
        · exact ⟨1, by omega, by omega, by omega, by simp [aC, hpp, e1, e3], by simp [aC, wayC, hpp, e1, e3]⟩
theorem ref_bounds {s : List UInt8} {a b prev : Rf} {has : Bool} (h : isRef s a b prev has) : s.length ≤ 60 ∧ (has = true → mayP prev) ∧ (s ≠ [] → (numsW s).length ≤ 6) := by
  refine ⟨?_, h.2.2.2.1, fun hs => ?_⟩
  · rw [← h.2.2.2.2]
    have := fmtW_len a b prev has
    omega
  · have hn : ¬ noneW a b prev has := fun hn => by
      have := h.2.2.2.2
      rw [fmtW, if_pos hn] at this
      exact hs this.symm
    rw [← h.2.2.2.2]
    exact nums_six hn
/-- What the loop has done. -/
theorem numF_take {l : List UInt8} {i : Nat} (h : i < l.length) (st : List Int × Bool) : numF (l.take (i + 1)) st = numStep (numF (l.take i) st) l[i] := by
  rw [List.take_succ_eq_append_getElem h, numF_app]; rfl
theorem nonneg_bump {out : List Int} {d : Int} (h : ∀ x ∈ out, 0 ≤ x) (hd : 0 ≤ d) : ∀ x ∈ bump out d, 0 ≤ x := by
  unfold bump
  split
  · intro x hx
    rcases List.mem_or_eq_of_mem_set hx with hx | rfl
    · exact h x hx
    · have : 0 ≤ lastN out := by
        unfold lastN
        rw [List.getD_eq_getElem?_getD]
        cases e : out[out.length - 1]? with
        | none => exact Int.le_refl 0
        | some y => exact h y (List.mem_of_getElem? e)
      omega
  · exact h
end Go.Proofs.YtdneiepigllnkaaDoor
