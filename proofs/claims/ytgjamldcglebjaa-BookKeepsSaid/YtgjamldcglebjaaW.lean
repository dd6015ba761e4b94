/- Leaf: the plain law: what a page needs and how many lines fit, when heights rise. No program in sight. -/
import Derived.Test.YtgjamldcglebjaaV
namespace Go.Proofs.Ytgjamldcglebjaa
open Go Go.RowKit Go.Proofs.Ytgjamldcglebjaa.DL
set_option linter.unusedVariables false

theorem mayAt_true {l : List Load} {p : Int} {left : List Int} {a : Area} (h : mayAt l p left a = true) : 0 ≤ p ∧ p ≤ l.length ∧ mayW l left a = true := by
  simp only [mayAt, Bool.and_eq_true, decide_eq_true_eq] at h
  exact h
theorem mayAt_of {l : List Load} {p : Int} {left : List Int} {a : Area} (h0 : 0 ≤ p) (h1 : p ≤ l.length) (h : mayW l left a = true) : mayAt l p left a = true := by
  simp only [mayAt, Bool.and_eq_true, decide_eq_true_eq]
  exact ⟨h0, h1, h⟩
theorem needW_eq {l : List Load} {p n : Int} {left : List Int} {a : Area} (ht : Tens l) (h10 : left.length = 10) (hm : mayAt l p left a = true) (hn : 0 ≤ n) :
    needW l p n left a = nd a.rule (segL l p.toNat (p.toNat + min n.toNat (l.length - p.toNat))) left := by
  obtain ⟨h0, h1, h2⟩ := mayAt_true hm
  have F := mayW_fair ht h10 h2
  have e : min l.length (p.toNat + min n.toNat l.length) = p.toNat + min n.toNat (l.length - p.toNat) := by omega
  have hl := segL_length l p.toNat (p.toNat + min n.toNat (l.length - p.toNat)) (by omega)
  have hk := F.len
  unfold needW
  rw [if_neg (by rintro (h | h); · rw [hm] at h; cases h
                 · omega), e]
  exact (need_eq F.rule.1 F.rule.2 ((F.list ht).seg _ _) (by omega) (row_amt F.left) h10).1
theorem needW_no {l : List Load} {p n : Int} {left : List Int} {a : Area} (hm : mayAt l p left a = false) : needW l p n left a = 0 := by
  unfold needW; rw [if_pos (.inl hm)]
theorem fitW_no {l : List Load} {p : Int} {left : List Int} {a : Area} (hm : mayAt l p left a = false) : fitW l p left a = 0 := by
  unfold fitW; rw [if_pos hm]
theorem fitW_yes {l : List Load} {p : Int} {left : List Int} {a : Area} (hm : mayAt l p left a = true) : fitW l p left a = fitN l p.toNat left a := by
  unfold fitW; rw [if_neg (by rw [hm]; decide)]
theorem fitW_nonneg (l : List Load) (p : Int) (left : List Int) (a : Area) : 0 ≤ fitW l p left a := by
  unfold fitW; split <;> omega
theorem seg_split (l : List Load) (q m n : Nat) (h : m ≤ n) : segL l q (q + n) = segL l q (q + m) ++ segL l (q + m) (q + n) := by
  simp only [segL]
  rw [List.drop_take, List.drop_take, List.drop_take, show q + n - q = m + (n - m) by omega, show q + m - q = m by omega, show q + n - (q + m) = n - m by omega, ← List.drop_drop, List.take_add]
theorem nd_seg {l : List Load} {left : List Int} {a : Area} (F : Fair l left a) (ht : Tens l) (h10 : left.length = 10) (q : Nat) {m n : Nat} (h : m ≤ n) : nd a.rule (segL l q (q + m)) left ≤ nd a.rule (segL l q (q + n)) left := by
  rw [seg_split l q m n h]
  exact nd_append F.rule.1 ((F.list ht).seg _ _) ((F.list ht).seg _ _) h10

theorem need_up (l : List Load) (p n : Int) (left : List Int) (a : Area) (ht : Tens l) (h10 : left.length = 10) (h0 : 0 ≤ n) : needW l p n left a ≤ needW l p (n + 1) left a := by
  cases hm : mayAt l p left a with
  | false => rw [needW_no hm, needW_no hm]; exact Int.le_refl _
  | true =>
    rw [needW_eq ht h10 hm h0, needW_eq ht h10 hm (by omega)]
    exact nd_seg (mayW_fair ht h10 (mayAt_true hm).2.2) ht h10 _ (by omega)
theorem fit_up (l : List Load) (p : Int) (left : List Int) (a a' : Area) (ht : Tens l) (h10 : left.length = 10) (hr : a'.rule = a.rule) (hu : a'.unit = a.unit) (hh : a.height ≤ a'.height) (hh' : a'.height ≤ 1073741823) : fitW l p left a ≤ fitW l p left a' := by
  cases hm : mayAt l p left a with
  | false => rw [fitW_no hm]; exact fitW_nonneg ..
  | true =>
    obtain ⟨h0, h1, h2⟩ := mayAt_true hm
    have hm' : mayAt l p left a' = true := by
      refine mayAt_of h0 h1 ((mayW_iff l left a').2 ?_)
      obtain ⟨k1, k2, k3⟩ := (mayW_iff l left a).1 h2
      have e : amounts l left a' = amounts l left a := by simp only [amounts, hr, hu]
      rw [e]
      refine ⟨?_, k2, k3⟩
      simp only [areaB, Bool.and_eq_true, decide_eq_true_eq, fitsB_iff] at k1 ⊢
      rw [hu]
      omega
    have F := mayW_fair ht h10 h2
    have F' := mayW_fair ht h10 (mayAt_true hm').2.2
    rw [fitW_yes hm, fitW_yes hm', fitN, fitN]
    have hl := segL_length l p.toNat l.length (Nat.le_refl _)
    have := fitGo_mono (f := overW a' left (segL l p.toNat l.length)) (g := overW a left (segL l p.toNat l.length)) (segL l p.toNat l.length).length fun j hj hf => by
      rw [overW_iff F' ht h10 _ _ (by omega), hr] at hf
      rw [overW_iff F ht h10 _ _ (by omega)]
      omega
    omega
theorem fit_zero (l : List Load) (p : Int) (left : List Int) (a : Area) (ht : Tens l) (h10 : left.length = 10) : fitW l p left a ≤ fitW l p zs10 a := by
  cases hm : mayAt l p left a with
  | false => rw [fitW_no hm]; exact fitW_nonneg ..
  | true =>
    obtain ⟨h0, h1, h2⟩ := mayAt_true hm
    have hz := mayW_zero ht h10 h2
    have hm' : mayAt l p zs10 a = true := mayAt_of h0 h1 hz
    have F := mayW_fair ht h10 h2
    have F' := mayW_fair (left := zs10) ht rfl hz
    have hup : Up zs10 left := by
      have := up_zero left (row_amt F.left)
      rw [h10] at this
      exact this
    rw [fitW_yes hm, fitW_yes hm', fitN, fitN]
    have hl := segL_length l p.toNat l.length (Nat.le_refl _)
    have := fitGo_mono (f := overW a zs10 (segL l p.toNat l.length)) (g := overW a left (segL l p.toNat l.length)) (segL l p.toNat l.length).length fun j hj hf => by
      rw [overW_iff F' ht rfl _ _ (by omega)] at hf
      rw [overW_iff F ht h10 _ _ (by omega)]
      have := nd_left F.rule.1 (segL l p.toNat (p.toNat + (j + 1))) hup
      omega
    omega
/-- What fits is not too high. -/
theorem fit_holds {l : List Load} {p : Int} {left : List Int} {a : Area} (ht : Tens l) (h10 : left.length = 10) (hm : mayAt l p left a = true) :
    fitN l p.toNat left a ≤ l.length - p.toNat ∧ (0 < fitN l p.toNat left a → nd a.rule (segL l p.toNat (p.toNat + fitN l p.toNat left a)) left ≤ a.height) ∧
    (fitN l p.toNat left a < l.length - p.toNat → a.height < nd a.rule (segL l p.toNat (p.toNat + (fitN l p.toNat left a + 1))) left) := by
  obtain ⟨h0, h1, h2⟩ := mayAt_true hm
  have F := mayW_fair ht h10 h2
  have hl := segL_length l p.toNat l.length (Nat.le_refl _)
  obtain ⟨f1, f2, f3, f4⟩ := fitGo_spec (overW a left (segL l p.toNat l.length)) (segL l p.toNat l.length).length 0
  rw [← fitN] at f1 f2 f3 f4
  generalize fitN l p.toNat left a = n at f1 f2 f3 f4 ⊢
  refine ⟨by omega, fun hn => ?_, fun hn => ?_⟩
  · have := f3 (n - 1) (Nat.zero_le _) (by omega)
    have hiff := overW_iff F ht h10 p.toNat (n - 1) (by omega)
    rw [this, show n - 1 + 1 = n by omega] at hiff
    rcases Int.lt_or_le a.height (nd a.rule (segL l p.toNat (p.toNat + n)) left) with h | h
    · exact absurd (hiff.2 h) (by decide)
    · exact h
  · have := f4 (by omega)
    exact (overW_iff F ht h10 p.toNat n (by omega)).1 this
theorem need_fit (l : List Load) (p : Int) (left : List Int) (a : Area) (ht : Tens l) (h10 : left.length = 10) : needW l p (fitW l p left a) left a ≤ mx a.height (needW l p 0 left a) := by
  have hmx : a.height ≤ mx a.height (needW l p 0 left a) ∧ needW l p 0 left a ≤ mx a.height (needW l p 0 left a) := by unfold mx; split <;> omega
  cases hm : mayAt l p left a with
  | false =>
    rw [needW_no hm, needW_no hm] at *
    exact hmx.2
  | true =>
    obtain ⟨f1, f2, f3⟩ := fit_holds ht h10 hm
    rw [fitW_yes hm]
    by_cases hn : 0 < fitN l p.toNat left a
    · rw [needW_eq ht h10 hm (by omega), Int.toNat_natCast, Nat.min_eq_left f1]
      have := f2 hn
      omega
    · rw [show fitN l p.toNat left a = 0 by omega]
      exact hmx.2
end Go.Proofs.Ytgjamldcglebjaa
