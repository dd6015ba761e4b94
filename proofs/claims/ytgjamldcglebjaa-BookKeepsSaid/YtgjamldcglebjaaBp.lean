/- Book: the plain law: pages follow one another. No program in sight. -/
import Derived.Test.YtgjamldcglebjaaBc
import Derived.Test.YtgjamldcglebjaaX
namespace Go.Proofs.Ytgjamldcglebjaa
open Go Go.RowKit Go.Proofs.Ytgjamldcglebjaa.DL
set_option linter.unusedVariables false

/-- Pages from line p on, with what is left. -/
inductive Chain (l : List Load) (a : Area) : Nat → List Int → List LeafM → Prop
  | nil : Chain l a l.length zs10 []
  | cons {p : Nat} {left : List Int} {x : LeafM} {n : Nat} {ps : List LeafM} : p < l.length ∨ left ≠ zs10 → takeW l (p : Int) left a = (x, true) → Held l (p : Int) left a x n → Chain l a (p + n) x.left ps → Chain l a p left (x :: ps)

theorem pagesGo_chain (l : List Load) (a : Area) (ht : Tens l) : ∀ (n : Nat) (p : Nat) (left : List Int) (out ps : List LeafM) (at_ : Int), p ≤ l.length → left.length = 10 → n + out.length = 2001 → out.length ≤ 2000 → pagesGo l a n p left out = (ps, (0, at_)) → ∃ rest, ps = out ++ rest ∧ Chain l a p left rest
  | 0, p, left, out, ps, at_, _, _, h1, h2, _ => by omega
  | n + 1, p, left, out, ps, at_, hp, h10, h1, h2, h => by
    rw [pagesGo] at h
    by_cases hgo : (p : Int) < l.length ∨ left ≠ zs10
    · rw [if_pos hgo] at h
      rcases take_held l (p : Int) left a ht h10 with e | ⟨x, m, e, H⟩
      · rw [e] at h
        simp at h
      · rw [e] at h
        rw [if_neg (by simp)] at h
        by_cases hmax : 2000 ≤ out.length
        · rw [if_pos hmax] at h
          simp at h
        · rw [if_neg hmax] at h
          have hend := H.end_
          have hk := H.fair.len
          rw [Int.toNat_natCast] at hend
          have hw : w64 ((p : Int) + x.lines) = ((p + m : Nat) : Int) := by
            rw [H.lines, w64_in (by omega) (by omega)]; omega
          simp only [hw] at h
          obtain ⟨rest, hr, hc⟩ := pagesGo_chain l a ht n (p + m) x.left (out ++ [x]) ps at_ hend H.ten.2 (by simp; omega) (by simp; omega) h
          refine ⟨x :: rest, by rw [hr]; simp, .cons ?_ e H hc⟩
          rcases hgo with hgo | hgo
          · exact .inl (by omega)
          · exact .inr hgo
    · rw [if_neg hgo] at h
      simp only [Prod.mk.injEq] at h
      have hz : left = zs10 := Classical.byContradiction fun hz => hgo (.inr hz)
      have hpe : p = l.length := by
        have : ¬ (p : Int) < l.length := fun h => hgo (.inl h)
        omega
      refine ⟨[], by simp [h.1], ?_⟩
      rw [hz, hpe]; exact .nil
theorem pages_chain {l : List Load} {a : Area} (ht : Tens l) {ps : List LeafM} {at_ : Int} (h : pagesW l a = (ps, (0, at_))) : Chain l a 0 zs10 ps := by
  unfold pagesW at h
  split at h
  · simp at h
  · obtain ⟨rest, hr, hc⟩ := pagesGo_chain l a ht 2001 0 zs10 [] ps at_ (Nat.zero_le _) rfl rfl (by simp) h
    rw [List.nil_append] at hr
    rw [hr]; exact hc

theorem pagesGo_code (l : List Load) (a : Area) : ∀ (n : Nat) (p : Int) (left : List Int) (out : List LeafM), ((pagesGo l a n p left out).2.1 = 0 ∨ (pagesGo l a n p left out).1 = [])
  | 0, _, _, _ => .inl rfl
  | n + 1, p, left, out => by
    rw [pagesGo]
    split
    · split
      · exact .inr rfl
      · split
        · exact .inr rfl
        · exact pagesGo_code l a n _ _ _
    · exact .inl rfl
theorem pages_code (l : List Load) (a : Area) : (pagesW l a).2.1 = 0 ∨ (pagesW l a).1 = [] := by
  unfold pagesW
  split
  · exact .inr rfl
  · exact pagesGo_code ..
theorem pagesGo_ten (l : List Load) (a : Area) (ht : Tens l) : ∀ (n : Nat) (p : Int) (left : List Int) (out : List LeafM), left.length = 10 → TenL out → TenL (pagesGo l a n p left out).1
  | 0, _, _, _, _, h => h
  | n + 1, p, left, out, h10, h => by
    rw [pagesGo]
    split
    · split
      · intro x hx; cases hx
      · split
        · intro x hx; cases hx
        · have hten := takeW_ten l p left a ht h10
          exact pagesGo_ten l a ht n _ _ _ hten.2 (h.snoc hten)
    · exact h
theorem pages_ten (l : List Load) (a : Area) (ht : Tens l) : TenL (pagesW l a).1 := by
  unfold pagesW
  split
  · intro x hx; cases hx
  · exact pagesGo_ten l a ht _ _ _ _ rfl fun x hx => by cases hx
theorem pagesGo_most (l : List Load) (a : Area) : ∀ (n : Nat) (p : Int) (left : List Int) (out : List LeafM), out.length ≤ 2000 → (pagesGo l a n p left out).1.length ≤ 2000
  | 0, _, _, _, h => h
  | n + 1, p, left, out, h => by
    rw [pagesGo]
    split
    · split
      · simp
      · split
        · simp
        · rename_i hn
          exact pagesGo_most l a n _ _ _ (by simp; omega)
    · exact h
theorem pages_most (l : List Load) (a : Area) : (pagesW l a).1.length ≤ 2000 := by
  unfold pagesW
  split
  · simp
  · exact pagesGo_most l a _ _ _ _ (by simp)

/-! ### On which page a line stands -/
theorem Chain.le {l : List Load} {a : Area} {p : Nat} {left : List Int} {ps : List LeafM} (h : Chain l a p left ps) : p ≤ l.length := by
  cases h with
  | nil => exact Nat.le_refl _
  | cons _ _ H _ => have := H.end_; rw [Int.toNat_natCast] at this; omega
theorem Held.on {l : List Load} {p : Nat} {left : List Int} {a : Area} {x : LeafM} {n : Nat} (H : Held l (p : Int) left a x n) (line : Int) (h0 : -1 ≤ line) (h1 : line ≤ l.length) : onB line x = true ↔ (p : Int) ≤ line ∧ line < p + n := by
  have hk := H.fair.len
  have he := H.end_
  rw [Int.toNat_natCast] at he
  simp only [onB, Bool.and_eq_true, decide_eq_true_eq, H.first, H.lines]
  rw [w64_in (by omega) (by omega)]
  omega
/-- Where a line stands: the first page that has it. -/
theorem Chain.find {l : List Load} {a : Area} : ∀ {ps : List LeafM} {p : Nat} {left : List Int}, Chain l a p left ps → ∀ i : Nat, p ≤ i → i < l.length → ∃ k, k < ps.length ∧ onB i (ps.getD k leaf0) = true ∧ (∀ j, j < k → onB i (ps.getD j leaf0) = false) ∧ (ps.getD k leaf0).first ≤ i ∧ (i : Int) < (ps.getD k leaf0).first + (ps.getD k leaf0).lines ∧ (ps.getD k leaf0).first + (ps.getD k leaf0).lines ≤ l.length ∧ 0 ≤ (ps.getD k leaf0).first ∧ 0 ≤ (ps.getD k leaf0).lines
  | [], p, left, h, i, h0, h1 => by
    cases h
    omega
  | x :: ps, p, left, h, i, h0, h1 => by
    cases h with
    | @cons _ _ _ n _ hgo e H hc =>
      have hon := H.on i (by omega) (by omega)
      by_cases hi : i < p + n
      · have ht : onB i x = true := hon.2 ⟨by omega, by omega⟩
        have he := H.end_
        rw [Int.toNat_natCast] at he
        refine ⟨0, by simp, ht, fun j hj => absurd hj (Nat.not_lt_zero _), ?_, ?_, ?_, ?_, ?_⟩
        · show x.first ≤ i; rw [H.first]; omega
        · show (i : Int) < x.first + x.lines; rw [H.first, H.lines]; omega
        · show x.first + x.lines ≤ l.length; rw [H.first, H.lines]; omega
        · show 0 ≤ x.first; rw [H.first]; omega
        · show 0 ≤ x.lines; rw [H.lines]; omega
      · obtain ⟨k, k1, k2, k3, k4, k5, k6, k7, k8⟩ := hc.find i (by omega) h1
        refine ⟨k + 1, by simpa using k1, by simpa using k2, fun j hj => ?_, by simpa using k4, by simpa using k5, by simpa using k6, by simpa using k7, by simpa using k8⟩
        cases j with
        | zero =>
          show onB i x = false
          cases hx : onB i x with
          | false => rfl
          | true => have := hon.1 hx; omega
        | succ j => simpa using k3 j (by omega)
theorem Chain.none {l : List Load} {a : Area} : ∀ {ps : List LeafM} {p : Nat} {left : List Int}, Chain l a p left ps → ∀ i : Int, -1 ≤ i → i ≤ l.length → (i < p ∨ (l.length : Int) ≤ i) → ∀ j, j < ps.length → onB i (ps.getD j leaf0) = false
  | [], _, _, _, _, _, _, _, j, hj => by simp at hj
  | x :: ps, p, left, h, i, h0, h1, h2, j, hj => by
    cases h with
    | @cons _ _ _ n _ hgo e H hc =>
      have hon := H.on i h0 h1
      have he := H.end_
      rw [Int.toNat_natCast] at he
      cases j with
      | zero =>
        show onB i x = false
        cases hx : onB i x with
        | false => rfl
        | true => have := hon.1 hx; omega
      | succ j => simpa using hc.none i h0 h1 (by omega) j (by simpa using hj)
theorem Chain.mono {l : List Load} {a : Area} : ∀ {ps : List LeafM} {p : Nat} {left : List Int}, Chain l a p left ps → ∀ (i k k' : Nat), p ≤ i → i + 1 < l.length → k < ps.length → k' < ps.length → onB i (ps.getD k leaf0) = true → onB ((i + 1 : Nat) : Int) (ps.getD k' leaf0) = true → k ≤ k'
  | [], _, _, _, _, _, _, _, _, hk, _, _, _ => by simp at hk
  | x :: ps, p, left, h, i, k, k', h0, h1, hk, hk', hon, hon' => by
    cases h with
    | @cons _ _ _ n _ hgo e H hc =>
      cases k' with
      | zero =>
        have h3 : onB ((i + 1 : Nat) : Int) x = true := hon'
        have h4 := (H.on ((i + 1 : Nat) : Int) (by omega) (by omega)).1 h3
        cases k with
        | zero => exact Nat.le_refl _
        | succ k =>
          have h5 := hc.none (i : Int) (by omega) (by omega) (.inl (by omega)) k (by simpa using hk)
          have h6 : onB i (ps.getD k leaf0) = true := by simpa using hon
          rw [h5] at h6; cases h6
      | succ k' =>
        cases k with
        | zero => exact Nat.zero_le _
        | succ k =>
          have h6 : onB i (ps.getD k leaf0) = true := by simpa using hon
          have h7 : p + n ≤ i := by
            rcases Nat.lt_or_ge i (p + n) with h | h
            · have := hc.none (i : Int) (by omega) (by omega) (.inl (by omega)) k (by simpa using hk)
              rw [this] at h6; cases h6
            · exact h
          have := hc.mono i k k' h7 h1 (by simpa using hk) (by simpa using hk') h6 (by simpa using hon')
          omega
end Go.Proofs.Ytgjamldcglebjaa
