/- law25, plain: what a text is of, by cases; boxes that are clear. -/
import Derived.Test.YtejdeonbibbchaaGreatDoorHn
set_option linter.unusedVariables false
set_option linter.unusedSimpArgs false
set_option linter.constructorNameAsVariable false
namespace Go.Proofs.YtejdeonbibbchaaGreatDoor
set_option linter.unusedVariables false

theorem lines_no (h : Fl) : ∀ (L : List (List UInt8)) (i : Nat) (out : List Bx), (linesGo h L i out).2.1 ≠ 0 → (linesGo h L i out).1 = fl0
  | [], _, _, e => absurd rfl e
  | [l], i, out, e => by
    by_cases hl : l = []
    · subst hl
      rw [lines_end] at e ⊢
      split
      · rename_i hc
        rw [if_pos hc] at e
        exact absurd rfl e
      · rfl
    · rw [lines_last hl]
  | l :: m :: r, i, out, e => by
    cases hb : boxOf l with
    | none => rw [lines_bad hb]
    | some b =>
      rw [lines_step hb] at e ⊢
      exact lines_no h (m :: r) (i + 1) (out ++ [b]) e
theorem parseF_no {s : List UInt8} (e : (parseF s).2.1 ≠ 0) : (parseF s).1 = fl0 := by
  rw [parseF] at e ⊢
  generalize spl 10 s = L at *
  match L, e with
  | [], _ => rfl
  | [l], _ => rfl
  | l :: m :: r, e =>
    cases hh : headOf l with
    | none => rw [parseL_bad hh]
    | some g =>
      rw [parseL_ok hh] at e ⊢
      exact lines_no g (m :: r) 1 [] e
theorem parseF_cases (s : List UInt8) : (∃ f, parseF s = (f, 0, 0) ∧ checkF f = 0 ∧ printF f = s) ∨ ∃ c k, parseF s = (fl0, c, k) ∧ c ≠ 0 := by
  by_cases e : (parseF s).2.1 = 0
  · obtain ⟨f, c, k, hp⟩ : ∃ f c k, parseF s = (f, c, k) := ⟨_, _, _, rfl⟩
    rw [hp] at e
    obtain rfl : c = 0 := e
    obtain ⟨h1, h2, rfl⟩ := printF_parseF hp
    exact .inl ⟨f, hp, h1, h2⟩
  · have h1 := parseF_no e
    obtain ⟨f, c, k, hp⟩ : ∃ f c k, parseF s = (f, c, k) := ⟨_, _, _, rfl⟩
    rw [hp] at e h1
    obtain rfl : f = fl0 := h1
    exact .inr ⟨c, k, hp, e⟩
theorem flat_parts : ∀ (L : List Bx), L.length ≤ (L.flatMap boxT).length ∧ ∀ b ∈ L, b.text.length ≤ (L.flatMap boxT).length
  | [] => ⟨Nat.le_refl _, fun b h => by cases h⟩
  | b :: L => by
    obtain ⟨h1, h2⟩ := flat_parts L
    have hb : 1 + b.text.length ≤ (boxT b).length := by
      rw [boxT]
      simp only [List.length_append, List.length_cons, List.length_nil]
      omega
    rw [List.flatMap_cons, List.length_append, List.length_cons]
    refine ⟨by omega, fun x hx => ?_⟩
    rcases List.mem_cons.1 hx with rfl | hx
    · omega
    · have := h2 x hx; omega
theorem parseF_bnd (s : List UInt8) : (parseF s).1.boxes.length ≤ s.length ∧ ∀ b ∈ (parseF s).1.boxes, b.text.length ≤ s.length := by
  rcases parseF_cases s with ⟨f, hp, hc, hs⟩ | ⟨c, k, hp, _⟩
  · rw [hp]
    have : (f.boxes.flatMap boxT).length ≤ s.length := by rw [← hs, printF, if_pos hc, List.length_append]; omega
    obtain ⟨h1, h2⟩ := flat_parts f.boxes
    exact ⟨Nat.le_trans h1 this, fun b hb => Nat.le_trans (h2 b hb) this⟩
  · rw [hp]
    exact ⟨Nat.zero_le _, fun b hb => by cases hb⟩
end Go.Proofs.YtejdeonbibbchaaGreatDoor
