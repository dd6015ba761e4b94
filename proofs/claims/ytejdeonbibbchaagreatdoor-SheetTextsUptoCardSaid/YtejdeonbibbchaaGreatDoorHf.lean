/- law25: a page file parsed: the walk. -/
import Derived.Test.YtejdeonbibbchaaGreatDoorHe
import Derived.Test.YtejdeonbibbchaaGreatDoorD41
set_option linter.unusedVariables false
set_option linter.unusedSimpArgs false
set_option linter.constructorNameAsVariable false
namespace Go.Proofs.YtejdeonbibbchaaGreatDoor
open Go Go.RowKit Go.Proofs.YtejdeonbibbchaaGreatDoor.DL
set_option linter.unusedVariables false
set_option linter.unusedSimpArgs false
attribute [local irreducible] DCode DOps OpVal DCalls DCallsM DCallsB DCallsR thenQ seqQ inBlockQ endQ endQM OpNew DCf DDr

/-! ### Lines with their ends -/
def aft (c : UInt8) : List (List UInt8) → List (List UInt8)
  | [] => []
  | [l] => [l]
  | l :: m :: r => (l ++ [c]) :: aft c (m :: r)
theorem splitK_aft (c : UInt8) : ∀ (n : Nat) (l : List UInt8), Lib.count l [c] = n → Lib.splitK [c] 1 n l = aft c (spl c l)
  | 0, l, h => by
    rw [Lib.count_one] at h
    rw [spl_none (List.count_eq_zero.1 h)]; rfl
  | n + 1, l, h => by
    rw [Lib.splitK]
    rcases index_one_cases c l with ⟨h1, h2⟩ | ⟨a, b, rfl, h2, h3⟩
    · rw [Lib.count_one, List.count_eq_zero.2 h2] at h; omega
    · rw [h3]
      have e1 : ¬ (((a.length : Int)) == -1) = true := fun e => by have := beq_iff_eq.1 e; omega
      rw [if_neg e1, spl_hit _ h2]
      have e2 : (a ++ c :: b).drop ((a.length : Int).toNat + [c].length) = b := by simp
      have e3 : (a ++ c :: b).take ((a.length : Int).toNat + 1) = a ++ [c] := by
        rw [show ((a.length : Int).toNat + 1) = (a ++ [c]).length by simp, show a ++ c :: b = (a ++ [c]) ++ b by simp, List.take_left]
      have hn : Lib.count b [c] = n := by
        rw [Lib.count_one] at h ⊢
        rw [List.count_append, List.count_eq_zero.2 h2, List.count_cons_self] at h
        omega
      rw [e2, e3, splitK_aft c n b hn]
      cases hs : spl c b with
      | nil => exact absurd hs (spl_ne c b)
      | cons y r => rfl
theorem aft_len (c : UInt8) : ∀ L : List (List UInt8), (aft c L).length = L.length
  | [] => rfl
  | [l] => rfl
  | l :: m :: r => by rw [aft, List.length_cons, aft_len c (m :: r)]; rfl
theorem aft_get (c : UInt8) : ∀ (L : List (List UInt8)) (i : Nat), i < L.length → (aft c L).getD i [] = if i + 1 < L.length then L.getD i [] ++ [c] else L.getD i []
  | [], i, h => absurd h (Nat.not_lt_zero i)
  | [l], i, h => by
    obtain rfl : i = 0 := by simpa using h
    rfl
  | l :: m :: r, 0, h => by rw [if_pos (by simp)]; rfl
  | l :: m :: r, i + 1, h => by
    have := aft_get c (m :: r) i (by simpa using h)
    show (aft c (m :: r)).getD i [] = _
    rw [this]
    by_cases hh : i + 1 < (m :: r).length
    · rw [if_pos hh, if_pos (by simp at hh ⊢; omega)]; rfl
    · rw [if_neg hh, if_neg (by simp at hh ⊢; omega)]; rfl
theorem splitAL_aft (s : List UInt8) (c : UInt8) : DL.splitAL s [c] = aft c (spl c s) := by
  rw [DL.splitAL, Lib.splitB_data]
  exact splitK_aft c _ s rfl
theorem splitL_spl (s : List UInt8) (c : UInt8) : DL.splitL s [c] = spl c s := by
  rw [DL.splitL, Lib.splitB_data]
  exact splitK_spl c _ s rfl
theorem spl_len {c : UInt8} : ∀ (s : List UInt8), (spl c s).length ≤ s.length + 1 ∧ ∀ a ∈ spl c s, a.length ≤ s.length
  | [] => by simp [spl]
  | x :: l => by
    obtain ⟨h1, h2⟩ := spl_len (c := c) l
    rw [spl]
    cases hs : spl c l with
    | nil => exact absurd hs (spl_ne c l)
    | cons y r =>
      rw [hs] at h1 h2
      split
      · refine ⟨by simp at h1 ⊢; omega, fun a ha => ?_⟩
        rcases List.mem_cons.1 ha with rfl | ha
        · simp
        · have := h2 a ha; simp; omega
      · refine ⟨by simp at h1 ⊢; omega, fun a ha => ?_⟩
        rw [List.headD_cons, List.tail_cons] at ha
        rcases List.mem_cons.1 ha with rfl | ha
        · have := h2 y (List.mem_cons_self ..); simp; omega
        · have := h2 a (List.mem_cons_of_mem _ ha); simp; omega
theorem spn_mem {c : UInt8} : ∀ (k : Nat) (l : List UInt8), ∀ a ∈ spn c k l, a.length ≤ l.length
  | 0, l, a, h => by
    rw [spn, List.mem_singleton] at h; rw [h]; exact Nat.le_refl _
  | k + 1, l, a, h => by
    rcases cut_cases c l with ⟨h1, _⟩ | ⟨x, y, rfl, h1, _⟩
    · rw [spn_none h1, List.mem_singleton] at h; rw [h]; exact Nat.le_refl _
    · rw [spn_hit h1] at h
      rcases List.mem_cons.1 h with rfl | h
      · simp
      · have := spn_mem k y a h
        simp; omega
theorem splitNL_spn (l : List UInt8) : DL.splitNL l [32] 10 = spn 32 9 l := by
  rw [DL.splitNL, Lib.splitB_data]
  show Lib.splitK [32] 0 (min 10 (l.length + 1) - 1) l = _
  rw [spn_splitK]
  by_cases h : 9 ≤ l.length
  · rw [show min 10 (l.length + 1) - 1 = 9 by omega]
  · have h1 := (spl_len (c := 32) l).1
    rw [spn_spl 32 9 l (by omega), spn_spl 32 _ l (by omega)]
theorem suf_hit (x : List UInt8) : Lib.trimSuffix (x ++ [10]) [10] = x ∧ Lib.hasSuffix (x ++ [10]) [10] = true := by
  simp [Lib.trimSuffix, Lib.hasSuffix]
theorem suf_miss {x : List UInt8} (h : (10 : UInt8) ∉ x) : Lib.trimSuffix x [10] = x ∧ Lib.hasSuffix x [10] = false := by
  have e : Lib.hasSuffix x [10] = false := by
    cases hs : Lib.hasSuffix x [10] with
    | false => rfl
    | true =>
      exfalso
      have := (List.isSuffixOf_iff_suffix).1 hs
      obtain ⟨t, rfl⟩ := this
      simp at h
  exact ⟨by rw [Lib.trimSuffix, e]; rfl, e⟩
end Go.Proofs.YtejdeonbibbchaaGreatDoor
