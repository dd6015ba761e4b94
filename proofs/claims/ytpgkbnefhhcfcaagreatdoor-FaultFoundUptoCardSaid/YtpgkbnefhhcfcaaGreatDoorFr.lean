/- law01: a text read: the walk, as far as the stages. -/
import Derived.Test.YtpgkbnefhhcfcaaGreatDoorFo
import Derived.Test.YtpgkbnefhhcfcaaGreatDoorFj
set_option linter.unusedVariables false
set_option linter.unusedSimpArgs false
set_option linter.constructorNameAsVariable false
namespace Go.Proofs.YtpgkbnefhhcfcaaGreatDoor
open Go Go.RowKit Go.Proofs.YtpgkbnefhhcfcaaGreatDoor.DL
set_option linter.unusedVariables false
set_option linter.unusedSimpArgs false
attribute [local irreducible] DCode DOps OpVal DCalls DCallsM DCallsB DCallsR thenQ seqQ inBlockQ endQ endQM OpNew DCf DDr

/-! ### How long pieces are -/
theorem split_len (sep : List UInt8) (h : sep ≠ []) : ∀ (n : Nat) (l : List UInt8), l.length ≤ n → ((Lib.split l sep).flatMap fun x => x ++ sep).length = l.length + sep.length ∧ 1 ≤ (Lib.split l sep).length
  | n, l, hn => by
    rcases index_cases sep l with h0 | ⟨a, b, h1, h2⟩
    · rw [split_no h0]; simp
    · subst h1
      rw [split_cut h h2, List.flatMap_cons]
      have hs : 0 < sep.length := List.length_pos_iff.2 h
      have hab : (a ++ sep ++ b).length = a.length + sep.length + b.length := by rw [List.length_append, List.length_append]
      match n, hn with
      | 0, hn => omega
      | n + 1, hn =>
        obtain ⟨h3, h4⟩ := split_len sep h n b (by omega)
        rw [List.length_append, List.length_append, hab, List.length_cons]
        omega
theorem stgs_len (s : List UInt8) : (stgT (stgs s)).length ≤ s.length + 2 := by
  obtain ⟨h1, h2⟩ := split_len colS (by decide) s.length s (Nat.le_refl _)
  rw [stgs]
  have hne : Lib.split s colS ≠ [] := fun e => by rw [e] at h2; simp at h2
  have h3 := (List.dropLast_concat_getLast hne).symm
  rw [h3, List.flatMap_append, List.length_append] at h1
  have h4 : ([(Lib.split s colS).getLast hne].flatMap fun x => x ++ colS).length = ((Lib.split s colS).getLast hne).length + 2 := by simp [colS]
  have h5 : colS.length = 2 := rfl
  rw [stgT]
  omega
theorem piece_len {sep l x : List UInt8} (h : sep ≠ []) (hx : x ∈ Lib.split l sep) : x.length ≤ l.length := by
  obtain ⟨h1, _⟩ := split_len sep h l.length l (Nat.le_refl _)
  obtain ⟨i, hi⟩ := List.getElem?_of_mem hx
  have : (x ++ sep).length ≤ ((Lib.split l sep).flatMap fun x => x ++ sep).length := by
    obtain ⟨a, b, hab⟩ := List.append_of_mem hx
    rw [hab, List.flatMap_append, List.flatMap_cons, List.length_append, List.length_append]
    simp only [List.length_append]; omega
  rw [h1, List.length_append] at this
  omega
theorem dropLastD (L : List (List UInt8)) {m : Nat} (h : L.length = m + 1) : DEq (.sl (m - 0) 1 fun p q => elS L (0 + p) q) (lS L.dropLast) := by
  have hl : L.dropLast.length = m := by rw [List.length_dropLast, h]; rfl
  rw [lS, hl]
  refine DEq.sl fun p q hp hq => ?_
  rw [elS, elS]
  have e : L.dropLast.getD p [] = L.getD (0 + p) [] := by
    rw [List.getD_eq_getElem?_getD, List.getD_eq_getElem?_getD, List.getElem?_dropLast, if_pos (by omega), Nat.zero_add]
  rw [e]
theorem last_get (L : List (List UInt8)) {m : Nat} (h : L.length = m + 1) : L.getD m [] = L.getLastD [] := by
  rw [List.getD_eq_getElem?_getD, List.getLastD_eq_getLast?, List.getLast?_eq_getElem?, h]; rfl
end Go.Proofs.YtpgkbnefhhcfcaaGreatDoor
