/- law01: FaultTexts: the walk. -/
import Derived.Test.YtpgkbnefhhcfcaaGreatDoorFv
set_option linter.unusedVariables false
set_option linter.unusedSimpArgs false
set_option linter.constructorNameAsVariable false
namespace Go.Proofs.YtpgkbnefhhcfcaaGreatDoor
open Go Go.RowKit Go.Proofs.YtpgkbnefhhcfcaaGreatDoor.DL
set_option linter.unusedVariables false
set_option linter.unusedSimpArgs false
attribute [local irreducible] DCode DOps OpVal DCalls DCallsM DCallsB DCallsR thenQ seqQ inBlockQ endQ endQM OpNew DCf DDr

theorem text_len {c p : Int} (hc : in64 c) (hp : in64 p) (st : List (List UInt8)) : (textB c p st).length ≤ (stgT st).length + 52 := by
  have l1 := itoa_len hc
  have l2 := itoa_len hp
  rw [textB_stg, List.length_append, tailB]
  split <;> simp only [List.length_append, fltS, atS, List.length_cons, List.length_nil] <;> omega
theorem st_len (st : List (List UInt8)) : st.length ≤ (stgT st).length := by
  induction st with
  | nil => exact Nat.le_refl _
  | cons n st ih =>
    rw [stgT, List.flatMap_cons, ← stgT, List.length_append, List.length_append, List.length_cons]
    simp only [colS, List.length_cons, List.length_nil]; omega
end Go.Proofs.YtpgkbnefhhcfcaaGreatDoor
