/- law01, the reference: a text read: the walk. -/
import Derived.Test.YtpgkbnefhhcfcaaGreatDoorFn
import Derived.Test.YtpgkbnefhhcfcaaGreatDoorFl
set_option linter.unusedVariables false
set_option linter.unusedSimpArgs false
set_option linter.constructorNameAsVariable false
namespace Go.Proofs.YtpgkbnefhhcfcaaGreatDoor
open Go Go.RowKit Go.Proofs.YtpgkbnefhhcfcaaGreatDoor.DL
set_option linter.unusedVariables false
set_option linter.unusedSimpArgs false
attribute [local irreducible] DCode DOps OpVal DCalls DCallsM DCallsB DCallsR thenQ seqQ inBlockQ endQ endQM OpNew DCf DDr

theorem strs_pure' (X : List (List UInt8)) : ∀ c ∈ (X.map dS).map CV.d, c.pure := fun c hc => by
  obtain ⟨d, _, rfl⟩ := List.mem_map.1 hc
  trivial
def resF : Option Fd → List TV
  | some x => [ft x.1.1 x.1.2, tL x.2, bt true]
  | none => [ft 0 0, tL [], bt false]
end Go.Proofs.YtpgkbnefhhcfcaaGreatDoor
