/- law01, the reference: numbers: the walks. -/
import Derived.Test.YtpgkbnefhhcfcaaGreatDoorV0
import Derived.Test.YtpgkbnefhhcfcaaGreatDoorD45
import Derived.Test.YtpgkbnefhhcfcaaGreatDoorT
set_option linter.unusedVariables false
set_option linter.unusedSimpArgs false
set_option linter.constructorNameAsVariable false
namespace Go.Proofs.YtpgkbnefhhcfcaaGreatDoor
open Go Go.RowKit Go.Proofs.YtpgkbnefhhcfcaaGreatDoor.DL
set_option linter.unusedVariables false
set_option linter.unusedSimpArgs false
attribute [local irreducible] DCode DOps OpVal DCalls DCallsM DCallsB DCallsR thenQ seqQ inBlockQ endQ endQM OpNew DCf

/-! ### Numbers -/
end Go.Proofs.YtpgkbnefhhcfcaaGreatDoor
