/- law01, the reference: names, cuts: the walks. -/
import Derived.Test.YtpgkbnefhhcfcaaGreatDoorFm
set_option linter.unusedVariables false
set_option linter.unusedSimpArgs false
set_option linter.constructorNameAsVariable false
namespace Go.Proofs.YtpgkbnefhhcfcaaGreatDoor
open Go Go.RowKit Go.Proofs.YtpgkbnefhhcfcaaGreatDoor.DL
set_option linter.unusedVariables false
set_option linter.unusedSimpArgs false
attribute [local irreducible] DCode DOps OpVal DCalls DCallsM DCallsB DCallsR thenQ seqQ inBlockQ endQ endQM OpNew DCf DDr

end Go.Proofs.YtpgkbnefhhcfcaaGreatDoor
