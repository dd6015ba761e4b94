/- What a seat's package variables hold: internal/bytealg.MaxLen a number. -/
import Derived.WalkKit
namespace Go.Proofs.YtkjekbgfmkfkjaaDoor.DL
set_option linter.unusedVariables false
set_option linter.unusedSimpArgs false
set_option linter.constructorNameAsVariable false
def glbB : List Nat := [2]
def glbC (c : Nat → Nat → Option Value) : Prop := ∃ m, c 2 0 = some (.int .i64 m)
end Go.Proofs.YtkjekbgfmkfkjaaDoor.DL
