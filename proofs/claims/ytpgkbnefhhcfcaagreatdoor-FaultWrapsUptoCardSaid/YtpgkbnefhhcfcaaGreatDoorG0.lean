/- What a seat's package variables hold: internal/bytealg.MaxLen a number, internal/strconv.uint64pow10 its table, strconv.ErrSyntax and strconv.ErrRange an error each, errors.errorType the type error. -/
import Derived.WalkKit
import Derived.Lib.ItoaNum
set_option linter.unusedVariables false
set_option linter.unusedSimpArgs false
set_option linter.constructorNameAsVariable false
namespace Go.Proofs.YtpgkbnefhhcfcaaGreatDoor.DL
def glbB : List Nat := [0, 3, 1, 2, 6]
def glbC (c : Nat → Nat → Option Value) : Prop := (∃ m, c 3 0 = some (.int .i64 m)) ∧ (∀ o, c 6 o = (Lib.pow10Tab.map fun z => Value.int .u64 z)[o]?) ∧ (∃ t p, c 1 0 = some (.iface t p)) ∧ (∃ t p, c 2 0 = some (.iface t p)) ∧ c 0 0 = some (.iface 108 (.agg #[.pointer (some ⟨14, 42, none⟩)]))
end Go.Proofs.YtpgkbnefhhcfcaaGreatDoor.DL
