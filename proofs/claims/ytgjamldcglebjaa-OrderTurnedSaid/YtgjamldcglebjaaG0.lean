/- What a seat's package variables hold: nothing that is read. -/
import Derived.WalkKit
namespace Go.Proofs.Ytgjamldcglebjaa.DL
def glbB : List Nat := []
def glbC (_ : Nat → Nat → Option Value) : Prop := True
end Go.Proofs.Ytgjamldcglebjaa.DL
