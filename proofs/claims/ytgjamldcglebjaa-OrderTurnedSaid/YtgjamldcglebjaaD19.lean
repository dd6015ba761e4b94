/- A logic of data for Go functions: the library's calls of several results; an interface's value against nil. No program in sight. -/
import Derived.Test.YtgjamldcglebjaaD18
import Derived.Lib.AtoiErrMem
import Derived.WideLaws
namespace Go.Proofs.Ytgjamldcglebjaa.DL
open Go.RowKit

section
variable {P : Program} {N : Nat} {ops : Array Oper} {Q : DPost} {env : Env} {M M0 : Mem} {γ : Cn} {Pr : Prot} {x0 : Ctx} {w : World} {a : Act} {o : Oper} {rest : List Oper}

theorem Sub.nil : Sub [] env := fun _ => .inl rfl
theorem DCode.keep {c : Code} (t : Env) (hs : Sub t env) (h : DCode P N M0 c Q t M) : DCode P N M0 c Q env M := DCode.weak (Wk.slots hs) h
theorem DOps.keep {l : List Oper} (t : Env) (hs : Sub t env) (h : DOps P N M0 ops Q l t M) : DOps P N M0 ops Q l env M := DOps.weak (Wk.slots hs) h

end
end Go.Proofs.Ytgjamldcglebjaa.DL
