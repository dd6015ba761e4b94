/- A logic of data for Go functions: append of nothing. No program in sight. -/
import Derived.Test.YtdneiepigllnkaaDoorD23
import Derived.Laws.OwnMore
namespace Go.Proofs.YtdneiepigllnkaaDoor.DL
open Go.RowKit

section
variable {P : Program} {N : Nat} {ops : Array Oper} {Q : DPost} {env : Env} {M M0 : Mem} {γ : Cn} {Pr : Prot} {x0 : Ctx} {w : World} {a : Act} {o : Oper} {rest : List Oper}

end
end Go.Proofs.YtdneiepigllnkaaDoor.DL
