/- Three places; what the states of a region hold. -/
import Derived.Test.YtdneiepigllnkaaDoorRJ
import Derived.Test.YtdneiepigllnkaaDoorD25
namespace Go.Proofs.YtdneiepigllnkaaDoor
open Go Go.RowKit Go.Proofs.YtdneiepigllnkaaDoor.DL

/-! ### What the states hold -/
theorem rk (r : Rf) (M : Mem) : (SV.v r.tv).ok M := fun c hc => CV.pure_ok (Rf.pure r c hc)
theorem pk {M : Mem} {b k : Nat} {X : Blk} (h : mget M b = some X) : (SV.v (.one (.ptr b k))).ok M := fun e => (by cases h.symm.trans e)
theorem bk (r : Rf) (M : Mem) : ∃ k, some (Blk.box 38 r.cs) = some k ∧ k.ok M := ⟨_, rfl, fun c hc => CV.pure_ok (Rf.pure r c hc)⟩

abbrev tR3 (a b c : Rf) : TV := .agg [ci a.page, ci a.line, ci a.sub, ci b.page, ci b.line, ci b.sub, ci c.page, ci c.line, ci c.sub]
abbrev w1 : Bool := true
abbrev w0 : Bool := false
abbrev sv (n : Nat) (r : Rf) : Nat × SV := (n, .v r.tv)
abbrev pt (n : Nat) : Nat × SV := (n, .v (.one (.ptr n 0)))
abbrev tp (n : Nat) (a b : Rf) : Nat × SV := (n, ret1 [a.tv, b.tv, bt true])
abbrev bx (n : Nat) (r : Rf) : Nat × Option Blk := (n, some (.box 38 r.cs))
end Go.Proofs.YtdneiepigllnkaaDoor
