/- A logic of data for Go functions: append of nothing. No program in sight. -/
import Derived.Test.YtgjamldcglebjaaD23
import Derived.Laws.OwnMore
namespace Go.Proofs.Ytgjamldcglebjaa.DL
open Go.RowKit

section
variable {P : Program} {N : Nat} {ops : Array Oper} {Q : DPost} {env : Env} {M M0 : Mem} {γ : Cn} {Pr : Prot} {x0 : Ctx} {w : World} {a : Act} {o : Oper} {rest : List Oper}

theorem run_append_zero (base : Nat) (t ty e : TypeId) (i : TypeInfo) (size : Nat) (ht : P.underlying t = some (.slice e)) (hi : P.info? e = some i)
    (v : Value) (n : Nat) (xs : List Value) (hown : w.ownsRow base e size v n xs) (A : Option Addr) (c : Nat) :
    (Builtin.append_ #[t, t] ty #[v, .slice A 0 c]).run P w = .ok v w := by
  rcases hown.2 with ⟨rfl, rfl⟩ | ⟨g, cap, cur, rfl, _, _, hnc, _⟩
  · cases A <;> simp [Builtin.append_, run_underlying ht, sizeOf, typeInfo, hi, Builtin.lenOf, Builtin.firstCells, loadCells, loadCellsFrom]
  · cases A <;> simp [Builtin.append_, run_underlying ht, sizeOf, typeInfo, hi, Builtin.lenOf, Builtin.firstCells, hnc, storeCells, loadCells, loadCellsFrom]

theorem OpVal.append0 {T : TypeId → Option TyI} (hT : TOk P T) {t e : TypeId} {i j : TyI} {s x : Operand} {b k k' n : Nat} {v : Value} {cs : List CV} {fz : Bool} {el : Nat → Nat → DV}
    (ho : o.op = .call { callee := .builtin .append, args := #[s, x], argTypes := #[t, t] }) (ht : T t = some i) (hde : i.desc = .slice e) (hj : T e = some j)
    (hs : opv env s = .v (.one (.row b v))) (hm : mget M b = some (.row e k n v cs fz)) (hx : opv env x = .v (.one (.d (.sl 0 k' el)))) : OpVal P N env M o (.v (.one (.row b v))) := fun γ Pr x0 a w h => by
  have h1 := h.opv s; have h2 := h.opv x
  rw [hs] at h1; rw [hx] at h2
  obtain ⟨A, c, hv, _, _⟩ := h2
  obtain ⟨vs, hown, _, _⟩ := h.mem b _ hm
  obtain ⟨hu, info, hi1, hi2, hi3, hi4⟩ := hT _ _ ht
  obtain ⟨_, info', hj1, hj2, hj3, hj4⟩ := hT _ _ hj
  rw [hde] at hu
  have he : a.eval s = v := h1.1
  refine ⟨trivial, v, ?_, rfl, by rw [← he]; exact h1.2⟩
  have hrun := run_append_zero (P := P) (w := w) 0 t o.type e info' k hu hj1 v n vs hown A c
  simp [execOp, ho, resolve, invoke, builtin, he, hv, hrun, Result.andThen]
end
end Go.Proofs.Ytgjamldcglebjaa.DL
