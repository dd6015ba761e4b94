/- A logic of data for Go functions: function values as data; variables that are no longer written. No program in sight. -/
import Derived.Test.YtdneiepigllnkaaDoorD14
namespace Go.Proofs.YtdneiepigllnkaaDoor.DL
open Go.RowKit

section
variable {P : Program} {N : Nat} {ops : Array Oper} {Q : DPost} {env : Env} {M M0 : Mem} {γ γ' : Cn} {Pr Pr' : Prot} {x0 : Ctx} {w w' : World} {a : Act} {o : Oper} {rest : List Oper}

/-- Captured values. -/
def capsOf (env : Env) : List Operand → Option (List DV)
  | [] => some []
  | x :: r => match opv env x, capsOf env r with
    | .v (.one (.d c)), some cs => some (c :: cs)
    | _, _ => none
theorem capsOf_rep (h : Rel γ Pr x0 N env M a w) : ∀ (l : List Operand) (ds : List DV), capsOf env l = some ds → ds.length = l.length ∧ ∀ (j : Nat) d, ds[j]? = some d → ∃ u, (l.map a.eval)[j]? = some u ∧ DRep Pr w d u
  | [], ds, hl => by simp [capsOf] at hl; subst hl; exact ⟨rfl, fun j d h => by simp at h⟩
  | x :: r, ds, hl => by
    simp only [capsOf] at hl
    have h1 := h.opv x
    split at hl
    · rename_i c cs hx hr
      obtain rfl := Option.some.inj hl
      obtain ⟨h2, h3⟩ := capsOf_rep h r cs hr
      rw [hx] at h1
      refine ⟨by simp [h2], fun j d hd => ?_⟩
      cases j with
      | zero => simp at hd; subst hd; exact ⟨_, rfl, h1⟩
      | succ j => exact h3 j d (by simpa using hd)
    · cases hl
/-- A function value, of data alone. -/
theorem OpVal.fn {f : FuncId} {caps : Array Operand} {ds : List DV} (z : DV) (ho : o.op = .makeFunc (.func f) #[] caps) (hc : capsOf env caps.toList = some ds) : OpVal P N env M o (.v (.one (.d (.fn f ds.length fun j => ds.getD j z)))) := fun γ Pr x0 a w h => by
  obtain ⟨h1, h2⟩ := capsOf_rep h _ _ hc
  refine ⟨trivial, .func (.func f) #[] (caps.map a.eval), ?_, caps.toList.map a.eval, ?_, by simp [h1], fun j hj => ?_⟩
  · simp [execOp, ho, Instr.makeFunc]
  · congr 1
    apply Array.ext'
    simp
  · have hd : ds[j]? = some ds[j] := List.getElem?_eq_getElem hj
    obtain ⟨u, hu, hr⟩ := h2 j _ hd
    refine ⟨u, hu, ?_⟩
    show DRep Pr w (ds.getD j z) u
    rw [List.getD_eq_getElem?_getD, hd]; exact hr

theorem DEq.fn {f : FuncId} {n : Nat} {c c' : Nat → DV} (h : ∀ j, j < n → c j = c' j) : DEq (.fn f n c) (.fn f n c') := fun Pr w v ⟨vs, hv, hl, hc⟩ =>
  ⟨vs, hv, hl, fun j hj => let ⟨u, hu, hd⟩ := hc j hj; ⟨u, hu, by rw [← h j hj]; exact hd⟩⟩
/-- A nil slice, as data of no element. -/
theorem DEq.nil (k : Nat) (el : Nat → Nat → DV) : DEq (.sc (.slice none 0 0)) (.sl 0 k el) := fun Pr w v ⟨_, hv⟩ =>
  ⟨none, 0, hv, Nat.le_refl _, fun h => absurd h (Nat.lt_irrefl _)⟩
end
end Go.Proofs.YtdneiepigllnkaaDoor.DL
