/- A logic of data for Go functions: the library's calls of several results; an interface's value against nil. No program in sight. -/
import Derived.Test.YtdneiepigllnkaaDoorD18
import Derived.Lib.AtoiErrMem
import Derived.WideLaws
namespace Go.Proofs.YtdneiepigllnkaaDoor.DL
open Go.RowKit

section
variable {P : Program} {N : Nat} {ops : Array Oper} {Q : DPost} {env : Env} {M M0 : Mem} {γ : Cn} {Pr : Prot} {x0 : Ctx} {w : World} {a : Act} {o : Oper} {rest : List Oper}

/-- An operation's value, its rule chosen later. -/
theorem DOps.valE {d : Nat} (hg : gd ops env o = some true) (hd : o.dst = some d) (hN : Nat.blt d N = true) (h : ∃ r, OpVal P N env M o r ∧ DOps P N M0 ops Q rest ((d, r) :: env) M) : DOps P N M0 ops Q (o :: rest) env M :=
  let ⟨_, h1, h2⟩ := h
  DOps.val hg hd hN h1 h2
theorem DDr.valE {k d : Nat} (hg : gd ops (restr env (o.looksAt ops)) o = some true) (hd : o.dst = some d) (hN : Nat.blt d N = true) (h : ∃ r, OpVal P N (restr env (o.looksAt ops)) M o r ∧ DDr P N M0 ops Q k rest ((d, r) :: env) M) : DDr P N M0 ops Q (k + 1) (o :: rest) env M :=
  let ⟨_, h1, h2⟩ := h
  DDr.val hg hd hN h1 h2
theorem DDr2.valE {l0 l : List Oper} {k0 k d : Nat} (hg : gd l0.toArray (restr env (o.looksAt l0.toArray)) o = some true) (hd : o.dst = some d) (hN : Nat.blt d N = true) (h : ∃ r, OpVal P N (restr env (o.looksAt l0.toArray)) M o r ∧ DDr2 P N M0 l0 Q k0 k l ((d, r) :: env) M) : DDr2 P N M0 l0 Q k0 (k + 1) (o :: l) env M :=
  let ⟨_, h1, h2⟩ := h
  DDr2.val hg hd hN h1 h2
theorem Sub.nil : Sub [] env := fun _ => .inl rfl
theorem DCode.keep {c : Code} (t : Env) (hs : Sub t env) (h : DCode P N M0 c Q t M) : DCode P N M0 c Q env M := DCode.weak (Wk.slots hs) h
theorem DOps.keep {l : List Oper} (t : Env) (hs : Sub t env) (h : DOps P N M0 ops Q l t M) : DOps P N M0 ops Q l env M := DOps.weak (Wk.slots hs) h

/-- A contract of the library. -/
theorem DCalls.libP {f : FuncId} {args : List TV} (ts : List TV)
    (h : ∀ Pr w vs, PV Pr w → TsRep γ0 Pr w args vs → Calls P f vs.toArray w fun e w' => ∃ us Pr', e = .returned (joined us) ∧ Below w.heap.size w w' ∧ PExt Pr Pr' (fun k => w.heap.size ≤ k) ∧ (∀ b o, Pr' b o → b < w'.heap.size) ∧ TsRep γ0 Pr' w' ts us)
    (hp : ∀ t ∈ ts, t.pure) : DCalls P f args fun us => us = ts := fun Pr w vs hpr hr =>
  (h Pr w vs hpr hr).mono fun _ _ ⟨us, Pr', h1, h2, h3, h4, h5⟩ => ⟨us, ts, Pr', h1, h2, h3, h4, h5, hp, rfl⟩
/-- Scalars. -/
theorem TsRep.scs (vs : List Value) (h : vs.all (·.oneCell') = true) : TsRep γ Pr w (vs.map fun v => .one (.d (.sc v))) vs := by
  refine ⟨by simp, fun i t ht => ?_⟩
  rw [List.getElem?_map, Option.map_eq_some_iff] at ht
  obtain ⟨v, hv, rfl⟩ := ht
  exact ⟨v, hv, List.all_eq_true.1 h v (List.mem_of_getElem? hv), rfl⟩

/-- Is an interface's value nil? -/
theorem OpVal.eqNilF {T : TypeId → Option TyI} (hT : TOk P T) {t t' tx s0 b0 : Nat} {z0 : Value} {ms : Array (String × TypeId)} {x : Operand} {z : DV} (ho : o.op = .binOp .eql t x (.const .nilIface) t') (ht : T t = some ⟨.interface ms, s0, b0, z0⟩)
    (hx : opv env x = .v (.one (.d (.ifc tx z)))) : OpVal P N env M o (vB false) :=
  OpVal.of_run (v := .bool false) trivial fun γ Pr x0 a w h => ⟨by
    have h1 := h.opv x
    rw [hx] at h1
    obtain ⟨u, hu, _⟩ := h1
    have hm : P.underlying t = some (.interface (P.methodsAt t)) := by have := (hT _ _ ht).1; simp [Program.methodsAt, this]
    simp only [execOp, ho, hu, show a.eval (.const .nilIface) = Value.nilIface from rfl, eqGuard_at_iface, Sem.run_bind, Sem.run_pure, Result.andThen_ok, run_eql_held_nil w t tx u hm], rfl, rfl⟩
theorem OpVal.eqNilT {T : TypeId → Option TyI} (hT : TOk P T) {t t' s0 b0 : Nat} {z0 : Value} {ms : Array (String × TypeId)} {x : Operand} (ho : o.op = .binOp .eql t x (.const .nilIface) t') (ht : T t = some ⟨.interface ms, s0, b0, z0⟩)
    (hx : opv env x = .v (.one (.d (.sc .nilIface)))) : OpVal P N env M o (vB true) :=
  OpVal.of_run (v := .bool true) trivial fun γ Pr x0 a w h => ⟨by
    have h1 := h.opv x
    rw [hx] at h1
    have hu := h1.2
    have hm : P.underlying t = some (.interface (P.methodsAt t)) := by have := (hT _ _ ht).1; simp [Program.methodsAt, this]
    simp only [execOp, ho, hu, show a.eval (.const .nilIface) = Value.nilIface from rfl, eqGuard_nil_constR, Sem.run_bind, Sem.run_pure, Result.andThen_ok, run_eql_nil_nil w t hm], rfl, rfl⟩
end
end Go.Proofs.YtdneiepigllnkaaDoor.DL
