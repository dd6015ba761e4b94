/- A logic of data for Go functions: strings (told as lists of bytes), the library's functions by their contracts. No program in sight. -/
import Derived.Test.YtgjamldcglebjaaD17
import Derived.Laws.Strings
import Derived.Laws.Strings2
import Derived.Lib.Strings
namespace Go.Proofs.Ytgjamldcglebjaa.DL
open Go.RowKit

abbrev vT (l : List UInt8) : SV := .v (.one (.d (.sc (.string ⟨l.toArray⟩))))
def CV.isD : CV → Bool
  | .d _ => true
  | _ => false
theorem pure_aggB {cs : List CV} (h : cs.all CV.isD = true) : (TV.agg cs).pure := fun c hc => by
  have := List.all_eq_true.1 h c hc
  cases c <;> first | trivial | cases this
theorem ba_toList (l : List UInt8) : (⟨l.toArray⟩ : ByteArray).toList = l := by rw [Lib.toList_data]

section
variable {P : Program} {N : Nat} {ops : Array Oper} {Q : DPost} {env : Env} {M M0 : Mem} {γ : Cn} {Pr : Prot} {x0 : Ctx} {w : World} {a : Act} {o : Oper} {rest : List Oper}

theorem opT (h : Rel γ Pr x0 N env M a w) {x : Operand} {l : List UInt8} (hx : opv env x = vT l) : a.eval x = .string ⟨l.toArray⟩ := by
  have h1 := h.opv x; rw [hx] at h1; exact h1.2

theorem ba_append (l m : List UInt8) : (⟨l.toArray⟩ : ByteArray) ++ ⟨m.toArray⟩ = ⟨(l ++ m).toArray⟩ := by
  apply ByteArray.ext
  simp

theorem OpVal.cat {t t' : TypeId} {x y : Operand} {l m : List UInt8} (ho : o.op = .binOp .add t x y t') (hx : opv env x = vT l) (hy : opv env y = vT m)
    (h : l.length + m.length ≤ 9223372036854775807) : OpVal P N env M o (vT (l ++ m)) :=
  OpVal.of_run (v := .string ⟨(l ++ m).toArray⟩) trivial fun γ Pr x0 a w hr => ⟨by
    have hs : ¬ ((((⟨l.toArray⟩ : ByteArray).size + (⟨m.toArray⟩ : ByteArray).size : Nat) : Int) > IntKind.i64.max) := by
      have e : IntKind.i64.max = 9223372036854775807 := by decide
      rw [e]; simp only [ByteArray.size, List.size_toArray]; omega
    simp only [execOp, ho, opT hr hx, opT hr hy, eqGuard_at_string, binOp, Op.stringOp, if_neg hs, ba_append, Sem.run_bind, Sem.run_pure, Result.andThen_ok], rfl, rfl⟩
theorem OpVal.eqlS {t t' : TypeId} {x y : Operand} {l m : List UInt8} (ho : o.op = .binOp .eql t x y t') (hx : opv env x = vT l) (hy : opv env y = vT m) : OpVal P N env M o (vB (decide (l = m))) :=
  OpVal.of_run (v := .bool (decide (l = m))) trivial fun γ Pr x0 a w h => ⟨by
    simp only [execOp, ho, opT h hx, opT h hy, eqGuard_at_string, binOp, Op.stringOp, ba_toList, Sem.run_bind, Sem.run_pure, Result.andThen_ok]
    by_cases e : l = m <;> simp [e], rfl, rfl⟩
theorem OpVal.neqS {t t' : TypeId} {x y : Operand} {l m : List UInt8} (ho : o.op = .binOp .neq t x y t') (hx : opv env x = vT l) (hy : opv env y = vT m) : OpVal P N env M o (vB (!decide (l = m))) :=
  OpVal.of_run (v := .bool (!decide (l = m))) trivial fun γ Pr x0 a w h => ⟨by
    simp only [execOp, ho, opT h hx, opT h hy, eqGuard_at_string, binOp, Op.stringOp, ba_toList, Sem.run_bind, Sem.run_pure, Result.andThen_ok]
    by_cases e : l = m <;> simp [e], rfl, rfl⟩

theorem OpVal.eqlST {t t' : TypeId} {x y : Operand} {l m : List UInt8} (ho : o.op = .binOp .eql t x y t') (hx : opv env x = vT l) (hy : opv env y = vT m) (h : l = m) : OpVal P N env M o (vB true) := by
  have := OpVal.eqlS (P := P) (N := N) (M := M) ho hx hy
  rwa [decide_eq_true h] at this
theorem OpVal.eqlSF {t t' : TypeId} {x y : Operand} {l m : List UInt8} (ho : o.op = .binOp .eql t x y t') (hx : opv env x = vT l) (hy : opv env y = vT m) (h : ¬ l = m) : OpVal P N env M o (vB false) := by
  have := OpVal.eqlS (P := P) (N := N) (M := M) ho hx hy
  rwa [decide_eq_false h] at this
theorem OpVal.neqST {t t' : TypeId} {x y : Operand} {l m : List UInt8} (ho : o.op = .binOp .neq t x y t') (hx : opv env x = vT l) (hy : opv env y = vT m) (h : ¬ l = m) : OpVal P N env M o (vB true) := by
  have := OpVal.neqS (P := P) (N := N) (M := M) ho hx hy
  rwa [decide_eq_false h] at this
theorem OpVal.neqSF {t t' : TypeId} {x y : Operand} {l m : List UInt8} (ho : o.op = .binOp .neq t x y t') (hx : opv env x = vT l) (hy : opv env y = vT m) (h : l = m) : OpVal P N env M o (vB false) := by
  have := OpVal.neqS (P := P) (N := N) (M := M) ho hx hy
  rwa [decide_eq_true h] at this
theorem OpVal.lenT {T : TypeId → Option TyI} (hT : TOk P T) {t : TypeId} {i : TyI} {x : Operand} {l : List UInt8} {cl : Call} (ho : o.op = .call cl) (hcl : cl.callee = .builtin .len) (hargs : cl.args = #[x]) (hty : cl.argTypes = #[t])
    (ht : T t = some i) (hd : i.desc = .string) (hx : opv env x = vT l) : OpVal P N env M o (vI .i64 l.length) := OpVal.lenS hT ho hcl hargs hty ht hd hx

theorem OpVal.conv {T : TypeId → Option TyI} (hT : TOk P T) {t t' : TypeId} {i i' : TyI} {x : Operand} {k k' : IntKind} {n : Int} (ho : o.op = .convert t t' x) (ht : T t = some i) (hd : i.desc = .int k) (ht' : T t' = some i') (hd' : i'.desc = .int k')
    (hx : opv env x = vI k n) : OpVal P N env M o (vI k' (k'.wrap n)) :=
  OpVal.of_run (v := .int k' (k'.wrap n)) trivial fun γ Pr x0 a w h => ⟨by
    have hu := run_under (w := w) hT ht
    have hu' := run_under (w := w) hT ht'
    rw [hd] at hu
    rw [hd'] at hu'
    simp only [execOp, ho, opI h hx, convert, Sem.run_bind, hu, hu', Result.andThen_ok, Conv.intToInt, Sem.run_pure], rfl, rfl⟩

theorem TsRep.inv {t : TV} {ts : List TV} {vs : List Value} (h : TsRep γ Pr w (t :: ts) vs) : ∃ v us, vs = v :: us ∧ TRep γ Pr w t v ∧ TsRep γ Pr w ts us := by
  obtain ⟨hl, hh⟩ := h
  obtain ⟨u, hu, hr⟩ := hh 0 t rfl
  match vs, hl with
  | v :: us, hl => simp at hu; subst hu; exact ⟨v, us, rfl, hr, by simpa using hl, fun i t ht => hh (i + 1) t ht⟩
theorem TRep.sc {v u : Value} (h : TRep γ Pr w (.one (.d (.sc v))) u) : u = v := h.2

/-- A list of strings. -/
def elS (L : List (List UInt8)) : Nat → Nat → DV := fun i _ => .sc (.string ⟨(L.getD i []).toArray⟩)
theorem OpVal.ldS {T : TypeId → Option TyI} (hT : TOk P T) {t s0 b0 n m : Nat} {z0 : Value} {d0 : TypeDesc} {x : Operand} {L : List (List UInt8)} (ho : o.op = .load t x) (ht : T t = some ⟨d0, s0, b0, z0⟩) (ha : aggD d0 = false) (hx : opv env x = .v (.one (.d (.pp 1 (elS L n))))) (hn : n = m) :
    OpVal P N env M o (vT (L.getD m [])) := by
  subst hn
  exact OpVal.ld hT ho ht ha hx (by omega) rfl
end
end Go.Proofs.Ytgjamldcglebjaa.DL
