/- A logic of data for Go functions: a statement whose order is open, in each of its orders, memoryless operations taken as they come. No program in sight. -/
import Derived.Test.YtgjamldcglebjaaD22
namespace Go.Proofs.Ytgjamldcglebjaa.DL
open Go.RowKit

section
variable {P : Program} {N : Nat} {ops : Array Oper} {Q : DPost} {env : Env} {M M0 : Mem} {γ : Cn} {Pr : Prot} {x0 : Ctx} {w : World} {a : Act} {o : Oper} {rest : List Oper}
variable {l : List Oper} {f : Nat} {L : List Bool}

def DWAlts (P : Program) (N : Nat) (M0 : Mem) (l : List Oper) (Q : DPost) (f : Nat) (L : List Bool) (env : Env) (M : Mem) : List Nat → Prop
  | [] => True
  | i :: r => (∃ o, l[i]? = some o ∧ DOps P N M0 l.toArray (thenQ (DW P N M0 l Q f (L.set i true)) Q) [o] env M) ∧ DWAlts P N M0 l Q f L env M r
theorem DWAlts.all : ∀ {is : List Nat}, DWAlts P N M0 l Q f L env M is → ∀ i ∈ is, ∀ o, l[i]? = some o → DOps P N M0 l.toArray (thenQ (DW P N M0 l Q f (L.set i true)) Q) [o] env M
  | [], _, i, hi, _, _ => by cases hi
  | j :: r, ⟨⟨o', h1, h2⟩, h3⟩, i, hi, o, ho => by
    rcases List.mem_cons.1 hi with rfl | hi
    · rw [h1] at ho
      obtain rfl := Option.some.inj ho
      exact h2
    · exact h3.all i hi o ho
theorem DWAlts.cons {i : Nat} {r : List Nat} (ho : l[i]? = some o) (h : DOps P N M0 l.toArray (thenQ (DW P N M0 l Q f (L.set i true)) Q) [o] env M) (hr : DWAlts P N M0 l Q f L env M r) : DWAlts P N M0 l Q f L env M (i :: r) := ⟨⟨o, ho, h⟩, hr⟩
theorem DWAlts.nil : DWAlts P N M0 l Q f L env M [] := trivial

theorem DW.intro (i : Nat) (is : List Nat) (hr : readyL l L = i :: is) (h : DWAlts P N M0 l Q f L env M (i :: is)) : DW P N M0 l Q (f + 1) L env M := fun x0 a w hx hat => by
  have e : Region.ready .any l.toArray L.toArray = i :: is := by rw [readyL_eq, hr]
  refine ⟨fun e' => (by rw [e] at e'; cases e'), fun j hj => ?_⟩
  rw [e] at hj
  have K : ∀ a' w', wpList P l.toArray (up x0 N (thenQ (DW P N M0 l Q f (L.set j true)) Q)) [] a' w' → wpAny P .any l.toArray (up x0 N Q) f (L.toArray.setIfInBounds j true) a' w' := fun a' w' ⟨env', M', hat', hq⟩ => by
    rw [List.setIfInBounds_toArray]
    exact hq x0 a' w' hx hat'
  have hQ : ∀ e a w, e ≠ .normal → up x0 N (thenQ (DW P N M0 l Q f (L.set j true)) Q) e a w → up x0 N Q e a w := fun e a w hne ⟨env', M', hat', hq⟩ => ⟨env', M', hat', by cases e <;> first | exact absurd rfl hne | exact hq⟩
  unfold wpOp
  cases ho : l.toArray[j]? with
  | none =>
    have hj' : j ∈ Region.ready .any l.toArray L.toArray := by rw [e]; exact hj
    simp only [Region.ready, List.mem_filter, ho] at hj'
    simp at hj'
  | some o =>
    have h1 := h.all j hj o (by simpa using ho) x0 a w hx hat
    unfold wpList at h1
    simp only
    split
    · rename_i hw
      rw [if_pos hw] at h1
      exact h1.imp (wp_exits K hQ) fun ⟨h2, a2, _, h3⟩ => ⟨h2, a2, _, hQ _ _ _ (by simp) h3⟩
    · rename_i hw
      rw [if_neg hw] at h1
      exact K _ _ h1
theorem DW.fin (hr : readyL l L = []) (h : Q .normal env M) : DW P N M0 l Q f L env M := fun x0 a w hx hat => by
  have e : Region.ready .any l.toArray L.toArray = [] := by rw [readyL_eq, hr]
  exact wpAny_done e ⟨env, M, hat, h⟩ f
theorem DW.weak {env' : Env} {M' : Mem} (k : Wk N M0 env M env' M') (h : DW P N M0 l Q f L env' M') : DW P N M0 l Q f L env M := fun x0 a w hx hat => h x0 a w hx (k x0 a w hx hat)

theorem OpLz.extract {x : Operand} {k : Nat} {ts : List TV} {t : TV} (hg : gd ops env o = some true) (ho : o.op = .extract x k) (hx : opv env x = .tup ts) (ht : ts[k]? = some t) (hf : t.pure) : OpLz P N ops env o (.v t) := by
  refine ⟨hg, fun γ Pr x0 a w M h => ?_⟩
  have h1 := h.opv x
  rw [hx] at h1
  obtain ⟨vs, hv, hl, hh⟩ := h1
  obtain ⟨y, hy, hr⟩ := hh k t ht
  exact ⟨TV.pure_ok hf, y, fun w' => by simp [execOp, ho, hv, Instr.extract, hy], hr⟩
theorem OpLz.moveT {x : Operand} {ts : List TV} (hg : gd ops env o = some true) (ho : o.op = .move x) (hx : opv env x = .tup ts) (hf : ∀ t ∈ ts, t.pure) : OpLz P N ops env o (.tup ts) := by
  refine ⟨hg, fun γ Pr x0 a w M h => ⟨fun t ht => TV.pure_ok (hf t ht), a.eval x, fun w' => ?_, ?_⟩⟩
  · simp [execOp, ho]
  · have := h.opv x
    rwa [hx] at this
theorem OpLz.arith {op : BinOp} {t t' : TypeId} {x y : Operand} {k : IntKind} {m n r : Int} (hg : gd ops env o = some true) (ho : o.op = .binOp op t x y t') (hx : opv env x = vI k m) (hy : opv env y = vI k n)
    (hr : DL.arith op k m n = some r) : OpLz P N ops env o (vI k r) :=
  ⟨hg, fun γ Pr x0 a w M h => ⟨trivial, .int k r, fun w' => by
    cases op <;> simp [DL.arith] at hr <;> simp [execOp, ho, opI h hx, opI h hy, eqGuard_at_int, binOp, Op.intArith, hr], rfl, rfl⟩⟩
theorem OpLz.add {t t' : TypeId} {x y : Operand} {m n : Int} (hg : gd ops env o = some true) (ho : o.op = .binOp .add t x y t') (hx : opv env x = vI .i64 m) (hy : opv env y = vI .i64 n)
    (h0 : -9223372036854775808 ≤ m + n) (h1 : m + n ≤ 9223372036854775807) : OpLz P N ops env o (vI .i64 (m + n)) :=
  OpLz.arith hg ho hx hy (by simp [DL.arith, wrap_in64 h0 h1])
theorem OpLz.mul {t t' : TypeId} {x y : Operand} {m n : Int} (hg : gd ops env o = some true) (ho : o.op = .binOp .mul t x y t') (hx : opv env x = vI .i64 m) (hy : opv env y = vI .i64 n)
    (h0 : -9223372036854775808 ≤ m * n) (h1 : m * n ≤ 9223372036854775807) : OpLz P N ops env o (vI .i64 (m * n)) :=
  OpLz.arith hg ho hx hy (by simp [DL.arith, wrap_in64 h0 h1])
theorem OpLz.gtr {t t' : TypeId} {x y : Operand} {k : IntKind} {m n : Int} (hg : gd ops env o = some true) (ho : o.op = .binOp .gtr t x y t') (hx : opv env x = vI k m) (hy : opv env y = vI k n) : OpLz P N ops env o (vB (decide (m > n))) :=
  ⟨hg, fun γ Pr x0 a w M h => ⟨trivial, .bool (decide (m > n)), fun w' => by simp [execOp, ho, opI h hx, opI h hy, eqGuard_at_int, binOp, Op.intCmp], rfl, rfl⟩⟩
end
end Go.Proofs.Ytgjamldcglebjaa.DL
