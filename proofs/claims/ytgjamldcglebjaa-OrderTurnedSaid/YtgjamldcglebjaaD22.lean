/- A logic of data for Go functions: in a statement whose order is open, an operation whose value hangs on no world may be taken first. No program in sight. -/
import Derived.Test.YtgjamldcglebjaaD21
namespace Go.Proofs.Ytgjamldcglebjaa.DL
open Go.RowKit

section
variable {P : Program} {N : Nat} {ops : Array Oper} {Q : DPost} {env : Env} {M M0 : Mem} {γ : Cn} {Pr : Prot} {x0 : Ctx} {w : World} {a : Act} {o : Oper} {rest : List Oper}

theorem OpLz.iaD {T : TypeId → Option TyI} (hT : TOk P T) {t e s0 b0 s1 b1 : Nat} {z0 z1 : Value} {d1 : TypeDesc} {x y : Operand} {m k : Nat} {el : Nat → Nat → DV} {kd : IntKind} {n : Int} (hg : gd ops env o = some true) (ho : o.op = .indexAddr t x y) (ht : T t = some ⟨.slice e, s0, b0, z0⟩) (hj : T e = some ⟨d1, s1, b1, z1⟩)
    (hk : s1 = k) (hx : opv env x = .v (.one (.d (.sl m k el)))) (hy : opv env y = vI kd n) (h0 : 0 ≤ n) (h1 : n < m) : OpLz P N ops env o (.v (.one (.d (.pp k (el n.toNat))))) := by
  refine ⟨hg, fun γ Pr x0 a w M h => ?_⟩
  have h2 := h.opv x; have h4 := opI h hy
  rw [hx] at h2
  obtain ⟨A, c, he, hc, hh⟩ := h2
  obtain ⟨b, q, rfl, hcell⟩ := hh (by omega)
  refine ⟨trivial, .pointer (some ⟨b, q + n.toNat * k, none⟩), fun w' => ?_, b, q + n.toNat * k, rfl, fun r hr => ?_⟩
  · have hu := run_under (w := w') hT ht
    simp only [] at hu
    simp only [execOp, ho, he, h4, Instr.indexAt, asIntOf, Sem.run_bind, Sem.run_pure, Result.andThen_ok, hu]
    simp [h0, h1, run_sizeOf hT hj, hk, Addr.add_mid]
  · have := hcell n.toNat (by omega) r hr
    rw [← Nat.add_assoc] at this
    exact this

def noSels (l : List Oper) : Bool := l.all noSel
def freeOk (l : List Oper) (L : List Bool) (i : Nat) (o : Oper) : Bool :=
  noSels l && !L.getD i true && (ons o).all (fun j => L.getD j false) && (List.range l.length).all fun j => j == i || L.getD j true || match l[j]? with
    | none => true
    | some p => (ons p).contains i || o.apart l.toArray p

/-- What is left of a statement whose order is open. -/
def DW (P : Program) (N : Nat) (M0 : Mem) (l : List Oper) (Q : DPost) (f : Nat) (L : List Bool) (env : Env) (M : Mem) : Prop :=
  ∀ x0 a w, x0.M0 = M0 → At x0 N env M a w → wpAny P .any l.toArray (up x0 N Q) f L.toArray a w

section
variable {l : List Oper} {f : Nat} {L : List Bool}
theorem DW.any (h : DAny P N M0 l.toArray Q f L.toArray env M) : DW P N M0 l Q f L env M := fun x0 a w hx hat => DAny.wp f _ env M h x0 a w hx hat
theorem DW.take (i : Nat) {d : Nat} {r : SV} {L' : List Bool} (ho : l[i]? = some o) (np : NP Q) (hfr : freeOk l L i o = true) (hd : o.dst = some d) (hN : Nat.blt d N = true) (hz : OpLz P N l.toArray env o r) (hL : L.set i true = L') (h : DW P N M0 l Q f L' ((d, r) :: env) M) : DW P N M0 l Q (f + 1) L env M := by
  subst hL
  intro x0 a w hx ⟨γ, Pr, hr, hf⟩
  obtain ⟨hg, hq⟩ := hz
  obtain ⟨hok, v, hrun, hrep⟩ := hq γ Pr x0 a w M hr
  rw [freeOk, Bool.and_eq_true, Bool.and_eq_true, Bool.and_eq_true] at hfr
  obtain ⟨⟨⟨f1, f2⟩, f3⟩, f4⟩ := hfr
  have g : ∀ (j : Nat) b, L.toArray.getD j b = L.getD j b := fun j b => by simp [Array.getD_eq_getD_getElem?, List.getD_eq_getElem?_getD]
  have hon : l.toArray[i]? = some o := by simpa using ho
  have hsel : ∀ (j : Nat) (p : Oper) cs b, l.toArray[j]? = some p → p.op ≠ .select cs b := fun j p cs b hj e => by
    have := List.all_eq_true.1 f1 p (List.mem_of_getElem? (by simpa using hj))
    rw [noSel, e] at this
    cases this
  refine wpAny_first (oi := o) (v := v) hon hsel (fun c a w hp => ?_) f L.toArray a w (fun j oj hj hne hlj hno => ?_) ?_ (.inl ⟨gd_wanted (ops := l.toArray) hr hg, hrun⟩) ?_
  · obtain ⟨env', M', _, hp⟩ := hp
    exact absurd hp (np c env' M')
  · have hj' : l[j]? = some oj := by simpa using hj
    have h2 := List.all_eq_true.1 f4 j (List.mem_range.2 (List.getElem?_eq_some_iff.1 hj').1)
    rw [hj'] at h2
    simp only [] at h2
    rw [Bool.or_eq_true, Bool.or_eq_true, Bool.or_eq_true] at h2
    rcases h2 with (h2 | h2) | h2 | h2
    · exact absurd (by simpa using h2) hne
    · rw [g] at hlj; rw [hlj] at h2; cases h2
    · obtain ⟨e, he, hb, hon⟩ := mem_ons.1 h2
      exact absurd hon (hno e (by simpa using he) hb)
    · exact h2
  · refine ready_of (by simpa using (List.getElem?_eq_some_iff.1 ho).1) (by rw [g]; simpa using f2) hon fun e he hb => ?_
    rw [g]
    exact List.all_eq_true.1 f3 e.on (by simp only [ons, List.mem_map, List.mem_filter]; exact ⟨e, ⟨he, hb⟩, rfl⟩)
  · have hput : a.put o.dst v = a.put (some d) v := by rw [hd]
    rw [List.setIfInBounds_toArray, hput]
    exact h x0 _ w hx ⟨γ, Pr, hr.put (dst := some d) (fun d' h => by injection h with h; rw [← h]; exact Nat.le_of_ble_eq_true hN) hrep hok, hf⟩
end
end
end Go.Proofs.Ytgjamldcglebjaa.DL
