/- A logic of data for Go functions: strings (told as lists of bytes), the library's functions by their contracts. No program in sight. -/
import Derived.Test.YtdneiepigllnkaaDoorD17
import Derived.Laws.Strings
import Derived.Laws.Strings2
import Derived.Lib.Strings
namespace Go.Proofs.YtdneiepigllnkaaDoor.DL
open Go.RowKit

abbrev vT (l : List UInt8) : SV := .v (.one (.d (.sc (.string ⟨l.toArray⟩))))
abbrev tT (l : List UInt8) : TV := .one (.d (.sc (.string ⟨l.toArray⟩)))
def CV.isD : CV → Bool
  | .d _ => true
  | _ => false
theorem pure_aggB {cs : List CV} (h : cs.all CV.isD = true) : (TV.agg cs).pure := fun c hc => by
  have := List.all_eq_true.1 h c hc
  cases c <;> first | trivial | cases this
theorem ba_list (s : ByteArray) : (⟨s.data.toList.toArray⟩ : ByteArray) = s := by cases s; simp
theorem ba_toList (l : List UInt8) : (⟨l.toArray⟩ : ByteArray).toList = l := by rw [Lib.toList_data]

section
variable {P : Program} {N : Nat} {ops : Array Oper} {Q : DPost} {env : Env} {M M0 : Mem} {γ : Cn} {Pr : Prot} {x0 : Ctx} {w : World} {a : Act} {o : Oper} {rest : List Oper}

theorem opT (h : Rel γ Pr x0 N env M a w) {x : Operand} {l : List UInt8} (hx : opv env x = vT l) : a.eval x = .string ⟨l.toArray⟩ := by
  have h1 := h.opv x; rw [hx] at h1; exact h1.2

theorem ba_append (l m : List UInt8) : (⟨l.toArray⟩ : ByteArray) ++ ⟨m.toArray⟩ = ⟨(l ++ m).toArray⟩ := by
  apply ByteArray.ext
  simp

theorem OpVal.cat {t t' : TypeId} {x y : Operand} {l m : List UInt8} (ho : o.op = .binOp .add t x y t') (hx : opv env x = vT l) (hy : opv env y = vT m)
    (h : l.length + m.length ≤ 9223372036854775807) : OpVal P N env M o (vT (l ++ m)) :=
  OpVal.of_run (v := .string ⟨(l ++ m).toArray⟩) trivial fun γ Pr x0 a w hr => ⟨by
    have hs : ¬ ((((⟨l.toArray⟩ : ByteArray).size + (⟨m.toArray⟩ : ByteArray).size : Nat) : Int) > IntKind.i64.max) := by
      have e : IntKind.i64.max = 9223372036854775807 := by decide
      rw [e]; simp only [ByteArray.size, List.size_toArray]; omega
    simp only [execOp, ho, opT hr hx, opT hr hy, eqGuard_at_string, binOp, Op.stringOp, if_neg hs, ba_append, Sem.run_bind, Sem.run_pure, Result.andThen_ok], rfl, rfl⟩
theorem OpVal.eqlS {t t' : TypeId} {x y : Operand} {l m : List UInt8} (ho : o.op = .binOp .eql t x y t') (hx : opv env x = vT l) (hy : opv env y = vT m) : OpVal P N env M o (vB (decide (l = m))) :=
  OpVal.of_run (v := .bool (decide (l = m))) trivial fun γ Pr x0 a w h => ⟨by
    simp only [execOp, ho, opT h hx, opT h hy, eqGuard_at_string, binOp, Op.stringOp, ba_toList, Sem.run_bind, Sem.run_pure, Result.andThen_ok]
    by_cases e : l = m <;> simp [e], rfl, rfl⟩
theorem OpVal.neqS {t t' : TypeId} {x y : Operand} {l m : List UInt8} (ho : o.op = .binOp .neq t x y t') (hx : opv env x = vT l) (hy : opv env y = vT m) : OpVal P N env M o (vB (!decide (l = m))) :=
  OpVal.of_run (v := .bool (!decide (l = m))) trivial fun γ Pr x0 a w h => ⟨by
    simp only [execOp, ho, opT h hx, opT h hy, eqGuard_at_string, binOp, Op.stringOp, ba_toList, Sem.run_bind, Sem.run_pure, Result.andThen_ok]
    by_cases e : l = m <;> simp [e], rfl, rfl⟩

theorem OpVal.eqlST {t t' : TypeId} {x y : Operand} {l m : List UInt8} (ho : o.op = .binOp .eql t x y t') (hx : opv env x = vT l) (hy : opv env y = vT m) (h : l = m) : OpVal P N env M o (vB true) := by
  have := OpVal.eqlS (P := P) (N := N) (M := M) ho hx hy
  rwa [decide_eq_true h] at this
theorem OpVal.eqlSF {t t' : TypeId} {x y : Operand} {l m : List UInt8} (ho : o.op = .binOp .eql t x y t') (hx : opv env x = vT l) (hy : opv env y = vT m) (h : ¬ l = m) : OpVal P N env M o (vB false) := by
  have := OpVal.eqlS (P := P) (N := N) (M := M) ho hx hy
  rwa [decide_eq_false h] at this
theorem OpVal.neqST {t t' : TypeId} {x y : Operand} {l m : List UInt8} (ho : o.op = .binOp .neq t x y t') (hx : opv env x = vT l) (hy : opv env y = vT m) (h : ¬ l = m) : OpVal P N env M o (vB true) := by
  have := OpVal.neqS (P := P) (N := N) (M := M) ho hx hy
  rwa [decide_eq_false h] at this
theorem OpVal.neqSF {t t' : TypeId} {x y : Operand} {l m : List UInt8} (ho : o.op = .binOp .neq t x y t') (hx : opv env x = vT l) (hy : opv env y = vT m) (h : l = m) : OpVal P N env M o (vB false) := by
  have := OpVal.neqS (P := P) (N := N) (M := M) ho hx hy
  rwa [decide_eq_true h] at this
theorem OpVal.lenT {T : TypeId → Option TyI} (hT : TOk P T) {t : TypeId} {i : TyI} {x : Operand} {l : List UInt8} {cl : Call} (ho : o.op = .call cl) (hcl : cl.callee = .builtin .len) (hargs : cl.args = #[x]) (hty : cl.argTypes = #[t])
    (ht : T t = some i) (hd : i.desc = .string) (hx : opv env x = vT l) : OpVal P N env M o (vI .i64 l.length) := OpVal.lenS hT ho hcl hargs hty ht hd hx

theorem OpVal.idxT {T : TypeId → Option TyI} (hT : TOk P T) {t : TypeId} {i : TyI} {x y : Operand} {l : List UInt8} {kd : IntKind} {n : Int} {b : UInt8} (ho : o.op = .index t x y) (ht : T t = some i) (hd : i.desc = .string)
    (hx : opv env x = vT l) (hy : opv env y = vI kd n) (h0 : 0 ≤ n) (hb : l[n.toNat]? = some b) : OpVal P N env M o (vI .u8 b.toNat) :=
  OpVal.of_run (v := .int .u8 b.toNat) trivial fun γ Pr x0 a w h => by
    have hu := run_under (w := w) hT ht
    rw [hd] at hu
    obtain ⟨hlt, he⟩ := List.getElem?_eq_some_iff.1 hb
    refine ⟨?_, rfl, rfl⟩
    simp only [execOp, ho, opT h hx, opI h hy, Sem.run_bind, Instr.index, asIntOf, Sem.run_pure, Result.andThen_ok, hu, if_pos h0]
    have : (⟨l.toArray⟩ : ByteArray)[n.toNat]? = some b := by
      rw [ByteArray.getElem?_lt' _ _ (by simpa [ByteArray.size] using hlt)]
      show some ((l.toArray)[n.toNat]'_) = some b
      simp [he]
    rw [this]
    simp

theorem ba_extract (l : List UInt8) (i j : Nat) : (⟨l.toArray⟩ : ByteArray).extract i j = ⟨((l.take j).drop i).toArray⟩ := by
  apply ByteArray.ext
  apply Array.ext'
  simp [ByteArray.data_extract, List.extract_eq_take_drop, List.drop_take]

theorem OpVal.sliceT {T : TypeId → Option TyI} (hT : TOk P T) {t : TypeId} {i : TyI} {x : Operand} {lo hi : Option Operand} {l : List UInt8} {b e : Nat} (ho : o.op = .slice t x lo hi none) (ht : T t = some i) (hd : i.desc = .string)
    (hx : opv env x = vT l) (hlo : match lo with | none => b = 0 | some y => ∃ kd, opv env y = vI kd b) (hhi : match hi with | none => e = l.length | some y => ∃ kd, opv env y = vI kd e) (h1 : b ≤ e) (h2 : e ≤ l.length) :
    OpVal P N env M o (vT ((l.take e).drop b)) :=
  OpVal.of_run (v := .string ⟨((l.take e).drop b).toArray⟩) trivial fun γ Pr x0 a w hr => by
    have hu := run_under (w := w) hT ht
    rw [hd] at hu
    refine ⟨?_, rfl, rfl⟩
    have hsz : (⟨l.toArray⟩ : ByteArray).size = l.length := by simp [ByteArray.size]
    have hb : (Instr.sliceBounds false l.length l.length (lo.map a.eval) (hi.map a.eval) none).run P w = .ok (b, e, l.length) w := by
      unfold Instr.sliceBounds
      cases hi with
      | none =>
        subst hhi
        cases lo with
        | none => subst hlo; simp
        | some y =>
          obtain ⟨kd, hy⟩ := hlo
          simp only [Option.map_some, Option.map_none, opI hr hy]
          simp [Instr.sliceBound, asIntOf, h1]
      | some z =>
        obtain ⟨kd', hz⟩ := hhi
        cases lo with
        | none =>
          subst hlo
          simp only [Option.map_some, Option.map_none, opI hr hz]
          simp [Instr.sliceBound, asIntOf, h2]
        | some y =>
          obtain ⟨kd, hy⟩ := hlo
          simp only [Option.map_some, opI hr hy, opI hr hz]
          simp [Instr.sliceBound, asIntOf, h1, h2]
    simp only [execOp, ho, opT hr hx]
    simp only [Instr.sliceAt, Sem.run_bind, hu, Result.andThen_ok, Instr.slice, Option.map_none, hsz, hb, Sem.run_pure, Option.isSome_none, Bool.false_eq_true, if_false, ba_extract]

theorem OpVal.conv {T : TypeId → Option TyI} (hT : TOk P T) {t t' : TypeId} {i i' : TyI} {x : Operand} {k k' : IntKind} {n : Int} (ho : o.op = .convert t t' x) (ht : T t = some i) (hd : i.desc = .int k) (ht' : T t' = some i') (hd' : i'.desc = .int k')
    (hx : opv env x = vI k n) : OpVal P N env M o (vI k' (k'.wrap n)) :=
  OpVal.of_run (v := .int k' (k'.wrap n)) trivial fun γ Pr x0 a w h => ⟨by
    have hu := run_under (w := w) hT ht
    have hu' := run_under (w := w) hT ht'
    rw [hd] at hu
    rw [hd'] at hu'
    simp only [execOp, ho, opI h hx, convert, Sem.run_bind, hu, hu', Result.andThen_ok, Conv.intToInt, Sem.run_pure], rfl, rfl⟩

/-- A contract of the library's whose result is a scalar. -/
theorem DCalls.lib1 {f : FuncId} {args : List TV} {r : Value} (h1 : r.oneCell' = true)
    (h : ∀ Pr w vs, PV Pr w → TsRep γ0 Pr w args vs → Calls P f vs.toArray w fun e w' => e = .returned r ∧ Below w.heap.size w w') : DCalls P f args fun ts => ts = [.one (.d (.sc r))] := by
  intro Pr w vs hp hr
  refine (h Pr w vs hp hr).mono fun e w' ⟨he, hb⟩ => ⟨[r], _, Pr, he, hb, PExt.refl _ _, fun b o hx => Nat.lt_of_lt_of_le (hp b o hx) hb.size, ⟨rfl, fun i t ht => ?_⟩, ?_, rfl⟩
  · match i, ht with
    | 0, ht => simp at ht; subst ht; exact ⟨r, rfl, h1, rfl⟩
    | i + 1, ht => simp at ht
  · intro t ht
    simp at ht
    subst ht
    trivial

theorem TsRep.inv {t : TV} {ts : List TV} {vs : List Value} (h : TsRep γ Pr w (t :: ts) vs) : ∃ v us, vs = v :: us ∧ TRep γ Pr w t v ∧ TsRep γ Pr w ts us := by
  obtain ⟨hl, hh⟩ := h
  obtain ⟨u, hu, hr⟩ := hh 0 t rfl
  match vs, hl with
  | v :: us, hl => simp at hu; subst hu; exact ⟨v, us, rfl, hr, by simpa using hl, fun i t ht => hh (i + 1) t ht⟩
theorem TsRep.inv0 {vs : List Value} (h : TsRep γ Pr w [] vs) : vs = [] := List.eq_nil_of_length_eq_zero h.1
theorem TRep.sc {v u : Value} (h : TRep γ Pr w (.one (.d (.sc v))) u) : u = v := h.2

/-- A list of strings. -/
def elS (L : List (List UInt8)) : Nat → Nat → DV := fun i _ => .sc (.string ⟨(L.getD i []).toArray⟩)
abbrev lS (L : List (List UInt8)) : DV := .sl L.length 1 (elS L)
abbrev tL (L : List (List UInt8)) : TV := .one (.d (lS L))
abbrev dS (l : List UInt8) : DV := .sc (.string ⟨l.toArray⟩)
theorem OpVal.ldS {T : TypeId → Option TyI} (hT : TOk P T) {t s0 b0 n m : Nat} {z0 : Value} {d0 : TypeDesc} {x : Operand} {L : List (List UInt8)} (ho : o.op = .load t x) (ht : T t = some ⟨d0, s0, b0, z0⟩) (ha : aggD d0 = false) (hx : opv env x = .v (.one (.d (.pp 1 (elS L n))))) (hn : n = m) :
    OpVal P N env M o (vT (L.getD m [])) := by
  subst hn
  exact OpVal.ld hT ho ht ha hx (by omega) rfl
theorem strs_flat (L : List (List UInt8)) : ∀ p, p < L.length → ∀ q, q < 1 → (L.map dS)[p * 1 + q]? = some (elS L p q) := fun p hp q hq => by
  obtain rfl : q = 0 := by omega
  rw [Nat.mul_one, Nat.add_zero, List.getElem?_map, List.getElem?_eq_getElem hp]
  simp [elS, List.getD_eq_getElem?_getD, hp]
theorem strs_snoc (L : List (List UInt8)) (x : List UInt8) : (L.map dS).map CV.d ++ [dS x].map CV.d = ((L ++ [x]).map dS).map CV.d := by simp
theorem one_str (x : List UInt8) : ∀ p, p < 1 → ∀ q, q < 1 → ([dS x] : List DV)[p * 1 + q]? = some (dS x) := fun p hp q hq => by
  obtain rfl : q = 0 := by omega
  obtain rfl : p = 0 := by omega
  rfl
end
end Go.Proofs.YtdneiepigllnkaaDoor.DL
