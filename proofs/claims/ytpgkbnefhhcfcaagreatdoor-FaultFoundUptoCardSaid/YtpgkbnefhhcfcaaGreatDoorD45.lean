/- A logic of data for Go functions: what is known behind a region's last operation, told once. No program in sight. -/
import Derived.Test.YtpgkbnefhhcfcaaGreatDoorD15
import Derived.Laws.Strings
import Derived.Laws.Strings2
import Derived.Lib.Strings
import Derived.Deep.Slices
import Derived.ChangeOld
import Derived.Below
import Derived.Lib.AtoiErrMem
import Derived.WideLaws
import Derived.Laws.OwnMore
import Derived.Laws.MakeOwn
import Derived.Lib.Builder
import Derived.Lib.AppendStr
import Derived.Laws.Externs
import Derived.Laws.Entries
import Derived.ArgAppend
import Derived.OwnWalk
import Derived.Sort.OwnSortedInts
import Derived.Lib.SlicesCompact
import Derived.Lib.RowBridge
import Derived.Shelf.Spec.BitsCarry
import Derived.LaidEql

set_option linter.unusedVariables false
set_option linter.unusedSimpArgs false
set_option linter.constructorNameAsVariable false
namespace Go.Proofs.YtpgkbnefhhcfcaaGreatDoor.DL
open Go.RowKit

section
variable {P : Program} {N : Nat} {ops : Array Oper} {Q : DPost} {env : Env} {M M0 : Mem} {γ γ' : Cn} {Pr Pr' : Prot} {x0 : Ctx} {w w' : World} {a : Act} {o : Oper} {rest : List Oper}

theorem wpList_up {Q Q' : Exit → Act → World → Prop} (hq : ∀ e a w, Q e a w → Q' e a w) : ∀ (l : List Oper) (a : Act) (w : World), wpList P ops Q l a w → wpList P ops Q' l a w
  | [], _, _, h => hq _ _ _ h
  | o :: l, a, w, h => by
    unfold wpList at h ⊢
    split
    · rename_i hw
      rw [if_pos hw] at h
      exact h.imp (wp_exits (fun a w h => wpList_up hq l a w h) fun e a w _ h => hq e a w h) fun ⟨h2, a2, w2, h3⟩ => ⟨h2, a2, w2, hq _ _ _ h3⟩
    · rename_i hw
      rw [if_neg hw] at h
      exact wpList_up hq l _ w h

theorem DOps.cut {l : List Oper} (up : Env) (ds : List Nat) (mup : Mem) (hu : okE (mup ++ M) up) (hm : okM (mup ++ M) mup)
    (h1 : DOps P N M0 ops (fun e env' M' => e = .normal ∧ Sub (up ++ junks ds env) env' ∧ MSubX [] (mup ++ M) M') l env M)
    (h2 : ∀ env' M', Wk N M0 env' M' (up ++ junks ds env) (mup ++ M) → Q .normal env' M') : DOps P N M0 ops Q l env M := by
  intro x0 a w hx hat
  obtain ⟨γ, Pr, hrel, hfr⟩ := hat
  have hh := okM_has (M := M) mup hm
  refine wpList_up (fun e a' w' ⟨env', M', hat', he, hs, hms⟩ => ?_) l a w (h1 x0 a w hx ⟨γ, Pr, hrel, hfr⟩)
  subst he
  refine ⟨_, _, hat', ?_⟩
  refine h2 _ _ (Wk.both hs hms.sub (okE_lk _ _ hu fun i => ?_) (okM_get _ hm fun b k hk => Blk.ok_le hh (hrel.memB b k hk)) fun b hb => hh b (hfr.has b (by rw [hx]; exact hb)))
  rw [lk_junks]
  split
  · trivial
  · exact SV.ok_le hh (hrel.slotB i)
end
end Go.Proofs.YtpgkbnefhhcfcaaGreatDoor.DL
set_option linter.unusedVariables false
set_option linter.unusedSimpArgs false
set_option linter.constructorNameAsVariable false
namespace Go.Proofs.YtpgkbnefhhcfcaaGreatDoor.DL
open Go.RowKit

section
variable {P : Program} {N : Nat} {ops : Array Oper} {Q : DPost} {env : Env} {M M0 : Mem} {γ γ' : Cn} {Pr Pr' : Prot} {x0 : Ctx} {w w' : World} {a : Act} {o : Oper} {rest : List Oper}

theorem row_cell {e : TypeId} {k n : Nat} {v : Value} {vs : List Value} (h : w.ownsRow 0 e k v n vs) {g : Nat} (hg : v.ownBlock = some g) {i : Nat} {u : Value} (hu : vs[i]? = some u) : w.cell? ⟨g, i, none⟩ = some u := by
  rcases h.2 with ⟨rfl, _⟩ | ⟨g', cap, cur, rfl, _, h2, _, _, _, h6⟩
  · simp [Value.ownBlock] at hg
  · simp only [Value.ownBlock, Option.some.injEq] at hg
    subst hg
    rw [cell_of_row _ _ _ _ _ _ h2]
    rw [← h6] at hu
    rw [List.getElem?_take] at hu
    split at hu
    · simpa using hu
    · cases hu

/-- The call may turn the row as R says. -/
def DCallsR (P : Program) (f : FuncId) (e k n : Nat) (cs : List CV) (args rs : List TV) (R : List CV → Prop) : Prop :=
  ∀ b v, DCallsM P f (.one (.row b v) :: args) [(b, some (.row e k n v cs false))] (fun ts M' => ts = rs ∧ ∃ cs', mget M' b = some (.row e k n v cs' false) ∧ R cs')

theorem LRep.pure {cs : List CV} {vs : List Value} (hp : ∀ c ∈ cs, c.pure) (h : LRep γ Pr w cs vs) : LRep γ' Pr w cs vs :=
  ⟨h.1, fun i c hc => let ⟨u, hu, hr⟩ := h.2 i c hc; ⟨u, hu, CRep.pure (hp c (List.mem_of_getElem? hc)) hr⟩⟩
theorem endQM.row {T : TypeId → Option TyI} {ex : Exit} (he : ex = .normal ∨ ex = .ret) {b e k n : Nat} {v : Value} {cs cs' : List CV} {rs rs' : List ResultVar} {ts : List TV} {R : List CV → Prop} (hrs : rs = rs') (h : ResTs T env M rs' ts) (hp : ∀ t ∈ ts, t.pure) (hM : mget M b = some (.row e k n v cs' false)) (hpc : ∀ c ∈ cs', c.pure) (hR : R cs') :
    endQM T rs [(b, some (.row e k n v cs false))] (fun ts' M' => ts' = ts ∧ ∃ cs', mget M' b = some (.row e k n v cs' false) ∧ R cs') ex env M := by
  subst hrs
  have g : mget [(b, some (Blk.row e k n v cs' false))] b = some (.row e k n v cs' false) := by rw [mget_cons, if_pos rfl]
  have : ∃ us M', ResTs T env M rs us ∧ (∀ y, mget M' y = none ∨ mget M' y = mget M y) ∧ (∀ y, has [(b, some (Blk.row e k n v cs false))] y ↔ has M' y) ∧ (∀ y k, mget M' y = some k → k.ok M') ∧ (∀ t ∈ us, t.ok M') ∧ (us = ts ∧ ∃ cs', mget M' b = some (.row e k n v cs' false) ∧ R cs') := by
    refine ⟨ts, [(b, some (.row e k n v cs' false))], h, fun y => ?_, fun y => ?_, fun y l hk => ?_, fun t ht => TV.pure_ok (hp t ht), rfl, cs', g, hR⟩
    · by_cases e : b = y
      · subst e; rw [g, hM]; exact .inr rfl
      · rw [mget_cons, if_neg e]; exact .inl rfl
    · unfold has
      rw [mget_cons, mget_cons]
      split <;> simp
    · obtain ⟨_, hk'⟩ := mget_one hk
      obtain rfl := Option.some.inj hk'
      exact fun c hc => CV.pure_ok (hpc c hc)
  rcases he with rfl | rfl
  · exact this
  · exact this
end
end Go.Proofs.YtpgkbnefhhcfcaaGreatDoor.DL
set_option linter.unusedVariables false
set_option linter.unusedSimpArgs false
set_option linter.constructorNameAsVariable false
namespace Go.Proofs.YtpgkbnefhhcfcaaGreatDoor.DL
open Go.RowKit

abbrev vT (l : List UInt8) : SV := .v (.one (.d (.sc (.string ⟨l.toArray⟩))))
abbrev tT (l : List UInt8) : TV := .one (.d (.sc (.string ⟨l.toArray⟩)))
def CV.isD : CV → Bool
  | .d _ => true
  | _ => false
theorem pure_aggB {cs : List CV} (h : cs.all CV.isD = true) : (TV.agg cs).pure := fun c hc => by
  have := List.all_eq_true.1 h c hc
  cases c <;> first | trivial | cases this
theorem ba_list (s : ByteArray) : (⟨s.data.toList.toArray⟩ : ByteArray) = s := by cases s; simp
theorem ba_toList (l : List UInt8) : (⟨l.toArray⟩ : ByteArray).toList = l := by rw [Lib.toList_data]

section
variable {P : Program} {N : Nat} {ops : Array Oper} {Q : DPost} {env : Env} {M M0 : Mem} {γ : Cn} {Pr : Prot} {x0 : Ctx} {w : World} {a : Act} {o : Oper} {rest : List Oper}

theorem opT (h : Rel γ Pr x0 N env M a w) {x : Operand} {l : List UInt8} (hx : opv env x = vT l) : a.eval x = .string ⟨l.toArray⟩ := by
  have h1 := h.opv x; rw [hx] at h1; exact h1.2

theorem ba_append (l m : List UInt8) : (⟨l.toArray⟩ : ByteArray) ++ ⟨m.toArray⟩ = ⟨(l ++ m).toArray⟩ := by
  apply ByteArray.ext
  simp

theorem OpVal.cat {t t' : TypeId} {x y : Operand} {l m : List UInt8} (ho : o.op = .binOp .add t x y t') (hx : opv env x = vT l) (hy : opv env y = vT m)
    (h : l.length + m.length ≤ 9223372036854775807) : OpVal P N env M o (vT (l ++ m)) :=
  OpVal.of_run (v := .string ⟨(l ++ m).toArray⟩) trivial fun γ Pr x0 a w hr => ⟨by
    have hs : ¬ ((((⟨l.toArray⟩ : ByteArray).size + (⟨m.toArray⟩ : ByteArray).size : Nat) : Int) > IntKind.i64.max) := by
      have e : IntKind.i64.max = 9223372036854775807 := by decide
      rw [e]; simp only [ByteArray.size, List.size_toArray]; omega
    simp only [execOp, ho, opT hr hx, opT hr hy, eqGuard_at_string, binOp, Op.stringOp, if_neg hs, ba_append, Sem.run_bind, Sem.run_pure, Result.andThen_ok], rfl, rfl⟩
theorem OpVal.eqlS {t t' : TypeId} {x y : Operand} {l m : List UInt8} (ho : o.op = .binOp .eql t x y t') (hx : opv env x = vT l) (hy : opv env y = vT m) : OpVal P N env M o (vB (decide (l = m))) :=
  OpVal.of_run (v := .bool (decide (l = m))) trivial fun γ Pr x0 a w h => ⟨by
    simp only [execOp, ho, opT h hx, opT h hy, eqGuard_at_string, binOp, Op.stringOp, ba_toList, Sem.run_bind, Sem.run_pure, Result.andThen_ok]
    by_cases e : l = m <;> simp [e], rfl, rfl⟩
theorem OpVal.neqS {t t' : TypeId} {x y : Operand} {l m : List UInt8} (ho : o.op = .binOp .neq t x y t') (hx : opv env x = vT l) (hy : opv env y = vT m) : OpVal P N env M o (vB (!decide (l = m))) :=
  OpVal.of_run (v := .bool (!decide (l = m))) trivial fun γ Pr x0 a w h => ⟨by
    simp only [execOp, ho, opT h hx, opT h hy, eqGuard_at_string, binOp, Op.stringOp, ba_toList, Sem.run_bind, Sem.run_pure, Result.andThen_ok]
    by_cases e : l = m <;> simp [e], rfl, rfl⟩

theorem OpVal.eqlST {t t' : TypeId} {x y : Operand} {l m : List UInt8} (ho : o.op = .binOp .eql t x y t') (hx : opv env x = vT l) (hy : opv env y = vT m) (h : l = m) : OpVal P N env M o (vB true) := by
  have := OpVal.eqlS (P := P) (N := N) (M := M) ho hx hy
  rwa [decide_eq_true h] at this
theorem OpVal.eqlSF {t t' : TypeId} {x y : Operand} {l m : List UInt8} (ho : o.op = .binOp .eql t x y t') (hx : opv env x = vT l) (hy : opv env y = vT m) (h : ¬ l = m) : OpVal P N env M o (vB false) := by
  have := OpVal.eqlS (P := P) (N := N) (M := M) ho hx hy
  rwa [decide_eq_false h] at this
theorem OpVal.neqST {t t' : TypeId} {x y : Operand} {l m : List UInt8} (ho : o.op = .binOp .neq t x y t') (hx : opv env x = vT l) (hy : opv env y = vT m) (h : ¬ l = m) : OpVal P N env M o (vB true) := by
  have := OpVal.neqS (P := P) (N := N) (M := M) ho hx hy
  rwa [decide_eq_false h] at this
theorem OpVal.neqSF {t t' : TypeId} {x y : Operand} {l m : List UInt8} (ho : o.op = .binOp .neq t x y t') (hx : opv env x = vT l) (hy : opv env y = vT m) (h : l = m) : OpVal P N env M o (vB false) := by
  have := OpVal.neqS (P := P) (N := N) (M := M) ho hx hy
  rwa [decide_eq_true h] at this
theorem OpVal.lenT {T : TypeId → Option TyI} (hT : TOk P T) {t : TypeId} {i : TyI} {x : Operand} {l : List UInt8} {cl : Call} (ho : o.op = .call cl) (hcl : cl.callee = .builtin .len) (hargs : cl.args = #[x]) (hty : cl.argTypes = #[t])
    (ht : T t = some i) (hd : i.desc = .string) (hx : opv env x = vT l) : OpVal P N env M o (vI .i64 l.length) := OpVal.lenS hT ho hcl hargs hty ht hd hx

theorem OpVal.conv {T : TypeId → Option TyI} (hT : TOk P T) {t t' : TypeId} {i i' : TyI} {x : Operand} {k k' : IntKind} {n : Int} (ho : o.op = .convert t t' x) (ht : T t = some i) (hd : i.desc = .int k) (ht' : T t' = some i') (hd' : i'.desc = .int k')
    (hx : opv env x = vI k n) : OpVal P N env M o (vI k' (k'.wrap n)) :=
  OpVal.of_run (v := .int k' (k'.wrap n)) trivial fun γ Pr x0 a w h => ⟨by
    have hu := run_under (w := w) hT ht
    have hu' := run_under (w := w) hT ht'
    rw [hd] at hu
    rw [hd'] at hu'
    simp only [execOp, ho, opI h hx, convert, Sem.run_bind, hu, hu', Result.andThen_ok, Conv.intToInt, Sem.run_pure], rfl, rfl⟩

/-- A contract of the library's whose result is a scalar. -/
theorem DCalls.lib1 {f : FuncId} {args : List TV} {r : Value} (h1 : r.oneCell' = true)
    (h : ∀ Pr w vs, PV Pr w → TsRep γ0 Pr w args vs → Calls P f vs.toArray w fun e w' => e = .returned r ∧ Below w.heap.size w w') : DCalls P f args fun ts => ts = [.one (.d (.sc r))] := by
  intro Pr w vs hp hr
  refine (h Pr w vs hp hr).mono fun e w' ⟨he, hb⟩ => ⟨[r], _, Pr, he, hb, PExt.refl _ _, fun b o hx => Nat.lt_of_lt_of_le (hp b o hx) hb.size, ⟨rfl, fun i t ht => ?_⟩, ?_, rfl⟩
  · match i, ht with
    | 0, ht => simp at ht; subst ht; exact ⟨r, rfl, h1, rfl⟩
    | i + 1, ht => simp at ht
  · intro t ht
    simp at ht
    subst ht
    trivial

theorem TsRep.inv {t : TV} {ts : List TV} {vs : List Value} (h : TsRep γ Pr w (t :: ts) vs) : ∃ v us, vs = v :: us ∧ TRep γ Pr w t v ∧ TsRep γ Pr w ts us := by
  obtain ⟨hl, hh⟩ := h
  obtain ⟨u, hu, hr⟩ := hh 0 t rfl
  match vs, hl with
  | v :: us, hl => simp at hu; subst hu; exact ⟨v, us, rfl, hr, by simpa using hl, fun i t ht => hh (i + 1) t ht⟩
theorem TsRep.inv0 {vs : List Value} (h : TsRep γ Pr w [] vs) : vs = [] := List.eq_nil_of_length_eq_zero h.1
theorem TRep.sc {v u : Value} (h : TRep γ Pr w (.one (.d (.sc v))) u) : u = v := h.2

/-- A list of strings. -/
def elS (L : List (List UInt8)) : Nat → Nat → DV := fun i _ => .sc (.string ⟨(L.getD i []).toArray⟩)
abbrev lS (L : List (List UInt8)) : DV := .sl L.length 1 (elS L)
abbrev tL (L : List (List UInt8)) : TV := .one (.d (lS L))
abbrev dS (l : List UInt8) : DV := .sc (.string ⟨l.toArray⟩)
theorem OpVal.ldS {T : TypeId → Option TyI} (hT : TOk P T) {t s0 b0 n m : Nat} {z0 : Value} {d0 : TypeDesc} {x : Operand} {L : List (List UInt8)} (ho : o.op = .load t x) (ht : T t = some ⟨d0, s0, b0, z0⟩) (ha : aggD d0 = false) (hx : opv env x = .v (.one (.d (.pp 1 (elS L n))))) (hn : n = m) :
    OpVal P N env M o (vT (L.getD m [])) := by
  subst hn
  exact OpVal.ld hT ho ht ha hx (by omega) rfl
theorem strs_flat (L : List (List UInt8)) : ∀ p, p < L.length → ∀ q, q < 1 → (L.map dS)[p * 1 + q]? = some (elS L p q) := fun p hp q hq => by
  obtain rfl : q = 0 := by omega
  rw [Nat.mul_one, Nat.add_zero, List.getElem?_map, List.getElem?_eq_getElem hp]
  simp [elS, List.getD_eq_getElem?_getD, hp]
theorem strs_snoc (L : List (List UInt8)) (x : List UInt8) : (L.map dS).map CV.d ++ [dS x].map CV.d = ((L ++ [x]).map dS).map CV.d := by simp
theorem one_str (x : List UInt8) : ∀ p, p < 1 → ∀ q, q < 1 → ([dS x] : List DV)[p * 1 + q]? = some (dS x) := fun p hp q hq => by
  obtain rfl : q = 0 := by omega
  obtain rfl : p = 0 := by omega
  rfl
end
end Go.Proofs.YtpgkbnefhhcfcaaGreatDoor.DL
set_option linter.unusedVariables false
set_option linter.unusedSimpArgs false
set_option linter.constructorNameAsVariable false
namespace Go.Proofs.YtpgkbnefhhcfcaaGreatDoor.DL
open Go Go.RowKit Go.ChangeShapes Go.WideShapes Go.Deep

/-- All that was there at the begin is never written. -/
def inW (W : World) : Prot := fun b _ => b < W.heap.size
/-- Cells, as data. -/
def Cells (W : World) (ds : List DV) (cs : List Value) : Prop := cs.length = ds.length ∧ ∀ (i : Nat) d, ds[i]? = some d → ∃ u, cs[i]? = some u ∧ DRep (inW W) W d u
theorem Cells.nil (W : World) : Cells W [] [] := ⟨rfl, fun i d h => by simp at h⟩
theorem Cells.append {W : World} {a b : List DV} {x y : List Value} (h : Cells W a x) (k : Cells W b y) : Cells W (a ++ b) (x ++ y) := by
  refine ⟨by rw [List.length_append, List.length_append, h.1, k.1], fun i d hd => ?_⟩
  by_cases hi : i < a.length
  · rw [List.getElem?_append_left hi] at hd
    obtain ⟨u, hu, hr⟩ := h.2 i d hd
    exact ⟨u, by rw [List.getElem?_append_left (by rw [h.1]; exact hi)]; exact hu, hr⟩
  · rw [List.getElem?_append_right (by omega)] at hd
    obtain ⟨u, hu, hr⟩ := k.2 _ d hd
    exact ⟨u, by rw [List.getElem?_append_right (by rw [h.1]; omega), h.1]; exact hu, hr⟩

structure Opens (P : Program) (t : TypeId) (Γ : List DV → Prop) : Prop where
  op : ∀ {H : Type} (enc : TypeId × Value → H) (W : World) (fuel : Nat) (cs : List Value) (x : DataW H × List MemPlace), DataW.trod enc P W 0 (fun _ => true) true fuel t cs = some x → ∃ ds, Γ ds ∧ Cells W ds cs

section
variable {P : Program} {t e : TypeId} {Γ Γ' : List DV → Prop}
theorem Opens.mono (h : Opens P t Γ) (hg : ∀ ds, Γ ds → Γ' ds) : Opens P t Γ' := ⟨fun enc W fuel cs x hx =>
  let ⟨ds, h1, h2⟩ := h.op enc W fuel cs x hx
  ⟨ds, hg ds h1, h2⟩⟩
theorem Cells.one {W : World} {v : Value} (h : v.oneCell' = true) : Cells W [.sc v] [v] := by
  refine ⟨rfl, fun i d hd => ?_⟩
  match i, hd with
  | 0, hd => simp at hd; subst hd; exact ⟨v, rfl, h, rfl⟩
  | i + 1, hd => simp at hd
theorem Opens.int {k : IntKind} (ht : P.underlying t = some (.int k)) : Opens P t (fun ds => ∃ n, ds = [.sc (.int k n)] ∧ (Lit.int k n).wf = true) := .mk fun enc W fuel cs x hx => by
  obtain ⟨n, rfl, _, hw⟩ := DataW.trod_int ht hx
  exact ⟨_, ⟨n, rfl, hw⟩, Cells.one rfl⟩
theorem Opens.bool (ht : P.underlying t = some .bool) : Opens P t (fun ds => ∃ b, ds = [.sc (.bool b)]) := .mk fun enc W fuel cs x hx => by
  obtain ⟨b, rfl, _⟩ := DataW.trod_bool ht hx
  exact ⟨_, ⟨b, rfl⟩, Cells.one rfl⟩
theorem Opens.string (ht : P.underlying t = some .string) : Opens P t (fun ds => ∃ s : ByteArray, ds = [.sc (.string s)] ∧ s.size ≤ maxLen) := .mk fun enc W fuel cs x hx => by
  obtain ⟨s, rfl, _, hs⟩ := DataW.trod_string ht hx
  exact ⟨_, ⟨s, rfl, hs⟩, Cells.one rfl⟩

/-- Parts, one behind the other. -/
theorem cells_parts {W : World} : ∀ (sizes : List Nat) (cs : List Value) (Γ : Nat → List DV → Prop), cs.length = sizes.sum →
    (∀ (i s : Nat), sizes[i]? = some s → ∃ ds, Γ i ds ∧ Cells W ds ((cs.drop (sizes.take i).sum).take s)) →
    ∃ l : List (List DV), l.length = sizes.length ∧ (∀ (i : Nat) p, l[i]? = some p → Γ i p) ∧ Cells W l.flatten cs
  | [], cs, Γ, hl, _ => by
    obtain rfl : cs = [] := List.eq_nil_of_length_eq_zero (by simpa using hl)
    exact ⟨[], rfl, fun i p h => by simp at h, Cells.nil W⟩
  | s :: ss, cs, Γ, hl, h => by
    obtain ⟨d0, g0, c0⟩ := h 0 s rfl
    simp only [List.take_zero, List.sum_nil, List.drop_zero] at c0
    rw [List.sum_cons] at hl
    obtain ⟨l, l1, l2, l3⟩ := cells_parts ss (cs.drop s) (fun i => Γ (i + 1)) (by rw [List.length_drop]; omega) fun i q hq => by
      obtain ⟨ds, g, c⟩ := h (i + 1) q (by simpa using hq)
      refine ⟨ds, g, ?_⟩
      rw [List.take_succ_cons, List.sum_cons] at c
      rw [List.drop_drop]
      exact c
    refine ⟨d0 :: l, by simp [l1], fun i p hp => ?_, ?_⟩
    · match i, hp with
      | 0, hp => simp at hp; subst hp; exact g0
      | i + 1, hp => exact l2 i p (by simpa using hp)
    · rw [List.flatten_cons, ← List.take_append_drop s cs]
      exact Cells.append c0 l3

theorem sum_take_replicate (k : Nat) : ∀ (n i : Nat), i ≤ n → ((List.replicate n k).take i).sum = i * k := fun n i h => by
  rw [List.take_replicate, Nat.min_eq_left h, List.sum_replicate_nat]

theorem Opens.array {n k : Nat} (ht : P.underlying t = some (.array n e)) (hk : P.cellsOf e = k) (hs : P.cellsOf t = n * k) (h : Opens P e Γ) :
    Opens P t (fun ds => ∃ l : List (List DV), l.length = n ∧ (∀ p ∈ l, Γ p) ∧ ds = l.flatten) := .mk fun enc W fuel cs x hx => by
  cases fuel with
  | zero => simp [DataW.trod] at hx
  | succ m =>
    unfold DataW.trod at hx
    rw [ht] at hx
    have hx : (if cs.length = P.cellsOf t then ((List.range n).mapM fun i => DataW.trod enc P W 0 (fun _ => true) true m e ((cs.drop (i * P.cellsOf e)).take (P.cellsOf e))).map fun xs => (DataW.agg (xs.map (·.1)), xs.flatMap (·.2)) else none) = some x := by
      split at hx <;> simp_all
    split at hx
    · rename_i hl
      rw [Option.map_eq_some_iff] at hx
      obtain ⟨xs, hm, _⟩ := hx
      obtain ⟨l, l1, l2, l3⟩ := cells_parts (W := W) (List.replicate n k) cs (fun _ => Γ) (by rw [List.sum_replicate_nat, hl, hs]) fun i s hi => by
        obtain ⟨hin, rfl⟩ : i < n ∧ k = s := by
          rw [List.getElem?_replicate] at hi
          split at hi
          · rename_i h1; exact ⟨h1, by simpa using hi⟩
          · cases hi
        rw [sum_take_replicate k n i (by omega)]
        have hg := mapM_some_get hm i i (by simp [hin])
        have hlen : xs.length = n := by simpa using mapM_some_length hm
        rw [List.getElem?_eq_getElem (by omega), hk] at hg
        exact h.op enc W m _ _ hg
      refine ⟨l.flatten, ⟨l, by simpa using l1, fun p hp => ?_, rfl⟩, l3⟩
      obtain ⟨i, hi, rfl⟩ := List.getElem_of_mem hp
      exact l2 i _ (List.getElem?_eq_getElem hi)
    · cases hx

theorem Opens.struct {fs : Array Field} (ht : P.underlying t = some (.struct fs)) (sizes : List Nat) (hz : sizes = fs.toList.map fun f => P.cellsOf f.type) (ho : ∀ (i : Nat) f, fs[i]? = some f → f.offset = (sizes.take i).sum)
    (hs : P.cellsOf t = sizes.sum) (Γs : Nat → List DV → Prop) (h : ∀ (i : Nat) f, fs[i]? = some f → Opens P f.type (Γs i)) :
    Opens P t (fun ds => ∃ l : List (List DV), l.length = fs.size ∧ (∀ (i : Nat) p, l[i]? = some p → Γs i p) ∧ ds = l.flatten) := .mk fun enc W fuel cs x hx => by
  obtain ⟨xs, m, rfl, _, hl, hxl, hf⟩ := DataW.trod_struct ht hx
  obtain ⟨l, l1, l2, l3⟩ := cells_parts (W := W) sizes cs Γs (by rw [hl, hs]) fun i s hi => by
    rw [hz, List.getElem?_map, Option.map_eq_some_iff] at hi
    obtain ⟨f, hfi, rfl⟩ := hi
    have hfa : fs[i]? = some f := by rw [← hfi, Array.getElem?_toList]
    have hg := hf i f hfa
    have hil : i < fs.size := by
      rcases Nat.lt_or_ge i fs.size with h1 | h1
      · exact h1
      · rw [Array.getElem?_eq_none h1] at hfa; cases hfa
    rw [List.getElem?_eq_getElem (by omega), ho i f hfa] at hg
    exact (h i f hfa).op enc W m _ _ hg
  exact ⟨l.flatten, ⟨l, by rw [l1, hz]; simp, l2, rfl⟩, l3⟩

theorem Opens.slice {k : Nat} (ht : P.underlying t = some (.slice e)) (hk : P.cellsOf e = k) (h0 : 0 < k) (z : DV) (h : Opens P e Γ) :
    Opens P t (fun ds => ∃ l : List (List DV), l.length ≤ maxLen ∧ (∀ p ∈ l, Γ p ∧ p.length = k) ∧ ds = [.sl l.length k fun i j => (l.getD i []).getD j z]) := .mk fun enc W fuel cs x hx => by
  rcases open_slice ht hx with ⟨rfl, _⟩ | ⟨a, len, cap, m, n, D, Pl, rfl, _, hlc, hcm, hm, _, hel⟩
  · refine ⟨[.sl 0 k fun i j => (([] : List (List DV)).getD i []).getD j z], ⟨[], Nat.zero_le _, (fun p hp => by cases hp), rfl⟩, rfl, fun i d hd => ?_⟩
    match i, hd with
    | 0, hd =>
      simp at hd; subst hd
      exact ⟨_, rfl, none, 0, rfl, Nat.le_refl _, fun h => absurd h (Nat.lt_irrefl _)⟩
    | i + 1, hd => simp at hd
  · have hml : m = cap := by simpa using hm
    subst hml hk
    obtain ⟨F, hF⟩ := choose_lt (n := len) (p := fun i (q : List DV) => Γ q ∧ ∃ cs', W.cells? 0 (a.add (i * P.cellsOf e)) (P.cellsOf e) = some cs' ∧ Cells W q cs') fun i hi => by
      obtain ⟨cs', h1, h2⟩ := hel i (by omega)
      obtain ⟨ds, g, c⟩ := h.op enc W n cs' _ h2
      exact ⟨ds, g, cs', h1, c⟩
    have hFl : ∀ i, i < len → (F i).length = P.cellsOf e := fun i hi => by
      obtain ⟨_, cs', h1, h2⟩ := hF i hi
      rw [← h2.1]; exact (World.cells?_some h1).2.1
    refine ⟨_, ⟨(List.range len).map F, by simp; omega, fun p hp => ?_, rfl⟩, rfl, fun i d hd => ?_⟩
    · obtain ⟨i, hi, rfl⟩ := List.mem_map.1 hp
      exact ⟨(hF i (List.mem_range.1 hi)).1, hFl i (List.mem_range.1 hi)⟩
    · match i, hd with
      | i + 1, hd => simp at hd
      | 0, hd =>
        simp only [List.length_map, List.length_range, List.getElem?_cons_zero, Option.some.injEq] at hd
        subst hd
        refine ⟨_, rfl, some a, _, rfl, hlc, fun hlen => ?_⟩
        have hcell : ∀ i, i < len → ∀ j, j < P.cellsOf e → ∃ u, W.cell? (a.add (i * P.cellsOf e + j)) = some u ∧ DRep (inW W) W ((F i).getD j z) u := fun i hi j hj => by
          obtain ⟨_, cs', h1, h2⟩ := hF i hi
          obtain ⟨_, hcl, hc⟩ := World.cells?_some h1
          have hj' : j < (F i).length := by rw [hFl i hi]; exact hj
          obtain ⟨u, hu, hr⟩ := h2.2 j _ (List.getElem?_eq_getElem hj')
          refine ⟨u, by rw [← add_add, hc j hj, hu], ?_⟩
          rw [List.getD_eq_getElem?_getD, List.getElem?_eq_getElem hj', Option.getD_some]
          exact hr
        obtain ⟨u0, hu0, _⟩ := hcell 0 hlen 0 h0
        obtain ⟨b, o, spot⟩ := a
        have hspot : spot = none := by simpa [Addr.add] using World.cell?_spot hu0
        subst hspot
        refine ⟨b, o, rfl, fun i hi j hj => ?_⟩
        obtain ⟨u, hu, hr⟩ := hcell i hi j hj
        rw [add_plain] at hu
        refine ⟨?_, u, hu, ?_⟩
        · have := World.cells?_block (cells?_one (base := 0) (Nat.zero_le _) hu) (Nat.lt_succ_self 0)
          exact this
        · have : ((List.range len).map F).getD i [] = F i := by simp [List.getD_eq_getElem?_getD, hi]
          show DRep (inW W) W ((((List.range len).map F).getD i []).getD j z) u
          rw [this]; exact hr
end

/-! ### Arguments, and a law's call -/
section
variable {P : Program} {γ : Cn} {Pr : Prot} {W w : World}
theorem TsRep.nil : TsRep γ Pr w [] [] := ⟨rfl, fun i t h => by simp at h⟩
theorem TsRep.cons {t : TV} {u : Value} {ts : List TV} {us : List Value} (h : TRep γ Pr w t u) (k : TsRep γ Pr w ts us) : TsRep γ Pr w (t :: ts) (u :: us) := by
  refine ⟨by rw [List.length_cons, List.length_cons, k.1], fun i x hx => ?_⟩
  match i, hx with
  | 0, hx => simp at hx; subst hx; exact ⟨u, rfl, h⟩
  | i + 1, hx => exact k.2 i x (by simpa using hx)
theorem trep_agg {ds : List DV} {cs : Array Value} (h : Cells W ds cs.toList) : TRep γ (inW W) W (.agg (ds.map .d)) (.agg cs) := by
  refine ⟨cs.toList, rfl, by rw [List.length_map]; exact h.1, fun i c hc => ?_⟩
  rw [List.getElem?_map, Option.map_eq_some_iff] at hc
  obtain ⟨d, hd, rfl⟩ := hc
  exact h.2 i d hd
theorem trep_one {d : DV} {v : Value} (h : Cells W [d] [v]) : TRep γ (inW W) W (.one (.d d)) v := by
  obtain ⟨u, hu, hr⟩ := h.2 0 d rfl
  simp at hu; subst hu
  exact hr
/-- A law that answers true, as a walk. -/
theorem calls_of {f : FuncId} {args : List TV} {b : Bool} (h : DCalls P f args fun ts => ts = [bt b]) {vs : List Value} (hr : TsRep γ0 (inW W) W args vs) (hg : glbP (inW W) W) :
    Calls P f vs.toArray W fun e w' => e = .returned (.bool b) ∧ Below W.heap.size W w' :=
  (h (inW W) W vs ⟨fun b o hb => hb, hg⟩ hr).mono fun e w' ⟨us, ts, Pr', h1, h2, _, _, h5, _, h7⟩ => by
    subst h7
    obtain ⟨hl, hh⟩ := h5
    obtain ⟨u, hu, hr⟩ := hh 0 _ rfl
    match us, hl with
    | [u'], _ =>
      simp at hu; subst hu
      obtain ⟨_, rfl⟩ := hr
      exact ⟨h1, h2⟩
end
end Go.Proofs.YtpgkbnefhhcfcaaGreatDoor.DL
set_option linter.unusedVariables false
set_option linter.unusedSimpArgs false
set_option linter.constructorNameAsVariable false
namespace Go.Proofs.YtpgkbnefhhcfcaaGreatDoor.DL
open Go.RowKit

section
variable {P : Program} {N : Nat} {ops : Array Oper} {Q : DPost} {env : Env} {M M0 : Mem} {γ : Cn} {Pr : Prot} {x0 : Ctx} {w : World} {a : Act} {o : Oper} {rest : List Oper}

/-- An operation's value, its rule chosen later. -/
theorem DOps.valE {d : Nat} (hg : gd ops env o = some true) (hd : o.dst = some d) (hN : Nat.blt d N = true) (h : ∃ r, OpVal P N env M o r ∧ DOps P N M0 ops Q rest ((d, r) :: env) M) : DOps P N M0 ops Q (o :: rest) env M :=
  let ⟨_, h1, h2⟩ := h
  DOps.val hg hd hN h1 h2
theorem DDr.valE {k d : Nat} (hg : gd ops (restr env (o.looksAt ops)) o = some true) (hd : o.dst = some d) (hN : Nat.blt d N = true) (h : ∃ r, OpVal P N (restr env (o.looksAt ops)) M o r ∧ DDr P N M0 ops Q k rest ((d, r) :: env) M) : DDr P N M0 ops Q (k + 1) (o :: rest) env M :=
  let ⟨_, h1, h2⟩ := h
  DDr.val hg hd hN h1 h2
theorem DDr2.valE {l0 l : List Oper} {k0 k d : Nat} (hg : gd l0.toArray (restr env (o.looksAt l0.toArray)) o = some true) (hd : o.dst = some d) (hN : Nat.blt d N = true) (h : ∃ r, OpVal P N (restr env (o.looksAt l0.toArray)) M o r ∧ DDr2 P N M0 l0 Q k0 k l ((d, r) :: env) M) : DDr2 P N M0 l0 Q k0 (k + 1) (o :: l) env M :=
  let ⟨_, h1, h2⟩ := h
  DDr2.val hg hd hN h1 h2
theorem Sub.nil : Sub [] env := fun _ => .inl rfl
/-- A contract of the library. -/
theorem DCalls.libP {f : FuncId} {args : List TV} (ts : List TV)
    (h : ∀ Pr w vs, PV Pr w → TsRep γ0 Pr w args vs → Calls P f vs.toArray w fun e w' => ∃ us Pr', e = .returned (joined us) ∧ Below w.heap.size w w' ∧ PExt Pr Pr' (fun k => w.heap.size ≤ k) ∧ (∀ b o, Pr' b o → b < w'.heap.size) ∧ TsRep γ0 Pr' w' ts us)
    (hp : ∀ t ∈ ts, t.pure) : DCalls P f args fun us => us = ts := fun Pr w vs hpr hr =>
  (h Pr w vs hpr hr).mono fun _ _ ⟨us, Pr', h1, h2, h3, h4, h5⟩ => ⟨us, ts, Pr', h1, h2, h3, h4, h5, hp, rfl⟩
/-- Scalars. -/
theorem TsRep.scs (vs : List Value) (h : vs.all (·.oneCell') = true) : TsRep γ Pr w (vs.map fun v => .one (.d (.sc v))) vs := by
  refine ⟨by simp, fun i t ht => ?_⟩
  rw [List.getElem?_map, Option.map_eq_some_iff] at ht
  obtain ⟨v, hv, rfl⟩ := ht
  exact ⟨v, hv, List.all_eq_true.1 h v (List.mem_of_getElem? hv), rfl⟩

/-- Is an interface's value nil? -/
theorem OpVal.eqNilF {T : TypeId → Option TyI} (hT : TOk P T) {t t' tx s0 b0 : Nat} {z0 : Value} {ms : Array (String × TypeId)} {x : Operand} {z : DV} (ho : o.op = .binOp .eql t x (.const .nilIface) t') (ht : T t = some ⟨.interface ms, s0, b0, z0⟩)
    (hx : opv env x = .v (.one (.d (.ifc tx z)))) : OpVal P N env M o (vB false) :=
  OpVal.of_run (v := .bool false) trivial fun γ Pr x0 a w h => ⟨by
    have h1 := h.opv x
    rw [hx] at h1
    obtain ⟨u, hu, _⟩ := h1
    have hm : P.underlying t = some (.interface (P.methodsAt t)) := by have := (hT _ _ ht).1; simp [Program.methodsAt, this]
    simp only [execOp, ho, hu, show a.eval (.const .nilIface) = Value.nilIface from rfl, eqGuard_at_iface, Sem.run_bind, Sem.run_pure, Result.andThen_ok, run_eql_held_nil w t tx u hm], rfl, rfl⟩
theorem OpVal.neNilT {T : TypeId → Option TyI} (hT : TOk P T) {t t' tx s0 b0 : Nat} {z0 : Value} {ms : Array (String × TypeId)} {x : Operand} {z : DV} (ho : o.op = .binOp .neq t x (.const .nilIface) t') (ht : T t = some ⟨.interface ms, s0, b0, z0⟩)
    (hx : opv env x = .v (.one (.d (.ifc tx z)))) : OpVal P N env M o (vB true) :=
  OpVal.of_run (v := .bool true) trivial fun γ Pr x0 a w h => ⟨by
    have h1 := h.opv x
    rw [hx] at h1
    obtain ⟨u, hu, _⟩ := h1
    have hm : P.underlying t = some (.interface (P.methodsAt t)) := by have := (hT _ _ ht).1; simp [Program.methodsAt, this]
    simp only [execOp, ho, hu, show a.eval (.const .nilIface) = Value.nilIface from rfl, eqGuard_at_iface, Sem.run_bind, Sem.run_pure, Result.andThen_ok, run_neq_held_nil w t tx u hm], rfl, rfl⟩
theorem OpVal.neNilF {T : TypeId → Option TyI} (hT : TOk P T) {t t' s0 b0 : Nat} {z0 : Value} {ms : Array (String × TypeId)} {x : Operand} (ho : o.op = .binOp .neq t x (.const .nilIface) t') (ht : T t = some ⟨.interface ms, s0, b0, z0⟩)
    (hx : opv env x = .v (.one (.d (.sc .nilIface)))) : OpVal P N env M o (vB false) :=
  OpVal.of_run (v := .bool false) trivial fun γ Pr x0 a w h => ⟨by
    have h1 := h.opv x
    rw [hx] at h1
    have hu := h1.2
    have hm : P.underlying t = some (.interface (P.methodsAt t)) := by have := (hT _ _ ht).1; simp [Program.methodsAt, this]
    simp only [execOp, ho, hu, show a.eval (.const .nilIface) = Value.nilIface from rfl, eqGuard_nil_constR, Sem.run_bind, Sem.run_pure, Result.andThen_ok, run_neq_nil_nil w t hm], rfl, rfl⟩
end
end Go.Proofs.YtpgkbnefhhcfcaaGreatDoor.DL
set_option linter.unusedVariables false
set_option linter.unusedSimpArgs false
set_option linter.constructorNameAsVariable false
namespace Go.Proofs.YtpgkbnefhhcfcaaGreatDoor.DL
open Go.RowKit

section
variable {P : Program} {N : Nat} {ops : Array Oper} {Q : DPost} {env : Env} {M M0 : Mem} {γ : Cn} {Pr : Prot} {x0 : Ctx} {w : World} {a : Act} {o : Oper} {rest : List Oper}

/-- Nothing is asked of a panic: there is none. -/
def NP (Q : DPost) : Prop := ∀ c env M, ¬ Q (.panic c) env M
theorem NP.thenQ {K : Env → Mem → Prop} (h : NP Q) : NP (thenQ K Q) := fun c env M hq => h c env M hq
theorem NP.seqQ {y : Code} (h : NP Q) : NP (seqQ P N M0 y Q) := fun c env M hq => h c env M hq
theorem NP.inBlockQ {id : Nat} (h : NP Q) : NP (inBlockQ id Q) := fun c env M hq => h c env M hq
theorem NP.endQ {T : TypeId → Option TyI} {rs : List ResultVar} {R : List TV → Prop} : NP (endQ T rs R) := fun _ _ _ hq => hq
theorem NP.endQM {T : TypeId → Option TyI} {rs : List ResultVar} {M1 : Mem} {R : List TV → Mem → Prop} : NP (endQM T rs M1 R) := fun _ _ _ hq => hq

/-- An operation's value, whatever the world. -/
def OpLz (P : Program) (N : Nat) (ops : Array Oper) (env : Env) (o : Oper) (r : SV) : Prop :=
  gd ops env o = some true ∧ ∀ γ Pr x0 a w M, Rel γ Pr x0 N env M a w → r.ok M ∧ ∃ v, (∀ w', (execOp a.eval o).run P w' = .ok (.value v) w') ∧ SRep γ Pr w r v

def noSel (o : Oper) : Bool := match o.op with | .select .. => false | _ => true
/-- Step by step: the first ones, of which the lazy ones' values hang on no world. -/
def DDr3 (P : Program) (N : Nat) (M0 : Mem) (l0 : List Oper) (Q : DPost) (k0 : Nat) (lz : List Nat) : Nat → Nat → List Oper → Env → Mem → Prop
  | _, 0, _, env, M => DAny P N M0 l0.toArray Q (l0.length - k0) (List.replicate k0 true ++ List.replicate (l0.length - k0) false).toArray env M
  | i, k + 1, o :: l, env, M => ∃ r d, o.dst = some d ∧ Nat.blt d N = true ∧ OpQ P N M0 l0.toArray (restr env (o.looksAt l0.toArray)) M o r ∧ (lz.contains i = true → OpLz P N l0.toArray (restr env (o.looksAt l0.toArray)) o r) ∧ DDr3 P N M0 l0 Q k0 lz (i + 1) k l ((d, r) :: env) M
  | _, _ + 1, [], _, _ => False

theorem DDr3.split {l0 : List Oper} {k0 : Nat} {lz : List Nat} : ∀ (k n : Nat) (l : List Oper) (env : Env), DDr3 P N M0 l0 Q k0 lz n k l env M → ∃ dr : List (Nat × SV), dr.length = k ∧ k ≤ l.length ∧
    (∀ (i d : Nat) (r : SV), dr[i]? = some (d, r) → ∃ o, l[i]? = some o ∧ o.dst = some d ∧ d < N ∧ OpQ P N M0 l0.toArray (restr ((dr.take i).reverse ++ env) (o.looksAt l0.toArray)) M o r ∧ (lz.contains (n + i) = true → OpLz P N l0.toArray (restr ((dr.take i).reverse ++ env) (o.looksAt l0.toArray)) o r)) ∧ DDr3 P N M0 l0 Q k0 lz (n + k) 0 [] (dr.reverse ++ env) M
  | 0, n, l, env, h => ⟨[], rfl, Nat.zero_le _, fun i d r hi => by simp at hi, h⟩
  | k + 1, n, [], env, h => h.elim
  | k + 1, n, o :: l, env, h => by
    obtain ⟨r, d, h1, h2, h3, hz, h4⟩ := h
    obtain ⟨dr, a1, a2, a3, a4⟩ := DDr3.split k (n + 1) l _ h4
    refine ⟨(d, r) :: dr, by simp [a1], by simpa using a2, fun i d' r' hi => ?_, by rw [show n + (k + 1) = n + 1 + k by omega]; simpa using a4⟩
    cases i with
    | zero =>
      simp at hi
      obtain ⟨rfl, rfl⟩ := hi
      exact ⟨o, rfl, h1, by simpa using h2, by simpa using h3, by simpa using hz⟩
    | succ i =>
      obtain ⟨o', b1, b2, b3, b4, b5⟩ := a3 i d' r' (by simpa using hi)
      exact ⟨o', by simpa using b1, b2, b3, by simpa using b4, by rw [show n + (i + 1) = n + 1 + i by omega]; simpa using b5⟩

section
variable {l0 l : List Oper} {k0 i k d : Nat} {lz : List Nat} {r : SV}
theorem DDr3.val (hz : lz.contains i = false) (hg : gd l0.toArray (restr env (o.looksAt l0.toArray)) o = some true) (hd : o.dst = some d) (hN : Nat.blt d N = true) (hv : OpVal P N (restr env (o.looksAt l0.toArray)) M o r) (h : DDr3 P N M0 l0 Q k0 lz (i + 1) k l ((d, r) :: env) M) :
    DDr3 P N M0 l0 Q k0 lz i (k + 1) (o :: l) env M := by
  refine ⟨r, d, hd, hN, .inr ⟨hg, fun γ Pr x0 a w Q' hx hr hf => ?_⟩, fun e => (by rw [hz] at e; cases e), h⟩
  obtain ⟨hok, v, hrun, hrep⟩ := hv γ Pr x0 a w hr
  unfold Oper.wp
  rw [hrun, Oper.upon_value]
  exact ⟨v, Pr, rfl, hrep, hok, fun e2 h2 => ⟨h2, hf⟩⟩
theorem DDr3.valE (hz : lz.contains i = false) (hg : gd l0.toArray (restr env (o.looksAt l0.toArray)) o = some true) (hd : o.dst = some d) (hN : Nat.blt d N = true) (h : ∃ r, OpVal P N (restr env (o.looksAt l0.toArray)) M o r ∧ DDr3 P N M0 l0 Q k0 lz (i + 1) k l ((d, r) :: env) M) : DDr3 P N M0 l0 Q k0 lz i (k + 1) (o :: l) env M :=
  let ⟨_, h1, h2⟩ := h
  DDr3.val hz hg hd hN h1 h2
theorem DDr3.off (hz : lz.contains i = false) (hg : gd l0.toArray (restr env (o.looksAt l0.toArray)) o = some false) (hd : o.dst = some d) (hN : Nat.blt d N = true) (h : DDr3 P N M0 l0 Q k0 lz (i + 1) k l ((d, .tup []) :: env) M) : DDr3 P N M0 l0 Q k0 lz i (k + 1) (o :: l) env M :=
  ⟨.tup [], d, hd, hN, .inl ⟨hg, rfl⟩, fun e => (by rw [hz] at e; cases e), h⟩
theorem DDr3.call {cl : Call} {f : FuncId} {fn : Func} {c : Code} {ts rs : List TV} (hz : lz.contains i = false) (hg : gd l0.toArray (restr env (o.looksAt l0.toArray)) o = some true) (hd : o.dst = some d) (hN : Nat.blt d N = true) (ho : o.op = .call cl) (hcl : cl.callee = .value (.func f))
    (hf : P.funcs[f]? = some fn) (hb : fn.body = some c) (hn : (fn.name == "runtime.NumGoroutine") = false) (hx : opvs (restr env (o.looksAt l0.toArray)) cl.args.toList = some ts) (hp : ∀ t ∈ ts, t.pure) (hc : DCalls P f ts (· = rs))
    (h : DDr3 P N M0 l0 Q k0 lz (i + 1) k l ((d, ret1 rs) :: env) M) : DDr3 P N M0 l0 Q k0 lz i (k + 1) (o :: l) env M := by
  refine ⟨ret1 rs, d, hd, hN, .inr ⟨hg, fun γ Pr x0 a w Q' _ hr hfr => ?_⟩, fun e => (by rw [hz] at e; cases e), h⟩
  unfold Oper.wp
  rw [run_call ho hcl hf hb hn a.eval rfl, Oper.upon_enter]
  have hargs : cl.args.map a.eval = (cl.args.toList.map a.eval).toArray := by apply Array.ext'; rw [Array.toList_map]
  rw [hargs]
  refine (hc Pr w _ hr.prot ((opvs_rep hr _ _ hx).pure hp)).mono fun e w' ⟨us, rs', Pr', he, hB, hE, hV, hR, hP, hQ⟩ => ?_
  subst he
  subst hQ
  exact ⟨_, Pr', rfl, SRep.ret1 (hR.pure hP), ret1_ok hP, fun e2 h2 => ⟨h2.called hB hE hV, hfr.called hr hB hE⟩⟩
theorem DDr3.done {L : List Bool} (n : Nat) (hn : l0.length - k0 = n) (hL : List.replicate k0 true ++ List.replicate (l0.length - k0) false = L) (h : DAny P N M0 l0.toArray Q n L.toArray env M) : DDr3 P N M0 l0 Q k0 lz i 0 l env M := by
  subst hn hL
  exact h
/-- A lazy one: its value hangs on no world. -/
theorem DDr3.lazy (hd : o.dst = some d) (hN : Nat.blt d N = true) (hz : OpLz P N l0.toArray (restr env (o.looksAt l0.toArray)) o r) (h : DDr3 P N M0 l0 Q k0 lz (i + 1) k l ((d, r) :: env) M) : DDr3 P N M0 l0 Q k0 lz i (k + 1) (o :: l) env M := by
  refine ⟨r, d, hd, hN, .inr ⟨hz.1, fun γ Pr x0 a w Q' hx hr hf => ?_⟩, fun _ => hz, h⟩
  obtain ⟨hok, v, hrun, hrep⟩ := hz.2 γ Pr x0 a w M hr
  unfold Oper.wp
  rw [hrun w, Oper.upon_value]
  exact ⟨v, Pr, rfl, hrep, hok, fun e2 h2 => ⟨h2, hf⟩⟩
def SV.free : SV → Bool
  | .v (.one (.d _)) | .v (.one (.row _ _)) | .v (.one (.rp _ _ _)) | .v (.agg []) => true
  | _ => false
theorem SV.free_ok {r : SV} (h : r.free = true) (M : Mem) : r.ok M := by
  unfold SV.free at h
  split at h
  · trivial
  · trivial
  · trivial
  · intro c hc; cases hc
  · cases h
theorem OpLz.move {x : Operand} (hg : gd ops env o = some true) (ho : o.op = .move x) (hx : opv env x = r) (hf : r.free = true) : OpLz P N ops env o r := by
  refine ⟨hg, fun γ Pr x0 a w M h => ⟨SV.free_ok hf M, a.eval x, fun w' => ?_, ?_⟩⟩
  · simp [execOp, ho]
  · have := h.opv x
    rwa [hx] at this
end
end
end Go.Proofs.YtpgkbnefhhcfcaaGreatDoor.DL
set_option linter.unusedVariables false
set_option linter.unusedSimpArgs false
set_option linter.constructorNameAsVariable false
namespace Go.Proofs.YtpgkbnefhhcfcaaGreatDoor.DL
open Go.RowKit

section
variable {P : Program} {N : Nat} {ops : Array Oper} {Q : DPost} {env : Env} {M M0 : Mem} {γ : Cn} {Pr : Prot} {x0 : Ctx} {w : World} {a : Act} {o : Oper} {rest : List Oper}

abbrev nilB (e : TypeId) (k : Nat) : Blk := .row e k 0 (.slice none 0 0) [] false
theorem endQM.own {T : TypeId → Option TyI} {ex : Exit} (he : ex = .normal ∨ ex = .ret) {b e k n : Nat} {v : Value} {cs : List CV} {rs : List ResultVar} (h : ResTs T env M rs [.one (.row b v)]) (hM : mget M b = some (.row e k n v cs false)) (hpc : ∀ c ∈ cs, c.pure) :
    endQM T rs [(b, some (nilB e k))] (fun ts M' => ∃ v, ts = [.one (.row b v)] ∧ mget M' b = some (.row e k n v cs false)) ex env M := by
  have g : mget [(b, some (Blk.row e k n v cs false))] b = some (.row e k n v cs false) := by rw [mget_cons, if_pos rfl]
  have : ∃ us M', ResTs T env M rs us ∧ (∀ y, mget M' y = none ∨ mget M' y = mget M y) ∧ (∀ y, has [(b, some (nilB e k))] y ↔ has M' y) ∧ (∀ y k, mget M' y = some k → k.ok M') ∧ (∀ t ∈ us, t.ok M') ∧ (∃ v, us = [.one (.row b v)] ∧ mget M' b = some (.row e k n v cs false)) := by
    refine ⟨[.one (.row b v)], [(b, some (.row e k n v cs false))], h, fun y => ?_, fun y => ?_, fun y l hk => ?_, fun t ht => ?_, v, rfl, g⟩
    · by_cases e : b = y
      · subst e; rw [g, hM]; exact .inr rfl
      · rw [mget_cons, if_neg e]; exact .inl rfl
    · unfold has
      rw [mget_cons, mget_cons]
      split <;> simp
    · obtain ⟨_, hk'⟩ := mget_one hk
      obtain rfl := Option.some.inj hk'
      exact fun c hc => CV.pure_ok (hpc c hc)
    · simp at ht; subst ht; trivial
  rcases he with rfl | rfl
  · exact this
  · exact this

end
end Go.Proofs.YtpgkbnefhhcfcaaGreatDoor.DL
set_option linter.unusedVariables false
set_option linter.unusedSimpArgs false
set_option linter.constructorNameAsVariable false
namespace Go.Proofs.YtpgkbnefhhcfcaaGreatDoor.DL
open Go.RowKit

section
variable {P : Program} {N : Nat} {ops : Array Oper} {Q : DPost} {env : Env} {M M0 : Mem} {γ : Cn} {Pr : Prot} {x0 : Ctx} {w : World} {a : Act} {o : Oper} {rest : List Oper}

theorem OpLz.iaD {T : TypeId → Option TyI} (hT : TOk P T) {t e s0 b0 s1 b1 : Nat} {z0 z1 : Value} {d1 : TypeDesc} {x y : Operand} {m k : Nat} {el : Nat → Nat → DV} {kd : IntKind} {n : Int} (hg : gd ops env o = some true) (ho : o.op = .indexAddr t x y) (ht : T t = some ⟨.slice e, s0, b0, z0⟩) (hj : T e = some ⟨d1, s1, b1, z1⟩)
    (hk : s1 = k) (hx : opv env x = .v (.one (.d (.sl m k el)))) (hy : opv env y = vI kd n) (h0 : 0 ≤ n) (h1 : n < m) : OpLz P N ops env o (.v (.one (.d (.pp k (el n.toNat))))) := by
  refine ⟨hg, fun γ Pr x0 a w M h => ?_⟩
  have h2 := h.opv x; have h4 := opI h hy
  rw [hx] at h2
  obtain ⟨A, c, he, hc, hh⟩ := h2
  obtain ⟨b, q, rfl, hcell⟩ := hh (by omega)
  refine ⟨trivial, .pointer (some ⟨b, q + n.toNat * k, none⟩), fun w' => ?_, b, q + n.toNat * k, rfl, fun r hr => ?_⟩
  · have hu := run_under (w := w') hT ht
    simp only [] at hu
    simp only [execOp, ho, he, h4, Instr.indexAt, asIntOf, Sem.run_bind, Sem.run_pure, Result.andThen_ok, hu]
    simp [h0, h1, run_sizeOf hT hj, hk, Addr.add_mid]
  · have := hcell n.toNat (by omega) r hr
    rw [← Nat.add_assoc] at this
    exact this

def noSels (l : List Oper) : Bool := l.all noSel
def freeOk (l : List Oper) (L : List Bool) (i : Nat) (o : Oper) : Bool :=
  noSels l && !L.getD i true && (ons o).all (fun j => L.getD j false) && (List.range l.length).all fun j => j == i || L.getD j true || match l[j]? with
    | none => true
    | some p => (ons p).contains i || o.apart l.toArray p

/-- What is left of a statement whose order is open. -/
def DW (P : Program) (N : Nat) (M0 : Mem) (l : List Oper) (Q : DPost) (f : Nat) (L : List Bool) (env : Env) (M : Mem) : Prop :=
  ∀ x0 a w, x0.M0 = M0 → At x0 N env M a w → wpAny P .any l.toArray (up x0 N Q) f L.toArray a w

section
variable {l : List Oper} {f : Nat} {L : List Bool}
theorem DW.any (h : DAny P N M0 l.toArray Q f L.toArray env M) : DW P N M0 l Q f L env M := fun x0 a w hx hat => DAny.wp f _ env M h x0 a w hx hat
theorem DW.take (i : Nat) {d : Nat} {r : SV} {L' : List Bool} (ho : l[i]? = some o) (np : NP Q) (hfr : freeOk l L i o = true) (hd : o.dst = some d) (hN : Nat.blt d N = true) (hz : OpLz P N l.toArray env o r) (hL : L.set i true = L') (h : DW P N M0 l Q f L' ((d, r) :: env) M) : DW P N M0 l Q (f + 1) L env M := by
  subst hL
  intro x0 a w hx ⟨γ, Pr, hr, hf⟩
  obtain ⟨hg, hq⟩ := hz
  obtain ⟨hok, v, hrun, hrep⟩ := hq γ Pr x0 a w M hr
  rw [freeOk, Bool.and_eq_true, Bool.and_eq_true, Bool.and_eq_true] at hfr
  obtain ⟨⟨⟨f1, f2⟩, f3⟩, f4⟩ := hfr
  have g : ∀ (j : Nat) b, L.toArray.getD j b = L.getD j b := fun j b => by simp [Array.getD_eq_getD_getElem?, List.getD_eq_getElem?_getD]
  have hon : l.toArray[i]? = some o := by simpa using ho
  have hsel : ∀ (j : Nat) (p : Oper) cs b, l.toArray[j]? = some p → p.op ≠ .select cs b := fun j p cs b hj e => by
    have := List.all_eq_true.1 f1 p (List.mem_of_getElem? (by simpa using hj))
    rw [noSel, e] at this
    cases this
  refine wpAny_first (oi := o) (v := v) hon hsel (fun c a w hp => ?_) f L.toArray a w (fun j oj hj hne hlj hno => ?_) ?_ (.inl ⟨gd_wanted (ops := l.toArray) hr hg, hrun⟩) ?_
  · obtain ⟨env', M', _, hp⟩ := hp
    exact absurd hp (np c env' M')
  · have hj' : l[j]? = some oj := by simpa using hj
    have h2 := List.all_eq_true.1 f4 j (List.mem_range.2 (List.getElem?_eq_some_iff.1 hj').1)
    rw [hj'] at h2
    simp only [] at h2
    rw [Bool.or_eq_true, Bool.or_eq_true, Bool.or_eq_true] at h2
    rcases h2 with (h2 | h2) | h2 | h2
    · exact absurd (by simpa using h2) hne
    · rw [g] at hlj; rw [hlj] at h2; cases h2
    · obtain ⟨e, he, hb, hon⟩ := mem_ons.1 h2
      exact absurd hon (hno e (by simpa using he) hb)
    · exact h2
  · refine ready_of (by simpa using (List.getElem?_eq_some_iff.1 ho).1) (by rw [g]; simpa using f2) hon fun e he hb => ?_
    rw [g]
    exact List.all_eq_true.1 f3 e.on (by simp only [ons, List.mem_map, List.mem_filter]; exact ⟨e, ⟨he, hb⟩, rfl⟩)
  · have hput : a.put o.dst v = a.put (some d) v := by rw [hd]
    rw [List.setIfInBounds_toArray, hput]
    exact h x0 _ w hx ⟨γ, Pr, hr.put (dst := some d) (fun d' h => by injection h with h; rw [← h]; exact Nat.le_of_ble_eq_true hN) hrep hok, hf⟩
end
end
end Go.Proofs.YtpgkbnefhhcfcaaGreatDoor.DL
set_option linter.unusedVariables false
set_option linter.unusedSimpArgs false
set_option linter.constructorNameAsVariable false
namespace Go.Proofs.YtpgkbnefhhcfcaaGreatDoor.DL
open Go.RowKit

section
variable {P : Program} {N : Nat} {ops : Array Oper} {Q : DPost} {env : Env} {M M0 : Mem} {γ : Cn} {Pr : Prot} {x0 : Ctx} {w : World} {a : Act} {o : Oper} {rest : List Oper}
variable {l : List Oper} {f : Nat} {L : List Bool}

def DWAlts (P : Program) (N : Nat) (M0 : Mem) (l : List Oper) (Q : DPost) (f : Nat) (L : List Bool) (env : Env) (M : Mem) : List Nat → Prop
  | [] => True
  | i :: r => (∃ o, l[i]? = some o ∧ DOps P N M0 l.toArray (thenQ (DW P N M0 l Q f (L.set i true)) Q) [o] env M) ∧ DWAlts P N M0 l Q f L env M r
theorem DWAlts.all : ∀ {is : List Nat}, DWAlts P N M0 l Q f L env M is → ∀ i ∈ is, ∀ o, l[i]? = some o → DOps P N M0 l.toArray (thenQ (DW P N M0 l Q f (L.set i true)) Q) [o] env M
  | [], _, i, hi, _, _ => by cases hi
  | j :: r, ⟨⟨o', h1, h2⟩, h3⟩, i, hi, o, ho => by
    rcases List.mem_cons.1 hi with rfl | hi
    · rw [h1] at ho
      obtain rfl := Option.some.inj ho
      exact h2
    · exact h3.all i hi o ho
theorem DWAlts.cons {i : Nat} {r : List Nat} (ho : l[i]? = some o) (h : DOps P N M0 l.toArray (thenQ (DW P N M0 l Q f (L.set i true)) Q) [o] env M) (hr : DWAlts P N M0 l Q f L env M r) : DWAlts P N M0 l Q f L env M (i :: r) := ⟨⟨o, ho, h⟩, hr⟩
theorem DWAlts.nil : DWAlts P N M0 l Q f L env M [] := trivial

theorem DW.intro (i : Nat) (is : List Nat) (hr : readyL l L = i :: is) (h : DWAlts P N M0 l Q f L env M (i :: is)) : DW P N M0 l Q (f + 1) L env M := fun x0 a w hx hat => by
  have e : Region.ready .any l.toArray L.toArray = i :: is := by rw [readyL_eq, hr]
  refine ⟨fun e' => (by rw [e] at e'; cases e'), fun j hj => ?_⟩
  rw [e] at hj
  have K : ∀ a' w', wpList P l.toArray (up x0 N (thenQ (DW P N M0 l Q f (L.set j true)) Q)) [] a' w' → wpAny P .any l.toArray (up x0 N Q) f (L.toArray.setIfInBounds j true) a' w' := fun a' w' ⟨env', M', hat', hq⟩ => by
    rw [List.setIfInBounds_toArray]
    exact hq x0 a' w' hx hat'
  have hQ : ∀ e a w, e ≠ .normal → up x0 N (thenQ (DW P N M0 l Q f (L.set j true)) Q) e a w → up x0 N Q e a w := fun e a w hne ⟨env', M', hat', hq⟩ => ⟨env', M', hat', by cases e <;> first | exact absurd rfl hne | exact hq⟩
  unfold wpOp
  cases ho : l.toArray[j]? with
  | none =>
    have hj' : j ∈ Region.ready .any l.toArray L.toArray := by rw [e]; exact hj
    simp only [Region.ready, List.mem_filter, ho] at hj'
    simp at hj'
  | some o =>
    have h1 := h.all j hj o (by simpa using ho) x0 a w hx hat
    unfold wpList at h1
    simp only
    split
    · rename_i hw
      rw [if_pos hw] at h1
      exact h1.imp (wp_exits K hQ) fun ⟨h2, a2, _, h3⟩ => ⟨h2, a2, _, hQ _ _ _ (by simp) h3⟩
    · rename_i hw
      rw [if_neg hw] at h1
      exact K _ _ h1
theorem DW.fin (hr : readyL l L = []) (h : Q .normal env M) : DW P N M0 l Q f L env M := fun x0 a w hx hat => by
  have e : Region.ready .any l.toArray L.toArray = [] := by rw [readyL_eq, hr]
  exact wpAny_done e ⟨env, M, hat, h⟩ f
theorem DW.weak {env' : Env} {M' : Mem} (k : Wk N M0 env M env' M') (h : DW P N M0 l Q f L env' M') : DW P N M0 l Q f L env M := fun x0 a w hx hat => h x0 a w hx (k x0 a w hx hat)

theorem OpLz.extract {x : Operand} {k : Nat} {ts : List TV} {t : TV} (hg : gd ops env o = some true) (ho : o.op = .extract x k) (hx : opv env x = .tup ts) (ht : ts[k]? = some t) (hf : t.pure) : OpLz P N ops env o (.v t) := by
  refine ⟨hg, fun γ Pr x0 a w M h => ?_⟩
  have h1 := h.opv x
  rw [hx] at h1
  obtain ⟨vs, hv, hl, hh⟩ := h1
  obtain ⟨y, hy, hr⟩ := hh k t ht
  exact ⟨TV.pure_ok hf, y, fun w' => by simp [execOp, ho, hv, Instr.extract, hy], hr⟩
theorem OpLz.moveT {x : Operand} {ts : List TV} (hg : gd ops env o = some true) (ho : o.op = .move x) (hx : opv env x = .tup ts) (hf : ∀ t ∈ ts, t.pure) : OpLz P N ops env o (.tup ts) := by
  refine ⟨hg, fun γ Pr x0 a w M h => ⟨fun t ht => TV.pure_ok (hf t ht), a.eval x, fun w' => ?_, ?_⟩⟩
  · simp [execOp, ho]
  · have := h.opv x
    rwa [hx] at this
theorem OpLz.arith {op : BinOp} {t t' : TypeId} {x y : Operand} {k : IntKind} {m n r : Int} (hg : gd ops env o = some true) (ho : o.op = .binOp op t x y t') (hx : opv env x = vI k m) (hy : opv env y = vI k n)
    (hr : DL.arith op k m n = some r) : OpLz P N ops env o (vI k r) :=
  ⟨hg, fun γ Pr x0 a w M h => ⟨trivial, .int k r, fun w' => by
    cases op <;> simp [DL.arith] at hr <;> simp [execOp, ho, opI h hx, opI h hy, eqGuard_at_int, binOp, Op.intArith, hr], rfl, rfl⟩⟩
theorem OpLz.add {t t' : TypeId} {x y : Operand} {m n : Int} (hg : gd ops env o = some true) (ho : o.op = .binOp .add t x y t') (hx : opv env x = vI .i64 m) (hy : opv env y = vI .i64 n)
    (h0 : -9223372036854775808 ≤ m + n) (h1 : m + n ≤ 9223372036854775807) : OpLz P N ops env o (vI .i64 (m + n)) :=
  OpLz.arith hg ho hx hy (by simp [DL.arith, wrap_in64 h0 h1])
theorem OpLz.mul {t t' : TypeId} {x y : Operand} {m n : Int} (hg : gd ops env o = some true) (ho : o.op = .binOp .mul t x y t') (hx : opv env x = vI .i64 m) (hy : opv env y = vI .i64 n)
    (h0 : -9223372036854775808 ≤ m * n) (h1 : m * n ≤ 9223372036854775807) : OpLz P N ops env o (vI .i64 (m * n)) :=
  OpLz.arith hg ho hx hy (by simp [DL.arith, wrap_in64 h0 h1])
theorem OpLz.gtr {t t' : TypeId} {x y : Operand} {k : IntKind} {m n : Int} (hg : gd ops env o = some true) (ho : o.op = .binOp .gtr t x y t') (hx : opv env x = vI k m) (hy : opv env y = vI k n) : OpLz P N ops env o (vB (decide (m > n))) :=
  ⟨hg, fun γ Pr x0 a w M h => ⟨trivial, .bool (decide (m > n)), fun w' => by simp [execOp, ho, opI h hx, opI h hy, eqGuard_at_int, binOp, Op.intCmp], rfl, rfl⟩⟩
end
end Go.Proofs.YtpgkbnefhhcfcaaGreatDoor.DL
set_option linter.unusedVariables false
set_option linter.unusedSimpArgs false
set_option linter.constructorNameAsVariable false
namespace Go.Proofs.YtpgkbnefhhcfcaaGreatDoor.DL
open Go.RowKit

section
variable {P : Program} {N : Nat} {ops : Array Oper} {Q : DPost} {env : Env} {M M0 : Mem} {γ : Cn} {Pr : Prot} {x0 : Ctx} {w : World} {a : Act} {o : Oper} {rest : List Oper}

theorem run_append_zero (base : Nat) (t ty e : TypeId) (i : TypeInfo) (size : Nat) (ht : P.underlying t = some (.slice e)) (hi : P.info? e = some i)
    (v : Value) (n : Nat) (xs : List Value) (hown : w.ownsRow base e size v n xs) (A : Option Addr) (c : Nat) :
    (Builtin.append_ #[t, t] ty #[v, .slice A 0 c]).run P w = .ok v w := by
  rcases hown.2 with ⟨rfl, rfl⟩ | ⟨g, cap, cur, rfl, _, _, hnc, _⟩
  · cases A <;> simp [Builtin.append_, run_underlying ht, sizeOf, typeInfo, hi, Builtin.lenOf, Builtin.firstCells, loadCells, loadCellsFrom]
  · cases A <;> simp [Builtin.append_, run_underlying ht, sizeOf, typeInfo, hi, Builtin.lenOf, Builtin.firstCells, hnc, storeCells, loadCells, loadCellsFrom]

theorem OpVal.append0 {T : TypeId → Option TyI} (hT : TOk P T) {t e : TypeId} {i j : TyI} {s x : Operand} {b k k' n : Nat} {v : Value} {cs : List CV} {fz : Bool} {el : Nat → Nat → DV}
    (ho : o.op = .call { callee := .builtin .append, args := #[s, x], argTypes := #[t, t] }) (ht : T t = some i) (hde : i.desc = .slice e) (hj : T e = some j)
    (hs : opv env s = .v (.one (.row b v))) (hm : mget M b = some (.row e k n v cs fz)) (hx : opv env x = .v (.one (.d (.sl 0 k' el)))) : OpVal P N env M o (.v (.one (.row b v))) := fun γ Pr x0 a w h => by
  have h1 := h.opv s; have h2 := h.opv x
  rw [hs] at h1; rw [hx] at h2
  obtain ⟨A, c, hv, _, _⟩ := h2
  obtain ⟨vs, hown, _, _⟩ := h.mem b _ hm
  obtain ⟨hu, info, hi1, hi2, hi3, hi4⟩ := hT _ _ ht
  obtain ⟨_, info', hj1, hj2, hj3, hj4⟩ := hT _ _ hj
  rw [hde] at hu
  have he : a.eval s = v := h1.1
  refine ⟨trivial, v, ?_, rfl, by rw [← he]; exact h1.2⟩
  have hrun := run_append_zero (P := P) (w := w) 0 t o.type e info' k hu hj1 v n vs hown A c
  simp [execOp, ho, resolve, invoke, builtin, he, hv, hrun, Result.andThen]
end
end Go.Proofs.YtpgkbnefhhcfcaaGreatDoor.DL
set_option linter.unusedVariables false
set_option linter.unusedSimpArgs false
set_option linter.constructorNameAsVariable false
namespace Go.Proofs.YtpgkbnefhhcfcaaGreatDoor.DL
open Go.RowKit

section
variable {P : Program} {N : Nat} {ops : Array Oper} {Q : DPost} {env : Env} {M M0 : Mem} {γ : Cn} {Pr : Prot} {x0 : Ctx} {w : World} {a : Act} {o : Oper} {rest : List Oper}
variable {l : List Oper} {f : Nat} {L : List Bool}

/-- A memoryless operation, whose value may hang on what blocks there are. -/
def OpLzM (P : Program) (N : Nat) (ops : Array Oper) (env : Env) (M : Mem) (o : Oper) (r : SV) : Prop :=
  gd ops env o = some true ∧ ∀ γ Pr x0 a w, Rel γ Pr x0 N env M a w → r.ok M ∧ ∃ v, (∀ w', (execOp a.eval o).run P w' = .ok (.value v) w') ∧ SRep γ Pr w r v
theorem OpLzM.iaA {T : TypeId → Option TyI} (hT : TOk P T) {t e : Nat} {x y : Operand} {b k len s0 b0 s1 b1 : Nat} {z0 z1 : Value} {d1 : TypeDesc} {kd : IntKind} {n : Int} (hg : gd ops env o = some true) (ho : o.op = .indexAddr t x y) (ht : T t = some ⟨.array len e, s0, b0, z0⟩) (hj : T e = some ⟨d1, s1, b1, z1⟩)
    (hx : opv env x = .v (.one (.ptr b k))) (hy : opv env y = vI kd n) (h0 : 0 ≤ n) (h1 : n < len) : OpLzM P N ops env M o (.v (.one (.ptr b (k + n.toNat * s1)))) := by
  refine ⟨hg, fun γ Pr x0 a w h => ?_⟩
  have h2 := h.opv x; have h3 := opv_ok h.slotB x; have h4 := opI h hy
  rw [hx] at h2 h3
  have he : a.eval x = .pointer (some ⟨γ.blk b, k, none⟩) := h2
  refine ⟨h3, .pointer (some ⟨γ.blk b, k + n.toNat * s1, none⟩), fun w' => ?_, rfl⟩
  have hu := run_under (w := w') hT ht
  simp only [] at hu
  simp only [execOp, ho, he, h4, Instr.indexAt, asIntOf, Sem.run_bind, Sem.run_pure, Result.andThen_ok, hu]
  simp [Instr.sureAddr, hu, h0, h1, run_sizeOf hT hj, Addr.add_mid]
abbrev WState : Type := Nat × List Bool × Env × Mem
/-- Operation j may be run at s, and leads to t. -/
def WOne (P : Program) (N : Nat) (M0 : Mem) (l : List Oper) (ds : List Nat) (env : Env) (M : Mem) (S : List WState) (s : WState) (j : Nat) : Prop :=
  ∃ o t, l[j]? = some o ∧ t ∈ S ∧ s.1 = t.1 + 1 ∧ s.2.1.set j true = t.2.1 ∧
    DOps P N M0 l.toArray (fun e E' M' => e = .normal ∧ Sub (t.2.2.1 ++ junks ds env) E' ∧ MSubX [] (t.2.2.2 ++ M) M') [o] (s.2.2.1 ++ junks ds env) (s.2.2.2 ++ M)
def WAlts (P : Program) (N : Nat) (M0 : Mem) (l : List Oper) (ds : List Nat) (env : Env) (M : Mem) (S : List WState) (s : WState) : List Nat → Prop
  | [] => True
  | j :: r => WOne P N M0 l ds env M S s j ∧ WAlts P N M0 l ds env M S s r
def WebN (P : Program) (N : Nat) (M0 : Mem) (l : List Oper) (ds : List Nat) (env : Env) (M : Mem) (ue : Env) (me : Mem) (S : List WState) : List WState → Prop
  | [] => True
  | s :: r => (okE (s.2.2.2 ++ M) s.2.2.1 ∧ okM (s.2.2.2 ++ M) s.2.2.2 ∧ (readyL l s.2.1 = [] → s.1 = 0 ∧ s.2.2 = (ue, me)) ∧ WAlts P N M0 l ds env M S s (readyL l s.2.1)) ∧ WebN P N M0 l ds env M ue me S r
section
variable {ds : List Nat} {S : List WState} {s : WState} {ue : Env} {me : Mem}
theorem WAlts.all : ∀ {is : List Nat}, WAlts P N M0 l ds env M S s is → ∀ i ∈ is, WOne P N M0 l ds env M S s i
  | [], _, i, hi => by cases hi
  | j :: r, ⟨h1, h3⟩, i, hi => by
    rcases List.mem_cons.1 hi with rfl | hi
    · exact h1
    · exact h3.all i hi
theorem WebN.all : ∀ {R : List WState}, WebN P N M0 l ds env M ue me S R → ∀ s ∈ R, okE (s.2.2.2 ++ M) s.2.2.1 ∧ okM (s.2.2.2 ++ M) s.2.2.2 ∧ (readyL l s.2.1 = [] → s.1 = 0 ∧ s.2.2 = (ue, me)) ∧ WAlts P N M0 l ds env M S s (readyL l s.2.1)
  | [], _, i, hi => by cases hi
  | j :: r, ⟨h1, h3⟩, i, hi => by
    rcases List.mem_cons.1 hi with rfl | hi
    · exact h1
    · exact h3.all i hi
theorem WAlts.nil : WAlts P N M0 l ds env M S s [] := trivial
theorem WAlts.cons {j : Nat} {r : List Nat} {f f' : Nat} {L L' : List Bool} {u u' : Env} {m m' : Mem} (t : Nat) (ho : l[j]? = some o) (ht : S[t]? = some (f', L', u', m')) (hf : f = f' + 1) (hL : L.set j true = L')
    (h : DOps P N M0 l.toArray (fun e E' M' => e = .normal ∧ Sub (u' ++ junks ds env) E' ∧ MSubX [] (m' ++ M) M') [o] (u ++ junks ds env) (m ++ M)) (hr : WAlts P N M0 l ds env M S (f, L, u, m) r) : WAlts P N M0 l ds env M S (f, L, u, m) (j :: r) :=
  ⟨⟨o, (f', L', u', m'), ho, List.mem_of_getElem? ht, hf, hL, h⟩, hr⟩
theorem WebN.nil : WebN P N M0 l ds env M ue me S [] := trivial
theorem WebN.cons {R : List WState} {j : Nat} {js : List Nat} {f : Nat} {L : List Bool} {u : Env} {m : Mem} (hr : readyL l L = j :: js) (h1 : okE (m ++ M) u) (h2 : okM (m ++ M) m) (h3 : WAlts P N M0 l ds env M S (f, L, u, m) (j :: js)) (h4 : WebN P N M0 l ds env M ue me S R) : WebN P N M0 l ds env M ue me S ((f, L, u, m) :: R) :=
  ⟨⟨h1, h2, (fun e => by rw [hr] at e; cases e), (by rw [hr]; exact h3)⟩, h4⟩
theorem WebN.last {R : List WState} {L : List Bool} (hr : readyL l L = []) (h1 : okE (me ++ M) ue) (h2 : okM (me ++ M) me) (h4 : WebN P N M0 l ds env M ue me S R) : WebN P N M0 l ds env M ue me S ((0, L, ue, me) :: R) :=
  ⟨⟨h1, h2, fun _ => ⟨rfl, rfl⟩, (by rw [hr]; exact WAlts.nil)⟩, h4⟩

end
end
end Go.Proofs.YtpgkbnefhhcfcaaGreatDoor.DL
set_option linter.unusedVariables false
set_option linter.unusedSimpArgs false
set_option linter.constructorNameAsVariable false
namespace Go.Proofs.YtpgkbnefhhcfcaaGreatDoor.DL
open Go.RowKit

/-- A block of which all but its cells is known. -/
def Blk.like (xs : List CV) : Blk → Blk
  | .box t _ => .box t xs
  | .row e k n v _ fz => .row e k n v xs fz
def Blk.cellsOf : Blk → List CV
  | .box _ cs => cs
  | .row _ _ _ _ cs _ => cs
def Blk.frm (k : Blk) : Blk := k.like []
theorem Blk.like_of {k k' : Blk} (h : k.frm = k'.frm) : k.like k'.cellsOf = k' := by
  cases k <;> cases k' <;> simp_all [Blk.frm, Blk.like, Blk.cellsOf]

/-- Memory of which some blocks are not known (the first ones), or not their cells (the others). -/
def genM (un : List Nat × List Nat) (xs : Nat → List CV) (ys : Nat → Option Blk) (M : Mem) : Mem :=
  un.1.map (fun b => (b, ys b)) ++ (un.2.map (fun b => (b, (mget M b).map (Blk.like (xs b)))) ++ M)
theorem mget_map_append (f : Nat → Option Blk) (R : Mem) (b : Nat) : ∀ l : List Nat, mget (l.map (fun b => (b, f b)) ++ R) b = if b ∈ l then f b else mget R b
  | [] => by simp
  | c :: l => by
    rw [List.map_cons, List.cons_append, mget_cons, mget_map_append f R b l]
    by_cases h : c = b
    · subst h; simp
    · rw [if_neg h]
      have : (b ∈ c :: l) = (b ∈ l) := by simp [Ne.symm h]
      simp only [this]

def muM : Option (Nat × Blk) → Mem → Mem
  | none, M => M
  | some (b, k), M => (b, some k) :: M
/-- Which operation writes which block: 0: its cells; 1: it makes it; 2: it may become another one. -/
def wsAt : List (Nat × Nat × Nat) → Nat → Option (Nat × Nat)
  | [], _ => none
  | (j, b, f) :: r, i => bif Nat.beq j i then some (b, f) else wsAt r i
def muOk (ws : List (Nat × Nat × Nat)) (i : Nat) (mu : Option (Nat × Blk)) (M : Mem) : Prop :=
  match mu with
  | none => wsAt ws i = none
  | some (b, k) => (wsAt ws i = some (b, 0) ∧ ∃ k0, mget M b = some k0 ∧ k0.frm = k.frm) ∨ (wsAt ws i = some (b, 1) ∧ mget M b = none) ∨ wsAt ws i = some (b, 2)

def relM (ms : List Nat) (i j : Nat) : Bool := (ms.getD i 0).testBit j || (ms.getD j 0).testBit i
def noChg (ws : List (Nat × Nat × Nat)) (b : Nat) : Bool := ws.all fun x => x.2.1 != b || x.2.2 != 2
def confOk1 (l : List Oper) (ws : List (Nat × Nat × Nat)) (un : List (List Nat × List Nat)) (ms : List Nat) : Bool :=
  (List.range l.length).all fun i => match l[i]? with
    | none => false
    | some o => (ons o).all (fun j => Nat.blt j i) &&
      ((o.looksAt l.toArray).all fun t => (List.range l.length).all fun j => match l[j]? with
        | none => false
        | some p => p.dst != some t || j == i || relM ms i j) &&
      ((List.range l.length).all fun j => match l[j]? with
        | none => false
        | some p => p.dst == none || p.dst != o.dst || j == i || relM ms i j) &&
      ((List.range l.length).all fun j => j == i || relM ms i j || match wsAt ws j with
        | none => true
        | some (b, f) => (match wsAt ws i with
            | none => true
            | some (b', _) => b' != b) &&
          ((un.getD i ([], [])).1.contains b || (f == 0 && noChg ws b && (un.getD i ([], [])).2.contains b)))
def confOk (l : List Oper) (ws : List (Nat × Nat × Nat)) (un : List (List Nat × List Nat)) : Bool := confOk1 l ws un (masks l)

structure CfF (l : List Oper) (ws : List (Nat × Nat × Nat)) (un : List (List Nat × List Nat)) : Prop where
  on : ∀ (i : Nat) o, l[i]? = some o → ∀ j ∈ ons o, j < i
  look : ∀ (i : Nat) o, l[i]? = some o → ∀ t ∈ o.looksAt l.toArray, ∀ (j : Nat) p, l[j]? = some p → p.dst = some t → j ≠ i → Reach l i j ∨ Reach l j i
  ord : ∀ (i j : Nat) o p t, l[i]? = some o → l[j]? = some p → o.dst = some t → p.dst = some t → j ≠ i → Reach l i j ∨ Reach l j i
  mem : ∀ (i j b f : Nat), i < l.length → j < l.length → wsAt ws j = some (b, f) → j ≠ i → Reach l i j ∨ Reach l j i ∨ ((∀ f', wsAt ws i ≠ some (b, f')) ∧ (b ∈ (un.getD i ([], [])).1 ∨ (f = 0 ∧ noChg ws b = true ∧ b ∈ (un.getD i ([], [])).2)))

theorem relM_reach {l : List Oper} {i j : Nat} (h : relM (masks l) i j = true) : Reach l i j ∨ Reach l j i := by
  rw [relM, Bool.or_eq_true] at h
  exact h.imp (masks_reach l i j) (masks_reach l j i)

theorem confOk_facts {l : List Oper} {ws : List (Nat × Nat × Nat)} {un : List (List Nat × List Nat)} (h : confOk l ws un = true) : CfF l ws un := by
  rw [confOk, confOk1, List.all_eq_true] at h
  have H : ∀ (i : Nat) o, l[i]? = some o → ((ons o).all (fun j => Nat.blt j i) = true ∧
      ((o.looksAt l.toArray).all fun t => (List.range l.length).all fun j => match l[j]? with
        | none => false
        | some p => p.dst != some t || j == i || relM (masks l) i j) = true) ∧
      ((List.range l.length).all fun j => match l[j]? with
        | none => false
        | some p => p.dst == none || p.dst != o.dst || j == i || relM (masks l) i j) = true ∧
      ((List.range l.length).all fun j => j == i || relM (masks l) i j || match wsAt ws j with
        | none => true
        | some (b, f) => (match wsAt ws i with
            | none => true
            | some (b', _) => b' != b) &&
          ((un.getD i ([], [])).1.contains b || (f == 0 && noChg ws b && (un.getD i ([], [])).2.contains b))) = true := fun i o ho => by
    have := h i (List.mem_range.2 (List.getElem?_eq_some_iff.1 ho).1)
    rw [ho] at this
    simp only [Bool.and_eq_true] at this
    exact ⟨this.1.1, this.1.2, this.2⟩
  have lt : ∀ {i : Nat} {o}, l[i]? = some o → i < l.length := fun ho => (List.getElem?_eq_some_iff.1 ho).1
  refine ⟨fun i o ho j hj => ?_, fun i o ho t ht j p hp hd hne => ?_, fun i j o p t ho hp h1 h2 hne => ?_, fun i j b f hi hj hw hne => ?_⟩
  · have := List.all_eq_true.1 (H i o ho).1.1 j hj
    simpa using this
  · have := List.all_eq_true.1 (List.all_eq_true.1 (H i o ho).1.2 t ht) j (List.mem_range.2 (lt hp))
    rw [hp] at this
    simp only [Bool.or_eq_true] at this
    rcases this with (h | h) | h
    · rw [hd] at h; simp at h
    · exact absurd (by simpa using h) hne
    · exact relM_reach h
  · have := List.all_eq_true.1 (H i o ho).2.1 j (List.mem_range.2 (lt hp))
    rw [hp] at this
    simp only [Bool.or_eq_true] at this
    rcases this with ((h | h) | h) | h
    · rw [h2] at h; simp at h
    · rw [h1, h2] at h; simp at h
    · exact absurd (by simpa using h) hne
    · exact relM_reach h
  · have ho : l[i]? = some l[i] := List.getElem?_eq_getElem hi
    have := List.all_eq_true.1 (H i _ ho).2.2 j (List.mem_range.2 hj)
    simp only [Bool.or_eq_true] at this
    rcases this with (h | h) | h
    · exact absurd (by simpa using h) hne
    · exact (relM_reach h).imp id .inl
    · rw [hw] at h
      simp only [Bool.and_eq_true, Bool.or_eq_true] at h
      refine .inr (.inr ⟨fun f' e => ?_, ?_⟩)
      · have := h.1
        rw [e] at this
        simp at this
      · refine h.2.imp (fun h => by simpa using h) fun h => ⟨by simpa using h.1.1, h.1.2, by simpa using h.2⟩

/-- Slots, memory behind some of the operations: told in the text's order. -/
def envC (S : Nat → Bool) : Nat → List (Option Tmp × SV) → Env → Env
  | _, [], env => env
  | j, p :: l, env => envC S (j + 1) l (bif S j then putd p.1 p.2 env else env)
def memC (S : Nat → Bool) : Nat → List (Option (Nat × Blk)) → Mem → Mem
  | _, [], M => M
  | j, p :: l, M => memC S (j + 1) l (bif S j then muM p M else M)

theorem lk_putd (d : Option Tmp) (r : SV) (env : Env) (t : Nat) : lk (putd d r env) t = if d = some t then r else lk env t := by
  cases d with
  | none => simp [putd]
  | some d =>
    rw [putd, lk_cons]
    by_cases h : d = t
    · subst h; simp
    · rw [if_neg h, if_neg (fun e => h (by injection e))]
theorem mget_muM (p : Option (Nat × Blk)) (M : Mem) (b : Nat) : mget (muM p M) b = match p with | some (c, k) => if c = b then some k else mget M b | none => mget M b := by
  cases p with
  | none => rfl
  | some p => rw [muM, mget_cons]

theorem envC_congr {S S' : Nat → Bool} {t : Nat} : ∀ (l : List (Option Tmp × SV)) (j : Nat) (env env' : Env), (∀ (i : Nat) r, l[i]? = some (some t, r) → S (j + i) = S' (j + i)) → lk env t = lk env' t →
    lk (envC S j l env) t = lk (envC S' j l env') t
  | [], _, _, _, _, h => h
  | p :: l, j, env, env', hs, h => by
    rw [envC, envC]
    refine envC_congr l (j + 1) _ _ (fun i r hi => by rw [show j + 1 + i = j + (i + 1) by omega]; exact hs (i + 1) r (by simpa using hi)) ?_
    obtain ⟨d, r⟩ := p
    by_cases hd : d = some t
    · subst hd
      have h0 : S j = S' j := hs 0 r rfl
      rw [h0]
      cases S' j <;> simp [lk_putd, h]
    · have e : ∀ (b : Bool) (e : Env), lk (bif b then putd d r e else e) t = lk e t := fun b e => by cases b <;> simp [lk_putd, hd]
      rw [e, e, h]
theorem memC_congr {S S' : Nat → Bool} {b : Nat} : ∀ (l : List (Option (Nat × Blk))) (j : Nat) (M M' : Mem), (∀ (i : Nat) k, l[i]? = some (some (b, k)) → S (j + i) = S' (j + i)) → mget M b = mget M' b →
    mget (memC S j l M) b = mget (memC S' j l M') b
  | [], _, _, _, _, h => h
  | p :: l, j, M, M', hs, h => by
    rw [memC, memC]
    refine memC_congr l (j + 1) _ _ (fun i r hi => by rw [show j + 1 + i = j + (i + 1) by omega]; exact hs (i + 1) r (by simpa using hi)) ?_
    by_cases hd : ∃ k, p = some (b, k)
    · obtain ⟨k, rfl⟩ := hd
      have h0 : S j = S' j := hs 0 k rfl
      rw [h0]
      cases S' j <;> simp [mget_muM, h]
    · have e : ∀ (q : Bool) (e : Mem), mget (bif q then muM p e else e) b = mget e b := fun q e => by
        cases q with
        | false => rfl
        | true =>
          show mget (muM p e) b = _
          rw [mget_muM]
          cases p with
          | none => rfl
          | some p => exact if_neg fun h => hd ⟨p.2, by rw [← h]⟩
      rw [e, e, h]
theorem envC_last {S : Nat → Bool} {t : Nat} {r : SV} : ∀ (l : List (Option Tmp × SV)) (j i : Nat) (env : Env), l[i]? = some (some t, r) → S (j + i) = true → (∀ (i' : Nat) r', i < i' → l[i']? = some (some t, r') → S (j + i') = false) →
    lk (envC S j l env) t = r
  | [], _, i, _, h, _, _ => by simp at h
  | p :: l, j, 0, env, h, hs, hl => by
    rw [envC]
    have hs : S j = true := hs
    obtain rfl : p = (some t, r) := by simpa using h
    rw [hs]
    show lk (envC S (j + 1) l ((t, r) :: env)) t = r
    rw [envC_congr (S' := fun _ => false) l (j + 1) _ ((t, r) :: env) (fun i' r' hi => ?_) rfl]
    · have : ∀ (l : List (Option Tmp × SV)) (j : Nat) (e : Env), envC (fun _ => false) j l e = e := fun l => by
        induction l with
        | nil => intro _ _; rfl
        | cons p l ih => intro j e; rw [envC]; exact ih _ _
      rw [this]
      show lk ((t, r) :: env) t = r
      rw [lk_cons, if_pos rfl]
    · rw [show j + 1 + i' = j + (i' + 1) by omega]
      exact hl (i' + 1) r' (by omega) (by simpa using hi)
  | p :: l, j, i + 1, env, h, hs, hl => by
    rw [envC]
    exact envC_last l (j + 1) i _ (by simpa using h) (by rw [show j + 1 + i = j + (i + 1) by omega]; exact hs) fun i' r' hi hr => by
      rw [show j + 1 + i' = j + (i' + 1) by omega]; exact hl (i' + 1) r' (by omega) (by simpa using hr)
theorem memC_none : ∀ (l : List (Option (Nat × Blk))) (j : Nat) (M : Mem), memC (fun _ => false) j l M = M
  | [], _, _ => rfl
  | p :: l, j, M => by rw [memC]; exact memC_none l _ _
theorem memC_last {S : Nat → Bool} {b : Nat} {k : Blk} : ∀ (l : List (Option (Nat × Blk))) (j i : Nat) (M : Mem), l[i]? = some (some (b, k)) → S (j + i) = true → (∀ (i' : Nat) k', i < i' → l[i']? = some (some (b, k')) → S (j + i') = false) →
    mget (memC S j l M) b = some k
  | [], _, i, _, h, _, _ => by simp at h
  | p :: l, j, 0, M, h, hs, hl => by
    rw [memC]
    have hs : S j = true := hs
    obtain rfl : p = some (b, k) := by simpa using h
    rw [hs]
    show mget (memC S (j + 1) l ((b, some k) :: M)) b = some k
    rw [memC_congr (S' := fun _ => false) l (j + 1) _ ((b, some k) :: M) (fun i' r' hi => ?_) rfl]
    · rw [memC_none, mget_cons, if_pos rfl]
    · rw [show j + 1 + i' = j + (i' + 1) by omega]
      exact hl (i' + 1) r' (by omega) (by simpa using hi)
  | p :: l, j, i + 1, M, h, hs, hl => by
    rw [memC]
    exact memC_last l (j + 1) i _ (by simpa using h) (by rw [show j + 1 + i = j + (i + 1) by omega]; exact hs) fun i' r' hi hr => by
      rw [show j + 1 + i' = j + (i' + 1) by omega]; exact hl (i' + 1) r' (by omega) (by simpa using hr)
/-- What a block holds comes from the last operation that wrote it. -/
theorem memC_from {S : Nat → Bool} {b : Nat} : ∀ (l : List (Option (Nat × Blk))) (j : Nat) (M : Mem), (mget (memC S j l M) b = mget M b ∧ ∀ (i : Nat) k, l[i]? = some (some (b, k)) → S (j + i) = false) ∨
    ∃ (i : Nat) (k : Blk), l[i]? = some (some (b, k)) ∧ S (j + i) = true ∧ mget (memC S j l M) b = some k ∧ ∀ (i' : Nat) k', i < i' → l[i']? = some (some (b, k')) → S (j + i') = false
  | [], _, _ => .inl ⟨rfl, fun i k h => by simp at h⟩
  | p :: l, j, M => by
    rw [memC]
    rcases memC_from (S := S) (b := b) l (j + 1) (bif S j then muM p M else M) with ⟨h1, h2⟩ | ⟨i, k, h1, h2, h3, h4⟩
    · by_cases hp : (∃ k, p = some (b, k)) ∧ S j = true
      · obtain ⟨⟨k, rfl⟩, hs⟩ := hp
        refine .inr ⟨0, k, rfl, hs, ?_, fun i' k' hi hk => ?_⟩
        · rw [h1, hs]; show mget ((b, some k) :: M) b = _; rw [mget_cons, if_pos rfl]
        · obtain ⟨i', rfl⟩ : ∃ n, i' = n + 1 := ⟨i' - 1, by omega⟩
          rw [show j + (i' + 1) = j + 1 + i' by omega]
          exact h2 i' k' (by simpa using hk)
      · refine .inl ⟨?_, fun i k hk => ?_⟩
        · rw [h1]
          cases hs : S j with
          | false => rfl
          | true =>
            show mget (muM p M) b = _
            rw [mget_muM]
            cases p with
            | none => rfl
            | some p => exact if_neg fun h => hp ⟨⟨p.2, by rw [← h]⟩, hs⟩
        · cases i with
          | zero =>
            obtain rfl : p = some (b, k) := by simpa using hk
            cases hs : S (j + 0) with
            | false => rfl
            | true => exact absurd ⟨⟨k, rfl⟩, hs⟩ hp
          | succ i => rw [show j + (i + 1) = j + 1 + i by omega]; exact h2 i k (by simpa using hk)
    · refine .inr ⟨i + 1, k, by simpa using h1, by rw [show j + (i + 1) = j + 1 + i by omega]; exact h2, h3, fun i' k' hi hk => ?_⟩
      obtain ⟨i', rfl⟩ : ∃ n, i' = n + 1 := ⟨i' - 1, by omega⟩
      rw [show j + (i' + 1) = j + 1 + i' by omega]
      exact h4 i' k' (by omega) (by simpa using hk)

section
variable {P : Program} {N : Nat} {Q : DPost} {env : Env} {M M0 : Mem} {o : Oper} {rest : List Oper}
variable {l : List Oper} {ws : List (Nat × Nat × Nat)} {un : List (List Nat × List Nat)}

/-- What one operation does, whatever the operations did that it does not wait for. -/
def OpAt (P : Program) (N : Nat) (M0 : Mem) (l : List Oper) (un : List Nat × List Nat) (o : Oper) (env : Env) (M : Mem) (r : SV) (mu : Option (Nat × Blk)) : Prop :=
  ∀ (E : Env) (xs : Nat → List CV) (ys : Nat → Option Blk), DOps P N M0 l.toArray (fun e E' M' => e = .normal ∧ E' = putd o.dst r (restr env (o.looksAt l.toArray) ++ E) ∧ M' = muM mu (genM un xs ys M)) [o] (restr env (o.looksAt l.toArray) ++ E) (genM un xs ys M)

def DCf (P : Program) (N : Nat) (M0 : Mem) (l : List Oper) (Q : DPost) (ws : List (Nat × Nat × Nat)) (un : List (List Nat × List Nat)) : Nat → List Oper → Env → Mem → Prop
  | _, [], env, M => Q .normal env M
  | i, o :: rest, env, M => ∃ r mu, muOk ws i mu M ∧ OpAt P N M0 l (un.getD i ([], [])) o env M r mu ∧ DCf P N M0 l Q ws un (i + 1) rest (putd o.dst r env) (muM mu M)

theorem DCf.done {i : Nat} (h : Q .normal env M) : DCf P N M0 l Q ws un i [] env M := h
theorem DCf.pure {i d : Nat} {r : SV} (hd : o.dst = some d) (hw : wsAt ws i = none)
    (h1 : ∀ (E : Env) (xs : Nat → List CV) (ys : Nat → Option Blk), DOps P N M0 l.toArray (fun e E' M' => e = .normal ∧ E' = (d, r) :: (restr env (o.looksAt l.toArray) ++ E) ∧ M' = genM (un.getD i ([], [])) xs ys M) [o] (restr env (o.looksAt l.toArray) ++ E) (genM (un.getD i ([], [])) xs ys M))
    (h2 : DCf P N M0 l Q ws un (i + 1) rest ((d, r) :: env) M) : DCf P N M0 l Q ws un i (o :: rest) env M := by
  refine ⟨r, none, hw, ?_, ?_⟩
  · unfold OpAt
    rw [hd]
    exact h1
  · rw [hd]; exact h2
theorem DCf.make {i d b : Nat} {r : SV} {k : Blk} (hd : o.dst = some d) (hw : wsAt ws i = some (b, 1)) (hb : mget M b = none)
    (h1 : ∀ (E : Env) (xs : Nat → List CV) (ys : Nat → Option Blk), DOps P N M0 l.toArray (fun e E' M' => e = .normal ∧ E' = (d, r) :: (restr env (o.looksAt l.toArray) ++ E) ∧ M' = (b, some k) :: genM (un.getD i ([], [])) xs ys M) [o] (restr env (o.looksAt l.toArray) ++ E) (genM (un.getD i ([], [])) xs ys M))
    (h2 : DCf P N M0 l Q ws un (i + 1) rest ((d, r) :: env) ((b, some k) :: M)) : DCf P N M0 l Q ws un i (o :: rest) env M := by
  refine ⟨r, some (b, k), .inr (.inl ⟨hw, hb⟩), ?_, ?_⟩
  · unfold OpAt
    rw [hd]
    exact h1
  · rw [hd]; exact h2
theorem DCf.upd {i b : Nat} {k k0 : Blk} (hd : o.dst = none) (hw : wsAt ws i = some (b, 0)) (hb : mget M b = some k0)
    (h1 : ∀ (E : Env) (xs : Nat → List CV) (ys : Nat → Option Blk), DOps P N M0 l.toArray (fun e E' M' => e = .normal ∧ E' = restr env (o.looksAt l.toArray) ++ E ∧ M' = (b, some k) :: genM (un.getD i ([], [])) xs ys M) [o] (restr env (o.looksAt l.toArray) ++ E) (genM (un.getD i ([], [])) xs ys M))
    (hk : k0.frm = k.frm) (h2 : DCf P N M0 l Q ws un (i + 1) rest env ((b, some k) :: M)) : DCf P N M0 l Q ws un i (o :: rest) env M := by
  refine ⟨.junk, some (b, k), .inl ⟨hw, k0, hb, hk⟩, ?_, ?_⟩
  · unfold OpAt
    rw [hd]
    exact h1
  · rw [hd]; exact h2

theorem DCf.split : ∀ (rest : List Oper) (i : Nat) (env : Env) (M : Mem), DCf P N M0 l Q ws un i rest env M → ∃ (dr : List (Option Tmp × SV)) (us : List (Option (Nat × Blk))), dr.length = rest.length ∧ us.length = rest.length ∧
    (∀ (j : Nat) o, rest[j]? = some o → ∃ r mu, dr[j]? = some (o.dst, r) ∧ us[j]? = some mu ∧ muOk ws (i + j) mu (memC (fun n => decide (n < i + j)) i us M) ∧
      OpAt P N M0 l (un.getD (i + j) ([], [])) o (envC (fun n => decide (n < i + j)) i dr env) (memC (fun n => decide (n < i + j)) i us M) r mu) ∧
    Q .normal (envC (fun _ => true) i dr env) (memC (fun _ => true) i us M)
  | [], i, env, M, h => ⟨[], [], rfl, rfl, fun j o h => by simp at h, h⟩
  | o :: rest, i, env, M, ⟨r, mu, h1, h2, h3⟩ => by
    obtain ⟨dr, us, a1, a2, a3, a4⟩ := DCf.split rest (i + 1) _ _ h3
    have nm : ∀ (us : List (Option (Nat × Blk))) (j : Nat) (M : Mem), i ≤ j → memC (fun n => decide (n < i)) j us M = M := fun us => by
      induction us with
      | nil => intro _ _ _; rfl
      | cons p us ih => intro j M hj; rw [memC, show decide (j < i) = false from decide_eq_false (by omega)]; exact ih _ _ (by omega)
    have ne : ∀ (us : List (Option Tmp × SV)) (j : Nat) (M : Env), i ≤ j → envC (fun n => decide (n < i)) j us M = M := fun us => by
      induction us with
      | nil => intro _ _ _; rfl
      | cons p us ih => intro j M hj; rw [envC, show decide (j < i) = false from decide_eq_false (by omega)]; exact ih _ _ (by omega)
    refine ⟨(o.dst, r) :: dr, mu :: us, by simp [a1], by simp [a2], fun j p hp => ?_, a4⟩
    cases j with
    | zero =>
      obtain rfl : o = p := by simpa using hp
      refine ⟨r, mu, rfl, rfl, ?_⟩
      rw [Nat.add_zero, nm _ _ _ (Nat.le_refl _), ne _ _ _ (Nat.le_refl _)]
      exact ⟨h1, h2⟩
    | succ j =>
      obtain ⟨r', mu', b1, b2, b3⟩ := a3 j p (by simpa using hp)
      refine ⟨r', mu', by simpa using b1, by simpa using b2, ?_⟩
      rw [show i + (j + 1) = i + 1 + j by omega, memC, envC, show decide (i < i + 1 + j) = true from decide_eq_true (by omega)]
      exact b3
end
end Go.Proofs.YtpgkbnefhhcfcaaGreatDoor.DL
set_option linter.unusedVariables false
set_option linter.unusedSimpArgs false
set_option linter.constructorNameAsVariable false
namespace Go.Proofs.YtpgkbnefhhcfcaaGreatDoor.DL
open Go.RowKit

section
variable {P : Program} {N : Nat} {Q : DPost} {env : Env} {M M0 : Mem} {o : Oper} {rest : List Oper}
variable {l : List Oper} {ws : List (Nat × Nat × Nat)} {un : List (List Nat × List Nat)}
variable {dr : List (Option Tmp × SV)} {us : List (Option (Nat × Blk))}

/-- What is known of an operation's effect on memory. -/
def UsOk (ws : List (Nat × Nat × Nat)) (us : List (Option (Nat × Blk))) (M : Mem) : Prop :=
  ∀ (j : Nat) mu, us[j]? = some mu → muOk ws j mu (memC (fun n => decide (n < j)) 0 us M)

theorem UsOk.at (h : UsOk ws us M) {j b : Nat} {k : Blk} (hj : us[j]? = some (some (b, k))) : ∃ f, wsAt ws j = some (b, f) ∧
    ((f = 0 ∧ ∃ k0, mget (memC (fun n => decide (n < j)) 0 us M) b = some k0 ∧ k0.frm = k.frm) ∨ (f = 1 ∧ mget (memC (fun n => decide (n < j)) 0 us M) b = none) ∨ f = 2) := by
  rcases h j _ hj with ⟨h1, h2⟩ | ⟨h1, h2⟩ | h1
  · exact ⟨0, h1, .inl ⟨rfl, h2⟩⟩
  · exact ⟨1, h1, .inr (.inl ⟨rfl, h2⟩)⟩
  · exact ⟨2, h1, .inr (.inr rfl)⟩

theorem noChg_at {b j f : Nat} : ∀ {ws : List (Nat × Nat × Nat)}, noChg ws b = true → wsAt ws j = some (b, f) → f ≠ 2
  | [], _, h => by simp [wsAt] at h
  | (i, c, g) :: r, hn, h => by
    rw [noChg, List.all_cons, Bool.and_eq_true] at hn
    rw [wsAt] at h
    cases hb : Nat.beq i j with
    | true =>
      rw [hb] at h
      simp only [cond_true, Option.some.injEq, Prod.mk.injEq] at h
      obtain ⟨rfl, rfl⟩ := h
      have := hn.1
      simpa using this
    | false =>
      rw [hb] at h
      exact noChg_at hn.2 h

theorem muM_far {mu : Option (Nat × Blk)} {M : Mem} {b : Nat} (h : ¬ ∃ k, mu = some (b, k)) : mget (muM mu M) b = mget M b := by
  cases mu with
  | none => rfl
  | some p =>
    rw [muM, mget_cons, if_neg]
    exact fun e => h ⟨p.2, by rw [← e]⟩
theorem pre_succ (us : List (Option (Nat × Blk))) (M : Mem) (b m : Nat) (mu : Option (Nat × Blk)) (h : us[m]? = some mu) :
    mget (memC (fun n => decide (n < m + 1)) 0 us M) b = mget (muM mu (memC (fun n => decide (n < m)) 0 us M)) b := by
  by_cases hb : ∃ k, mu = some (b, k)
  · obtain ⟨k, rfl⟩ := hb
    rw [memC_last us 0 m M h (by simp) (fun i' k' hi _ => by simp; omega)]
    show _ = mget ((b, some k) :: _) b
    rw [mget_cons, if_pos rfl]
  · rw [muM_far hb]
    refine memC_congr us 0 M M (fun i k hi => ?_) rfl
    have : i ≠ m := fun e => hb ⟨k, by subst e; rw [h] at hi; injection hi⟩
    simp only [Nat.zero_add]
    by_cases h1 : i < m
    · rw [decide_eq_true h1, decide_eq_true (by omega : i < m + 1)]
    · rw [decide_eq_false h1, decide_eq_false (by omega : ¬ i < m + 1)]
theorem pre_out (us : List (Option (Nat × Blk))) (M : Mem) (b m : Nat) (h : us.length ≤ m) :
    mget (memC (fun n => decide (n < m + 1)) 0 us M) b = mget (memC (fun n => decide (n < m)) 0 us M) b := by
  refine memC_congr us 0 M M (fun i k hi => ?_) rfl
  have := (List.getElem?_eq_some_iff.1 hi).1
  simp only [Nat.zero_add]
  rw [decide_eq_true (by omega : i < m), decide_eq_true (by omega : i < m + 1)]
theorem pre_zero (us : List (Option (Nat × Blk))) (M : Mem) (b : Nat) : mget (memC (fun n => decide (n < 0)) 0 us M) b = mget M b := by
  rw [memC_congr (S' := fun _ => false) us 0 M M (fun i k hi => by simp) rfl, memC_none]

/-- A block that stays what it is keeps its frame. -/
theorem frm_keep (hu : UsOk ws us M) {b : Nat} (hn : noChg ws b = true) {m : Nat} {k0 : Blk} (h0 : mget (memC (fun n => decide (n < m)) 0 us M) b = some k0) :
    ∀ d, ∃ k1, mget (memC (fun n => decide (n < m + d)) 0 us M) b = some k1 ∧ k1.frm = k0.frm := by
  intro d
  induction d with
  | zero => exact ⟨k0, h0, rfl⟩
  | succ d ih =>
    obtain ⟨k1, h1, h2⟩ := ih
    rw [← Nat.add_assoc]
    cases hj : us[m + d]? with
    | none => exact ⟨k1, by rw [pre_out _ _ _ _ (List.getElem?_eq_none_iff.1 hj)]; exact h1, h2⟩
    | some mu =>
      rw [pre_succ _ _ _ _ mu hj]
      by_cases hb : ∃ k, mu = some (b, k)
      · obtain ⟨k, rfl⟩ := hb
        obtain ⟨f, hw, hf⟩ := hu.at hj
        refine ⟨k, by show mget ((b, some k) :: _) b = _; rw [mget_cons, if_pos rfl], ?_⟩
        rcases hf with ⟨_, k2, h3, h4⟩ | ⟨_, h3⟩ | h3
        · rw [h1] at h3
          injection h3 with h3
          rw [← h4, ← h3, h2]
        · rw [h1] at h3; cases h3
        · exact absurd h3 (noChg_at hn hw)
      · refine ⟨k1, ?_, h2⟩
        rw [muM_far hb]
        exact h1
theorem frm_any (S : Nat → Bool) {b : Nat} {k : Blk} (h : mget (memC S 0 us M) b = some k) : ∃ m, mget (memC (fun n => decide (n < m)) 0 us M) b = some k := by
  rcases memC_from (S := S) (b := b) us 0 M with ⟨h1, _⟩ | ⟨i, k', h1, _, h3, _⟩
  · exact ⟨0, by rw [pre_zero, ← h1]; exact h⟩
  · rw [h] at h3
    obtain rfl := Option.some.inj h3
    exact ⟨i + 1, by rw [pre_succ _ _ _ _ _ h1]; show mget ((b, some k) :: _) b = _; rw [mget_cons, if_pos rfl]⟩
theorem frm_eq (hu : UsOk ws us M) {b : Nat} (hn : noChg ws b = true) {S S' : Nat → Bool} {k k' : Blk} (h : mget (memC S 0 us M) b = some k) (h' : mget (memC S' 0 us M) b = some k') : k.frm = k'.frm := by
  obtain ⟨m, h1⟩ := frm_any S h
  obtain ⟨m', h1'⟩ := frm_any S' h'
  obtain ⟨k1, a1, a2⟩ := frm_keep hu hn h1 m'
  obtain ⟨k2, b1, b2⟩ := frm_keep hu hn h1' m
  rw [Nat.add_comm] at b1
  rw [a1] at b1
  obtain rfl := Option.some.inj b1
  rw [← a2, b2]

/-- The first operation that writes a block which is not there makes it. -/
theorem first_makes (hu : UsOk ws us M) {b : Nat} (hn : noChg ws b = true) (h0 : mget M b = none) : ∀ (n j : Nat) (k : Blk), j < n → us[j]? = some (some (b, k)) → ∃ j' k', j' ≤ j ∧ us[j']? = some (some (b, k')) ∧ wsAt ws j' = some (b, 1)
  | 0, j, k, hj, _ => absurd hj (Nat.not_lt_zero _)
  | n + 1, j, k, hj, h => by
    obtain ⟨f, hw, hf⟩ := hu.at h
    rcases hf with ⟨_, k0, h1, _⟩ | ⟨rfl, _⟩ | h1
    · rcases memC_from (S := fun n => decide (n < j)) (b := b) us 0 M with ⟨e, _⟩ | ⟨i, k', e1, e2, _, _⟩
      · rw [e, h0] at h1; cases h1
      · have hi : i < j := by simpa using e2
        obtain ⟨j', k2, a1, a2, a3⟩ := first_makes hu hn h0 n i k' (by omega) e1
        exact ⟨j', k2, by omega, a2, a3⟩
    · exact ⟨j, k, Nat.le_refl _, h, hw⟩
    · exact absurd h1 (noChg_at hn hw)

theorem Reach.lt (F : CfF l ws un) {i j : Nat} (h : Reach l i j) : j < i := by
  induction h with
  | one ho h => exact F.on _ _ ho _ h
  | more ho h r ih => exact Nat.lt_trans ih (F.on _ _ ho _ h)
theorem Reach.trans {i m j : Nat} (h : Reach l i m) (k : Reach l m j) : Reach l i j := by
  induction h with
  | one ho h => exact .more ho h k
  | more ho h _ ih => exact .more ho h (ih k)
theorem Reach.len {i j : Nat} (h : Reach l i j) : i < l.length := by
  cases h with
  | one ho _ => exact (List.getElem?_eq_some_iff.1 ho).1
  | more ho _ _ => exact (List.getElem?_eq_some_iff.1 ho).1

/-- Memory where an operation comes up, told as that operation is shown it. -/
theorem gen_at (F : CfF l ws un) (hu : UsOk ws us M) (hlen : us.length = l.length) {S : Nat → Bool} {i : Nat} (hi : i < l.length) (hS : S i = false) (hup : ∀ j, Reach l i j → S j = true) (hdn : ∀ j, Reach l j i → S j = false) :
    ∃ xs ys, ∀ b, mget (genM (un.getD i ([], [])) xs ys (memC (fun n => decide (n < i)) 0 us M)) b = mget (memC S 0 us M) b := by
  refine ⟨fun b => ((mget (memC S 0 us M) b).map Blk.cellsOf).getD [], fun b => mget (memC S 0 us M) b, fun b => ?_⟩
  unfold genM
  rw [mget_map_append, mget_map_append]
  have same : (∀ j k, us[j]? = some (some (b, k)) → j = i ∨ Reach l i j ∨ Reach l j i) → mget (memC (fun n => decide (n < i)) 0 us M) b = mget (memC S 0 us M) b := fun h => by
    refine memC_congr us 0 M M (fun j k hj => ?_) rfl
    simp only [Nat.zero_add]
    rcases h j k hj with rfl | h | h
    · rw [hS]; simp
    · rw [hup j h, decide_eq_true (h.lt F)]
    · rw [hdn j h, decide_eq_false]
      have := h.lt F
      omega
  split
  · rfl
  · rename_i hg
    split
    · rename_i hf
      by_cases hall : ∀ j k, us[j]? = some (some (b, k)) → j = i ∨ Reach l i j ∨ Reach l j i
      · rw [same hall]
        cases h0 : mget (memC S 0 us M) b with
        | none => rfl
        | some k =>
          refine congrArg some ?_
          simp only [h0]
          exact Blk.like_of rfl
      · obtain ⟨j, k, hj, hne, hn1, hn2⟩ : ∃ j k, us[j]? = some (some (b, k)) ∧ j ≠ i ∧ ¬ Reach l i j ∧ ¬ Reach l j i := by
          refine Classical.byContradiction fun hno => hall fun j k hj => ?_
          by_cases h1 : j = i
          · exact .inl h1
          · by_cases h2 : Reach l i j
            · exact .inr (.inl h2)
            · exact .inr (.inr (Classical.byContradiction fun h3 => hno ⟨j, k, hj, h1, h2, h3⟩))
        have lenj : ∀ {j k}, us[j]? = some (some (b, k)) → j < l.length := fun h => by rw [← hlen]; exact (List.getElem?_eq_some_iff.1 h).1
        -- an operation that writes b and is not bound to i
        have free : ∀ j k, us[j]? = some (some (b, k)) → j ≠ i → ¬ Reach l i j → ¬ Reach l j i → wsAt ws j = some (b, 0) ∧ noChg ws b = true ∧ (∀ f', wsAt ws i ≠ some (b, f')) := fun j k hj hne h1 h2 => by
          obtain ⟨f, hw, _⟩ := hu.at hj
          rcases F.mem i j b f hi (lenj hj) hw hne with h | h | ⟨h3, h4⟩
          · exact absurd h h1
          · exact absurd h h2
          · rcases h4 with h4 | ⟨rfl, h5, _⟩
            · exact absurd h4 hg
            · exact ⟨hw, h5, h3⟩
        obtain ⟨_, hno, hi0⟩ := free j k hj hne hn1 hn2
        have makes : ∀ j0 k0, us[j0]? = some (some (b, k0)) → wsAt ws j0 = some (b, 1) → Reach l i j0 ∨ Reach l j0 i := fun j0 k0 h1 h2 => by
          have hne0 : j0 ≠ i := fun e => hi0 1 (by rw [← e]; exact h2)
          refine Classical.byContradiction fun hno2 => ?_
          obtain ⟨h3, _, _⟩ := free j0 k0 h1 hne0 (fun h => hno2 (.inl h)) (fun h => hno2 (.inr h))
          rw [h2] at h3
          simp at h3
        have both : ∀ j j' k k', us[j]? = some (some (b, k)) → us[j']? = some (some (b, k')) → j' < j → Reach l j j' := fun j j' k k' h1 h2 hlt => by
          obtain ⟨f, hw, _⟩ := hu.at h2
          obtain ⟨f', hw', _⟩ := hu.at h1
          rcases F.mem j j' b f (lenj h1) (lenj h2) hw (by omega) with h | h | ⟨h, _⟩
          · exact h
          · have := h.lt F; omega
          · exact absurd hw' (h f')
        cases h1 : mget (memC (fun n => decide (n < i)) 0 us M) b with
        | some k1 =>
          cases h2 : mget (memC S 0 us M) b with
          | some k2 =>
            refine congrArg some ?_
            simp only [h2]
            exact Blk.like_of (frm_eq hu hno h1 h2)
          | none =>
            exfalso
            rcases memC_from (S := S) (b := b) us 0 M with ⟨e, es⟩ | ⟨_, _, _, _, e, _⟩
            · rw [h2] at e
              rcases memC_from (S := fun n => decide (n < i)) (b := b) us 0 M with ⟨e', _⟩ | ⟨a, ka, e1, e2, _, _⟩
              · rw [h1, ← e] at e'; cases e'
              · obtain ⟨j0, k0, g1, g2, g3⟩ := first_makes hu hno e.symm _ a ka (Nat.lt_succ_self _) e1
                have hai : a < i := by simpa using e2
                rcases makes j0 k0 g2 g3 with h | h
                · have := es j0 k0 g2
                  rw [Nat.zero_add, hup j0 h] at this
                  cases this
                · have := h.lt F
                  omega
            · rw [h2] at e; cases e
        | none =>
          cases h2 : mget (memC S 0 us M) b with
          | none => rfl
          | some k2 =>
            exfalso
            rcases memC_from (S := fun n => decide (n < i)) (b := b) us 0 M with ⟨e, es⟩ | ⟨_, _, _, _, e, _⟩
            · rw [h1] at e
              rcases memC_from (S := S) (b := b) us 0 M with ⟨e', _⟩ | ⟨a, ka, e1, e2, _, _⟩
              · rw [h2, ← e] at e'; cases e'
              · rw [Nat.zero_add] at e2
                obtain ⟨j0, k0, g1, g2, g3⟩ := first_makes hu hno e.symm _ a ka (Nat.lt_succ_self _) e1
                rcases makes j0 k0 g2 g3 with h | h
                · have := es j0 k0 g2
                  have hlt := h.lt F
                  simp at this
                  omega
                · have ha : Reach l a i := by
                    by_cases hj0 : j0 = a
                    · rw [← hj0]; exact h
                    · exact (both a j0 ka k0 e1 g2 (by omega)).trans h
                  rw [hdn a ha] at e2
                  cases e2
            · rw [h1] at e; cases e
    · rename_i hf
      refine same fun j k hj => ?_
      obtain ⟨f, hw, _⟩ := hu.at hj
      by_cases hne : j = i
      · exact .inl hne
      · rcases F.mem i j b f hi (by rw [← hlen]; exact (List.getElem?_eq_some_iff.1 hj).1) hw hne with h | h | ⟨_, h | ⟨_, _, h⟩⟩
        · exact .inr (.inl h)
        · exact .inr (.inr h)
        · exact absurd h hg
        · exact absurd h hf

theorem wpAny_conf (F : CfF l ws un) (hd : dr.length = l.length) (hlen : us.length = l.length) (hu : UsOk ws us M)
    (hop : ∀ (j : Nat) o, l[j]? = some o → ∃ r mu, dr[j]? = some (o.dst, r) ∧ us[j]? = some mu ∧ OpAt P N M0 l (un.getD j ([], [])) o (envC (fun n => decide (n < j)) 0 dr env) (memC (fun n => decide (n < j)) 0 us M) r mu)
    (hend : Q .normal (envC (fun _ => true) 0 dr env) (memC (fun _ => true) 0 us M)) {x0 : Ctx} (hx : x0.M0 = M0) : ∀ (fuel : Nat) (listed : Array Bool) (a : Act) (w : World),
    ((List.range l.length).countP fun j => !listed.getD j true) ≤ fuel → listed.size = l.length → (∀ i o, l[i]? = some o → listed.getD i false = true → ∀ j ∈ ons o, listed.getD j false = true) →
    At x0 N (envC (fun j => listed.getD j false) 0 dr env) (memC (fun j => listed.getD j false) 0 us M) a w → wpAny P .any l.toArray (up x0 N Q) fuel listed a w := by
  have fin : ∀ (listed : Array Bool) (a : Act) (w : World), (∀ j, j < l.length → listed.getD j false = true) →
      At x0 N (envC (fun j => listed.getD j false) 0 dr env) (memC (fun j => listed.getD j false) 0 us M) a w → up x0 N Q .normal a w := fun listed a w hall hat => by
    refine ⟨_, _, ?_, hend⟩
    refine Wk.memo (M0 := M0) (fun t => .inr ?_) (fun b => ?_) x0 a w hx hat
    · refine envC_congr dr 0 env env (fun i r hi => ?_) rfl
      rw [Nat.zero_add, hall i (by rw [← hd]; exact (List.getElem?_eq_some_iff.1 hi).1)]
    · refine memC_congr us 0 M M (fun i r hi => ?_) rfl
      rw [Nat.zero_add, hall i (by rw [← hlen]; exact (List.getElem?_eq_some_iff.1 hi).1)]
  have none_ready : ∀ (listed : Array Bool), listed.size = l.length → Region.ready .any l.toArray listed = [] → ∀ j, j < l.length → listed.getD j false = true := fun listed hs h0 => by
    have gd2 : ∀ j, j < l.length → listed.getD j false = listed.getD j true := fun j hj => by
      rw [Array.getD_eq_getD_getElem?, Array.getD_eq_getD_getElem?, Array.getElem?_eq_getElem (by omega)]; rfl
    intro j
    induction j using Nat.strongRecOn with
    | _ j ih =>
      intro hj
      refine Classical.byContradiction fun hn => ?_
      have hjl : listed.getD j true = false := by
        rw [← gd2 j hj]
        simpa using hn
      have hmem : j ∈ Region.ready .any l.toArray listed := ready_of (by simpa using hj) hjl (o := l[j]) (by simp [hj]) fun e he hb => by
        have hlt := F.on j _ (List.getElem?_eq_getElem hj) e.on (by simp only [ons, List.mem_map, List.mem_filter]; exact ⟨e, ⟨he, hb⟩, rfl⟩)
        exact ih _ hlt (by omega)
      rw [h0] at hmem
      cases hmem
  intro fuel
  induction fuel with
  | zero =>
    intro listed a w hc hs hcl hat
    have hall : ∀ j, j < l.length → listed.getD j false = true := fun j hj => by
      have := List.countP_eq_zero.1 (Nat.le_zero.1 hc) j (List.mem_range.2 hj)
      rw [Array.getD_eq_getD_getElem?, Array.getElem?_eq_getElem (by omega)] at this ⊢
      simpa using this
    refine ⟨List.eq_nil_iff_forall_not_mem.2 fun i hi => ?_, fin listed a w hall hat⟩
    obtain ⟨h1, h2, _⟩ := mem_ready hi
    have h1' : i < l.length := by simpa using h1
    have := hall i h1'
    rw [Array.getD_eq_getD_getElem?, Array.getElem?_eq_getElem (by omega)] at this h2
    simp at this h2
    rw [h2] at this
    cases this
  | succ fuel ih =>
    intro listed a w hc hs hcl hat
    refine ⟨fun h0 => fin listed a w (none_ready listed hs h0) hat, fun i hi => ?_⟩
    obtain ⟨h1, h2, o, ho', h3⟩ := mem_ready hi
    have hil : i < l.length := by simpa using h1
    have ho : l[i]? = some o := by simpa using ho'
    have gd2 : listed.getD i false = false := by
      rw [Array.getD_eq_getD_getElem?, Array.getElem?_eq_getElem (by omega)] at h2 ⊢
      simpa using h2
    have hons : ∀ j ∈ ons o, listed.getD j false = true := fun j hj => by
      simp only [ons, List.mem_map, List.mem_filter] at hj
      obtain ⟨e, ⟨he, hb⟩, rfl⟩ := hj
      exact h3 e he hb
    have hup : ∀ j, Reach l i j → listed.getD j false = true := fun j hj => reach_listed (S := fun j => listed.getD j false) hcl hj fun o2 ho2 k hk => by
      rw [ho] at ho2
      obtain rfl := Option.some.inj ho2
      exact hons k hk
    have hdn : ∀ j, Reach l j i → listed.getD j false = false := fun j hj => by
      cases hb : listed.getD j false with
      | false => rfl
      | true =>
        have := reach_listed (S := fun j => listed.getD j false) hcl hj fun o2 ho2 k hk => hcl j o2 ho2 hb k hk
        rw [gd2] at this
        cases this
    obtain ⟨r, mu, hdr, hus, hopi⟩ := hop i o ho
    obtain ⟨xs, ys, hgen⟩ := gen_at F hu hlen hil gd2 hup hdn
    have hlook : ∀ t ∈ o.looksAt l.toArray, lk (envC (fun n => decide (n < i)) 0 dr env) t = lk (envC (fun j => listed.getD j false) 0 dr env) t := fun t ht => by
      refine envC_congr dr 0 env env (fun j r' hj => ?_) rfl
      rw [Nat.zero_add]
      have hjl : j < l.length := by rw [← hd]; exact (List.getElem?_eq_some_iff.1 hj).1
      obtain ⟨r2, _, hj2, _⟩ := hop j _ (List.getElem?_eq_getElem hjl)
      rw [hj] at hj2
      have hdst : l[j].dst = some t := by
        injection hj2 with hj2
        injection hj2 with hj2 _
        exact hj2.symm
      by_cases hne : j = i
      · subst hne; rw [gd2]; simp
      · rcases F.look i o ho t ht j _ (List.getElem?_eq_getElem hjl) hdst hne with h | h
        · rw [hup j h, decide_eq_true (h.lt F)]
        · have := h.lt F
          rw [hdn j h, decide_eq_false (by omega)]
    generalize hE : envC (fun j => listed.getD j false) 0 dr env = eS at hat hlook
    have hat2 : At x0 N (restr (envC (fun n => decide (n < i)) 0 dr env) (o.looksAt l.toArray) ++ eS) (genM (un.getD i ([], [])) xs ys (memC (fun n => decide (n < i)) 0 us M)) a w := by
      refine Wk.memo (M0 := M0) (fun t => .inr ?_) hgen x0 a w hx hat
      have key : ∀ (ts : List Tmp), (∀ t ∈ ts, lk (envC (fun n => decide (n < i)) 0 dr env) t = lk eS t) → lk (restr (envC (fun n => decide (n < i)) 0 dr env) ts ++ eS) t = lk eS t := by
        intro ts
        induction ts with
        | nil => intro _; rfl
        | cons u ts ih2 =>
          intro hts
          show lk ((u, lk _ u) :: (restr _ ts ++ eS)) t = _
          rw [lk_cons, ih2 fun t ht => hts t (List.mem_cons_of_mem _ ht)]
          split
          · rename_i e
            rw [hts u (by simp), e]
          · rfl
      exact key _ hlook
    have hlk : ∀ t, lk (restr (envC (fun n => decide (n < i)) 0 dr env) (o.looksAt l.toArray) ++ eS) t = lk eS t := fun t => by
      have key : ∀ (ts : List Tmp), (∀ t ∈ ts, lk (envC (fun n => decide (n < i)) 0 dr env) t = lk eS t) → lk (restr (envC (fun n => decide (n < i)) 0 dr env) ts ++ eS) t = lk eS t := by
        intro ts
        induction ts with
        | nil => intro _; rfl
        | cons u ts ih2 =>
          intro hts
          show lk ((u, lk _ u) :: (restr _ ts ++ eS)) t = _
          rw [lk_cons, ih2 fun t ht => hts t (List.mem_cons_of_mem _ ht)]
          split
          · rename_i e
            rw [hts u (by simp), e]
          · rfl
      exact key _ hlook
    have hrun := hopi eS xs ys x0 a w hx hat2
    have K : ∀ a' w', wpList P l.toArray (up x0 N fun e E' M' => e = .normal ∧ E' = putd o.dst r (restr (envC (fun n => decide (n < i)) 0 dr env) (o.looksAt l.toArray) ++ eS) ∧ M' = muM mu (genM (un.getD i ([], [])) xs ys (memC (fun n => decide (n < i)) 0 us M))) [] a' w' →
        wpAny P .any l.toArray (up x0 N Q) fuel (listed.setIfInBounds i true) a' w' := fun a' w' ⟨E', M', hat', _, hE', hM'⟩ => by
      subst hE' hM'
      have gset : ∀ j, (listed.setIfInBounds i true).getD j false = if j = i then true else listed.getD j false := fun j => by
        by_cases hj : j = i
        · subst hj
          rw [if_pos rfl]
          simp [Array.getD_eq_getD_getElem?, hs, hil]
        · rw [if_neg hj, Array.getD_eq_getD_getElem?, Array.getElem?_setIfInBounds_ne (Ne.symm hj), ← Array.getD_eq_getD_getElem?]
      refine ih _ a' w' ?_ (by simpa using hs) (fun j p hp hj k hk => ?_) (Wk.memo (M0 := M0) (fun t => .inr ?_) (fun b => ?_) x0 a' w' hx hat')
      · have := unl_lt hil h2
        omega
      · rw [gset] at hj ⊢
        by_cases hji : j = i
        · subst hji
          rw [ho] at hp
          obtain rfl := Option.some.inj hp
          rw [hons k hk]
          simp
        · rw [if_neg hji] at hj
          rw [hcl j p hp hj k hk]
          simp
      · rw [lk_putd, hlk]
        by_cases hdt : o.dst = some t
        · rw [if_pos hdt]
          rw [hdt] at hdr
          refine envC_last dr 0 i env hdr (by simp only [Nat.zero_add]; rw [gset, if_pos rfl]) fun j r' hij hj => ?_
          simp only [Nat.zero_add]
          rw [gset, if_neg (by omega)]
          have hjl : j < l.length := by rw [← hd]; exact (List.getElem?_eq_some_iff.1 hj).1
          obtain ⟨r2, _, hj2, _⟩ := hop j _ (List.getElem?_eq_getElem hjl)
          rw [hj] at hj2
          have hdst : l[j].dst = some t := by
            injection hj2 with hj2
            injection hj2 with hj2 _
            exact hj2.symm
          rcases F.ord i j o _ t ho (List.getElem?_eq_getElem hjl) hdt hdst (by omega) with h | h
          · have := h.lt F; omega
          · exact hdn j h
        · rw [if_neg hdt, ← hE]
          refine envC_congr dr 0 env env (fun j r' hj => ?_) rfl
          simp only [Nat.zero_add]
          rw [gset, if_neg fun e => ?_]
          subst e
          rw [hdr] at hj
          injection hj with hj
          injection hj with hj _
          exact hdt hj
      · by_cases hb : ∃ k, mu = some (b, k)
        · obtain ⟨k, rfl⟩ := hb
          rw [memC_last us 0 i M hus (by simp only [Nat.zero_add]; rw [gset, if_pos rfl]) fun j k' hij hj => ?_]
          · show some k = mget ((b, some k) :: _) b
            rw [mget_cons, if_pos rfl]
          · simp only [Nat.zero_add]
            rw [gset, if_neg (by omega)]
            obtain ⟨f, hw, _⟩ := hu.at hj
            obtain ⟨f', hw', _⟩ := hu.at hus
            rcases F.mem i j b f hil (by rw [← hlen]; exact (List.getElem?_eq_some_iff.1 hj).1) hw (by omega) with h | h | ⟨h, _⟩
            · have := h.lt F; omega
            · exact hdn j h
            · exact absurd hw' (h f')
        · rw [muM_far hb, hgen]
          refine memC_congr us 0 M M (fun j k hj => ?_) rfl
          simp only [Nat.zero_add]
          rw [gset, if_neg fun e => ?_]
          subst e
          rw [hus] at hj
          injection hj with hj
          exact hb ⟨k, hj⟩
    unfold wpOp
    simp only [ho']
    unfold wpList at hrun
    split
    · rename_i hw
      rw [if_pos hw] at hrun
      exact hrun.imp (wp_exits K fun e a w hne ⟨_, _, _, he, _⟩ => absurd he hne) fun ⟨_, _, _, _, _, _, he, _⟩ => by cases he
    · rename_i hw
      rw [if_neg hw] at hrun
      exact K _ _ hrun

/-- A statement whose order is open, walked once in the text's order. -/
theorem DCode.conf {id : Nat} (ws : List (Nat × Nat × Nat)) (un : List (List Nat × List Nat)) (hm : P.follows .mixedOrders = true) (hok : confOk l ws un = true) (h : DCf P N M0 l Q ws un 0 l env M) : DCode P N M0 (.region id l.toArray true) Q env M := by
  intro x0 a w hx hat
  have F := confOk_facts hok
  obtain ⟨dr, us, hd, hlen, hop, hend⟩ := DCf.split l 0 env M h
  refine wp_region_any hm ?_
  have hz : ∀ j : Nat, (Array.replicate l.toArray.size false).getD j false = false := fun j => by
    rw [Array.getD_eq_getD_getElem?, Array.getElem?_replicate]
    split <;> rfl
  have hu : UsOk ws us M := fun j mu hj => by
    have hjl : j < l.length := by rw [← hlen]; exact (List.getElem?_eq_some_iff.1 hj).1
    obtain ⟨r, mu', _, h2, h3, _⟩ := hop j _ (List.getElem?_eq_getElem hjl)
    rw [hj] at h2
    obtain rfl := Option.some.inj h2
    rw [Nat.zero_add] at h3
    exact h3
  refine wpAny_conf F hd hlen hu (fun j o ho => ?_) hend hx _ _ a _ ?_ (by simp) (fun i o _ hi => ?_) ?_
  · obtain ⟨r, mu, h1, h2, _, h4⟩ := hop j o ho
    rw [Nat.zero_add] at h4
    exact ⟨r, mu, h1, h2, h4⟩
  · refine Nat.le_trans (List.countP_le_length) ?_
    simp
  · rw [hz] at hi; cases hi
  · refine Wk.memo (M0 := M0) (fun t => .inr ?_) (fun b => ?_) x0 a _ hx hat.drew
    · rw [envC_congr (S' := fun _ => false) dr 0 env env (fun i r _ => by simp only [hz]) rfl]
      have : ∀ (l : List (Option Tmp × SV)) (j : Nat) (e : Env), envC (fun _ => false) j l e = e := fun l => by
        induction l with
        | nil => intro _ _; rfl
        | cons p l ih => intro j e; rw [envC]; exact ih _ _
      rw [this]
    · rw [memC_congr (S' := fun _ => false) us 0 M M (fun i r _ => by simp only [hz]) rfl, memC_none]
end
end Go.Proofs.YtpgkbnefhhcfcaaGreatDoor.DL
set_option linter.unusedVariables false
set_option linter.unusedSimpArgs false
set_option linter.constructorNameAsVariable false
namespace Go.Proofs.YtpgkbnefhhcfcaaGreatDoor.DL
open Go.RowKit

/-- An operation's kind. -/
def opK : Op → Nat
  | .move _ => 0
  | .assign _ => 1
  | .pick .. => 2
  | .load .. => 3
  | .binOp .add .. => 10
  | .binOp .sub .. => 11
  | .binOp .eql .. => 12
  | .binOp .neq .. => 13
  | .binOp .lss .. => 14
  | .binOp .leq .. => 14
  | .binOp .gtr .. => 14
  | .binOp .geq .. => 14
  | .binOp .. => 15
  | .unOp .. => 16
  | .call .. => 17
  | .fieldAddr .. => 18
  | .indexAddr .. => 19
  | .field .. => 20
  | .index .. => 21
  | .slice .. => 22
  | .extract .. => 23
  | .nilCheck .. => 24
  | .build .. => 25
  | .convert .. => 26
  | .makeFunc .. => 27
  | .buildSlice .. => 28
  | .alloc .. => 29
  | .box .. => 30
  | .store .. => 31
  | .makeInterface .. => 32
  | .makeSlice .. => 33
  | _ => 99

/-- Slots told one by one, but for some of them. -/
def KSub (ds : List Nat) : Env → Env → Prop
  | [], _ => True
  | (d, x) :: r, env => (ds.contains d = true ∨ lk env d = x) ∧ KSub ds r env
theorem KSub.nil {ds : List Nat} {env : Env} : KSub ds [] env := trivial
theorem KSub.skip {ds : List Nat} {d : Nat} {x : SV} {r env : Env} (hd : ds.contains d = true) (h : KSub ds r env) : KSub ds ((d, x) :: r) env := ⟨.inl hd, h⟩
theorem KSub.cons {ds : List Nat} {d : Nat} {x : SV} {r env : Env} (hx : lk env d = x) (h : KSub ds r env) : KSub ds ((d, x) :: r) env := ⟨.inr hx, h⟩
theorem KSub.get {ds : List Nat} {env : Env} {i : Nat} (hi : ds.contains i = false) : ∀ {K : Env}, KSub ds K env → lk K i = .junk ∨ lk K i = lk env i
  | [], _ => .inl rfl
  | (d, x) :: r, h => by
    rw [lk_cons]
    by_cases hd : d = i
    · subst hd
      rw [if_pos rfl]
      rcases h.1 with h1 | h1
      · rw [hi] at h1; cases h1
      · exact .inr h1.symm
    · rw [if_neg hd]
      exact KSub.get hi h.2
section
variable {P : Program} {N : Nat} {ops : Array Oper} {Q : DPost} {env : Env} {M M0 : Mem} {o : Oper} {rest : List Oper}
theorem DOps.valK (n : Nat) {d : Nat} (_ : opK o.op = n) (hg : gd ops env o = some true) (hd : o.dst = some d) (hN : Nat.blt d N = true) (h : ∃ r, OpVal P N env M o r ∧ DOps P N M0 ops Q rest ((d, r) :: env) M) : DOps P N M0 ops Q (o :: rest) env M :=
  let ⟨_, h1, h2⟩ := h
  DOps.val hg hd hN h1 h2
theorem DOps.k (n : Nat) (_ : opK o.op = n) (h : DOps P N M0 ops Q (o :: rest) env M) : DOps P N M0 ops Q (o :: rest) env M := h

variable {l : List Oper} {ws : List (Nat × Nat × Nat)} {un : List (List Nat × List Nat)} {i : Nat}
theorem DCf.k (n : Nat) (_ : opK o.op = n) (h : DCf P N M0 l Q ws un i (o :: rest) env M) : DCf P N M0 l Q ws un i (o :: rest) env M := h
theorem DCf.valK (n : Nat) {d : Nat} (_ : opK o.op = n) (hw : wsAt ws i = none) (hg : ∀ E, gd l.toArray (restr env (o.looksAt l.toArray) ++ E) o = some true) (hd : o.dst = some d) (hN : Nat.blt d N = true)
    (h : ∃ r, (∀ E xs ys, OpVal P N (restr env (o.looksAt l.toArray) ++ E) (genM (un.getD i ([], [])) xs ys M) o r) ∧ DCf P N M0 l Q ws un (i + 1) rest ((d, r) :: env) M) : DCf P N M0 l Q ws un i (o :: rest) env M :=
  let ⟨_, h1, h2⟩ := h
  DCf.pure hd hw (fun E xs ys => DOps.val (hg E) hd hN (h1 E xs ys) (DOps.nil ⟨rfl, rfl, rfl⟩)) h2
theorem DCf.new {d : Nat} {r : SV} (hw : wsAt ws i = none) (hg : ∀ E, gd l.toArray (restr env (o.looksAt l.toArray) ++ E) o = some true) (hd : o.dst = some d) (hN : Nat.blt d N = true)
    (hv : ∀ E xs ys, OpNew P N (restr env (o.looksAt l.toArray) ++ E) (genM (un.getD i ([], [])) xs ys M) o r) (h : DCf P N M0 l Q ws un (i + 1) rest ((d, r) :: env) M) : DCf P N M0 l Q ws un i (o :: rest) env M :=
  DCf.pure hd hw (fun E xs ys => DOps.new (hg E) hd hN (hv E xs ys) (DOps.nil ⟨rfl, rfl, rfl⟩)) h
theorem DCf.off {d : Nat} (hw : wsAt ws i = none) (hg : ∀ E, gd l.toArray (restr env (o.looksAt l.toArray) ++ E) o = some false) (hd : o.dst = some d) (hN : Nat.blt d N = true) (h : DCf P N M0 l Q ws un (i + 1) rest ((d, .tup []) :: env) M) :
    DCf P N M0 l Q ws un i (o :: rest) env M :=
  DCf.pure hd hw (fun E _ _ => DOps.off (hg E) hd hN (DOps.nil ⟨rfl, rfl, rfl⟩)) h
theorem DCf.call {d : Nat} {cl : Call} {f : FuncId} {fn : Func} {c : Code} {ts rs : List TV} (hw : wsAt ws i = none) (hg : ∀ E, gd l.toArray (restr env (o.looksAt l.toArray) ++ E) o = some true) (hd : o.dst = some d) (hN : Nat.blt d N = true) (ho : o.op = .call cl) (hcl : cl.callee = .value (.func f))
    (hf : P.funcs[f]? = some fn) (hb : fn.body = some c) (hn : (fn.name == "runtime.NumGoroutine") = false) (hx : ∀ E, opvs (restr env (o.looksAt l.toArray) ++ E) cl.args.toList = some ts) (hp : ∀ t ∈ ts, t.pure) (hc : DCalls P f ts (fun us => us = rs))
    (h : DCf P N M0 l Q ws un (i + 1) rest ((d, ret1 rs) :: env) M) : DCf P N M0 l Q ws un i (o :: rest) env M :=
  DCf.pure hd hw (fun E _ _ => DOps.call1 (hg E) hd hN ho hcl hf hb hn (hx E) hp hc (DOps.nil ⟨rfl, rfl, rfl⟩)) h
theorem DCf.alS {T : TypeId → Option TyI} (hT : TOk P T) {t s0 b0 d : Nat} {z0 : Value} {d0 : TypeDesc} (hw : wsAt ws i = some (d, 1)) (hg : ∀ E, gd l.toArray (restr env (o.looksAt l.toArray) ++ E) o = some true) (hd : o.dst = some d) (hN : Nat.blt d N = true) (ho : o.op = .alloc t) (ht : T t = some ⟨d0, s0, b0, z0⟩)
    (hz1 : z0.cells.toList.all (·.oneCell') = true) (hb : mget M d = none) (hb' : ∀ xs ys, mget (genM (un.getD i ([], [])) xs ys M) d = none) (h : DCf P N M0 l Q ws un (i + 1) rest ((d, .v (.one (.ptr d 0))) :: env) ((d, some (.box t (dvs z0))) :: M)) : DCf P N M0 l Q ws un i (o :: rest) env M :=
  DCf.make hd hw hb (fun E xs ys => DOps.alS hT (hg E) hd hN ho ht hz1 (hb' xs ys) (DOps.nil ⟨rfl, rfl, rfl⟩)) h
theorem DCf.boxS {T : TypeId} {x : Operand} {t : TV} {d : Nat} (hw : wsAt ws i = some (d, 1)) (hg : ∀ E, gd l.toArray (restr env (o.looksAt l.toArray) ++ E) o = some true) (hd : o.dst = some d) (hN : Nat.blt d N = true) (ho : o.op = .box T x) (hx : ∀ E, opv (restr env (o.looksAt l.toArray) ++ E) x = .v t)
    (hb : mget M d = none) (hb' : ∀ xs ys, mget (genM (un.getD i ([], [])) xs ys M) d = none) (h : DCf P N M0 l Q ws un (i + 1) rest ((d, .v (.one (.ptr d 0))) :: env) ((d, some (.box T t.cells)) :: M)) : DCf P N M0 l Q ws un i (o :: rest) env M :=
  DCf.make hd hw hb (fun E xs ys => DOps.boxS (hg E) hd hN ho (hx E) (hb' xs ys) (DOps.nil ⟨rfl, rfl, rfl⟩)) h
theorem DCf.store {T : TypeId → Option TyI} (hT : TOk P T) {t : TypeId} {j : TyI} {x y : Operand} {b k : Nat} {tb : TypeId} {cs cs' : List CV} {tv : TV} (hd : o.dst = none) (ho : o.op = .store t x y) (hg : ∀ E, gd l.toArray (restr env (o.looksAt l.toArray) ++ E) o = some true) 
    (ht : T t = some j) (hx : ∀ E, opv (restr env (o.looksAt l.toArray) ++ E) x = .v (.one (.ptr b k))) (hy : ∀ E, opv (restr env (o.looksAt l.toArray) ++ E) y = .v tv) (hw : wsAt ws i = some (b, 0)) (hm : mget M b = some (.box tb cs)) (hm' : ∀ xs ys, mget (genM (un.getD i ([], [])) xs ys M) b = some (.box tb cs))
    (hs : tv.cells.length = j.size) (hk : k + tv.cells.length ≤ cs.length) (hc : DL.splice cs k tv.cells = cs') (h : DCf P N M0 l Q ws un (i + 1) rest env ((b, some (.box tb cs')) :: M)) : DCf P N M0 l Q ws un i (o :: rest) env M :=
  DCf.upd hd hw hm (fun E xs ys => DOps.store hT (hg E) hd ho ht (hx E) (hy E) (hm' xs ys) hs hk hc (DOps.nil ⟨rfl, rfl, rfl⟩)) rfl h
end
end Go.Proofs.YtpgkbnefhhcfcaaGreatDoor.DL
set_option linter.unusedVariables false
set_option linter.unusedSimpArgs false
set_option linter.constructorNameAsVariable false
namespace Go.Proofs.YtpgkbnefhhcfcaaGreatDoor.DL
open Go.RowKit

section
variable {P : Program} {N : Nat} {ops : Array Oper} {Q : DPost} {env : Env} {M M0 : Mem} {γ : Cn} {Pr : Prot} {x0 : Ctx} {w : World} {a : Act} {o : Oper} {rest : List Oper}

/-- A function that was handed one block ends, whatever has become of it. -/
theorem endQM.one {T : TypeId → Option TyI} {ex : Exit} (he : ex = .normal ∨ ex = .ret) {b e k n : Nat} {v : Value} {cs : List CV} {fz : Bool} {k0 : Blk} {rs rs' : List ResultVar} {ts : List TV} (hrs : rs = rs') (h : ResTs T env M rs' ts) (hp : ∀ t ∈ ts, t.pure) (hM : mget M b = some (.row e k n v cs fz)) (hpc : ∀ c ∈ cs, c.pure) :
    endQM T rs [(b, some k0)] (fun ts' _ => ts' = ts) ex env M := by
  subst hrs
  have g : mget [(b, some (Blk.row e k n v cs fz))] b = some (.row e k n v cs fz) := by rw [mget_cons, if_pos rfl]
  have : ∃ us M', ResTs T env M rs us ∧ (∀ y, mget M' y = none ∨ mget M' y = mget M y) ∧ (∀ y, has [(b, some k0)] y ↔ has M' y) ∧ (∀ y k, mget M' y = some k → k.ok M') ∧ (∀ t ∈ us, t.ok M') ∧ us = ts := by
    refine ⟨ts, [(b, some (.row e k n v cs fz))], h, fun y => ?_, fun y => ?_, fun y l hk => ?_, fun t ht => TV.pure_ok (hp t ht), rfl⟩
    · by_cases e : b = y
      · subst e; rw [g, hM]; exact .inr rfl
      · rw [mget_cons, if_neg e]; exact .inl rfl
    · unfold has
      rw [mget_cons, mget_cons]
      split <;> simp
    · obtain ⟨_, hk'⟩ := mget_one hk
      obtain rfl := Option.some.inj hk'
      exact fun c hc => CV.pure_ok (hpc c hc)
  rcases he with rfl | rfl
  · exact this
  · exact this

end
end Go.Proofs.YtpgkbnefhhcfcaaGreatDoor.DL
set_option linter.unusedVariables false
set_option linter.unusedSimpArgs false
set_option linter.constructorNameAsVariable false
namespace Go.Proofs.YtpgkbnefhhcfcaaGreatDoor.DL
open Go.RowKit

section
variable {P : Program} {N : Nat} {ops : Array Oper} {Q : DPost} {env : Env} {M M0 : Mem} {γ : Cn} {Pr : Prot} {x0 : Ctx} {w : World} {a : Act} {o : Oper} {rest : List Oper}

/-- A call of a function without a body that hands back what it is handed. -/
theorem OpVal.same {t : TV} {cl : Call} {x : Operand} {f : FuncId} {fn : Func} (ho : o.op = .call cl) (hcl : cl.callee = .value (.func f)) (ha : cl.args = #[x]) (hf : P.funcs[f]? = some fn) (hname : (fn.name == "runtime.NumGoroutine") = false) (hb : fn.body.isNone = true)
    (hn : Extern.findNext fn = none) (he : Extern.find fn = some Extern.AbiNoEscape.same) (hx : opv env x = .v t) : OpVal P N env M o (.v t) := fun γ Pr x0 a w h => by
  have h1 := h.opv x
  have hb1 := opv_ok h.slotB x
  rw [hx] at h1 hb1
  refine ⟨hb1, a.eval x, ?_, h1⟩
  have := run_callFunc_extern (P := P) hf hname hb hn he #[a.eval x] w
  rw [Lib.run_noEscape] at this
  simp only [execOp, ho, resolve, hcl, ha]
  simp [Deferred.ofValue, invoke, show a.eval (.func f) = Value.func (.func f) #[] #[] from rfl, this]
/-- Bytes, as a row's cells. -/
abbrev bc (l : List UInt8) : List CV := l.map fun b => .d (.sc (.int .u8 b.toNat))
end
end Go.Proofs.YtpgkbnefhhcfcaaGreatDoor.DL
set_option linter.unusedVariables false
set_option linter.unusedSimpArgs false
set_option linter.constructorNameAsVariable false
namespace Go.Proofs.YtpgkbnefhhcfcaaGreatDoor.DL
open Go.RowKit

section
variable {P : Program} {N : Nat} {ops : Array Oper} {Q : DPost} {env : Env} {M M0 : Mem} {γ : Cn} {Pr : Prot} {x0 : Ctx} {w : World} {a : Act} {o : Oper} {rest : List Oper}

theorem endQM.boxK {T : TypeId → Option TyI} {e : Exit} (he : e = .normal ∨ e = .ret) {b : Nat} {t : TypeId} {cs cs' : List CV} {rs rs' : List ResultVar} {ts : List TV} (hrs : rs = rs') (h : ResTs T env M rs' ts) (hp : ∀ t ∈ ts, t.pure) (hM : mget M b = some (.box t cs')) (hpc : ∀ c ∈ cs', c.ok [(b, some (.box t cs'))]) :
    endQM T rs [(b, some (.box t cs))] (fun ts' M' => ts' = ts ∧ mget M' b = some (.box t cs')) e env M := by
  subst hrs
  have g : mget [(b, some (Blk.box t cs'))] b = some (.box t cs') := by rw [mget_cons, if_pos rfl]
  have : ∃ us M', ResTs T env M rs us ∧ (∀ y, mget M' y = none ∨ mget M' y = mget M y) ∧ (∀ y, has [(b, some (Blk.box t cs))] y ↔ has M' y) ∧ (∀ y k, mget M' y = some k → k.ok M') ∧ (∀ t ∈ us, t.ok M') ∧ (us = ts ∧ mget M' b = some (.box t cs')) := by
    refine ⟨ts, [(b, some (.box t cs'))], h, fun y => ?_, fun y => ?_, fun y k hk => ?_, fun t ht => TV.pure_ok (hp t ht), rfl, g⟩
    · by_cases e : b = y
      · subst e; rw [g, hM]; exact .inr rfl
      · rw [mget_cons, if_neg e]; exact .inl rfl
    · unfold has
      rw [mget_cons, mget_cons]
      split <;> simp
    · obtain ⟨_, hk'⟩ := mget_one hk
      obtain rfl := Option.some.inj hk'
      exact fun c hc => hpc c hc
  rcases he with rfl | rfl
  · exact this
  · exact this

/-- Two blocks. -/
theorem mget_two {b r : Nat} {x z : Option Blk} {y : Nat} {k : Blk} (h : mget [(b, x), (r, z)] y = some k) : (y = b ∧ x = some k) ∨ (y ≠ b ∧ y = r ∧ z = some k) := by
  rw [mget_cons] at h
  split at h
  · rename_i e; exact .inl ⟨e.symm, h⟩
  · rename_i e
    obtain ⟨h1, h2⟩ := mget_one h
    exact .inr ⟨fun e2 => e e2.symm, h1, h2⟩
theorem endQM.two {T : TypeId → Option TyI} {e : Exit} (he : e = .normal ∨ e = .ret) {b r : Nat} {k1 k2 k1' k2' : Blk} {rs rs' : List ResultVar} {ts : List TV} {R : List TV → Mem → Prop} (hrs : rs = rs') (h : ResTs T env M rs' ts) (hp : ∀ t ∈ ts, t.pure) (hM1 : mget M b = some k1') (hM2 : mget M r = some k2')
    (ho1 : k1'.ok [(b, some k1'), (r, some k2')]) (ho2 : k2'.ok [(b, some k1'), (r, some k2')]) (hR : R ts [(b, some k1'), (r, some k2')]) : endQM T rs [(b, some k1), (r, some k2)] R e env M := by
  subst hrs
  have : ∃ us M', ResTs T env M rs us ∧ (∀ y, mget M' y = none ∨ mget M' y = mget M y) ∧ (∀ y, has [(b, some k1), (r, some k2)] y ↔ has M' y) ∧ (∀ y k, mget M' y = some k → k.ok M') ∧ (∀ t ∈ us, t.ok M') ∧ R us M' := by
    refine ⟨ts, [(b, some k1'), (r, some k2')], h, fun y => ?_, fun y => ?_, fun y k hk => ?_, fun t ht => TV.pure_ok (hp t ht), hR⟩
    · rw [mget_cons, mget_cons]
      by_cases e : b = y
      · subst e; rw [if_pos rfl, hM1]; exact .inr rfl
      · rw [if_neg e]
        by_cases e2 : r = y
        · subst e2; rw [if_pos rfl, hM2]; exact .inr rfl
        · rw [if_neg e2]; exact .inl rfl
    · unfold has
      rw [mget_cons, mget_cons, mget_cons, mget_cons]
      split
      · simp
      · split <;> simp
    · rcases mget_two hk with ⟨_, hk'⟩ | ⟨_, _, hk'⟩
      · obtain rfl := Option.some.inj hk'; exact ho1
      · obtain rfl := Option.some.inj hk'; exact ho2
  rcases he with rfl | rfl
  · exact this
  · exact this
end
end Go.Proofs.YtpgkbnefhhcfcaaGreatDoor.DL
set_option linter.unusedVariables false
set_option linter.unusedSimpArgs false
set_option linter.constructorNameAsVariable false
namespace Go.Proofs.YtpgkbnefhhcfcaaGreatDoor.DL
open Go.RowKit

section
variable {P : Program} {N : Nat} {γ γ' : Cn} {Pr Pr' : Prot} {x0 : Ctx} {env : Env} {M M0 : Mem} {a : Act} {w w' : World} {o : Oper} {ops : Array Oper} {rest : List Oper} {Q : DPost}

theorem run_append_own3 (t ty e : TypeId) (i : TypeInfo) (z : Value) (size bytes : Nat) (ht : P.underlying t = some (.slice e)) (hi : P.info? e = some i) (hz : i.zero = some z)
    (hsize : i.size = size) (hby : i.bytes = bytes) (hzs : z.cells.size = size) (hsz : 0 < size)
    (v : Value) (n : Nat) (xs : List Value) (hown : w.ownsRow 0 e size v n xs)
    (ad : Addr) (m c : Nat) (news : List Value) (hl : news.length = m * size) (hnews : ∀ j u, news[j]? = some u → w.cell? (ad.add j) = some u) (h1 : ∀ u ∈ news, u.oneCell' = true)
    (hm : 0 < m) (h63 : n + m ≤ maxLen) (hbytes : (n + m) * bytes ≤ 140737488355328) :
    ∃ v' w', (Builtin.append_ #[t, t] ty #[v, .slice (some ad) m c]).run P w = .ok v' w' ∧ w'.ownsRow 0 e size v' (n + m) (xs ++ news) ∧
      ((v'.ownBlock = v.ownBlock ∧ w.grownBy w' v.ownBlock) ∨ ((∃ g, v'.ownBlock = some g ∧ w.heap.size ≤ g) ∧ w.grownBy w' none)) := by
  rcases hown.2 with ⟨rfl, rfl⟩ | ⟨g, cap, cur, rfl, hbg, hg, hnc, hcm, hcs, htake⟩
  · obtain ⟨v', w', hr, h2, h3, _, h5⟩ := run_append_own_at (P := P) w 0 t ty e i z size bytes ht hi hz hsize hby hzs hsz _ _ xs hown ad m c news hl hnews h1 h63 hbytes (Nat.zero_le _)
    refine ⟨v', w', hr, h2, ?_⟩
    rcases h5 with h5 | h5
    · exact .inl ⟨h5, h3⟩
    · exact .inr ⟨⟨_, h5, Nat.le_refl _⟩, h3⟩
  · by_cases hf : n + m ≤ cap
    · obtain ⟨w', hrun, r1, r2⟩ := run_append_fits (P := P) w 0 t ty e i size ht hi hsize g n cap xs hown ad m c news hl hnews h1 hf
      exact ⟨_, w', hrun, r1, .inl ⟨rfl, r2⟩⟩
    · obtain ⟨v', w', hrun, r1, r2⟩ := run_append_arg_grows (P := P) w t ty e i z size bytes ht hi hz hsize hby hzs hsz ⟨g, 0, none⟩ n cap xs hown.1 (fun j u hj => by
          have := row_cell hown (g := g) rfl hj
          rw [Go.WideShapes.add_plain, Nat.zero_add]; exact this) ad m c news hl hnews (by omega) h63 hbytes
      refine ⟨v', w', hrun, ?_, .inr ⟨?_, r2⟩⟩
      · rcases r1.2 with h | ⟨g', cap', cur', e1, e2, e3⟩
        · exact ⟨r1.1, .inl h⟩
        · exact ⟨r1.1, .inr ⟨g', cap', cur', e1, Nat.zero_le _, e3⟩⟩
      · rcases r1.2 with ⟨_, h⟩ | ⟨g', cap', cur', e1, e2, e3⟩
        · omega
        · exact ⟨g', by rw [e1]; rfl, e2⟩

/-- append, onto a row of one's own, frozen or not. -/
theorem DOps.appendF {T : TypeId → Option TyI} (hT : TOk P T) {t e : TypeId} {i j : TyI} {s x : Operand} {b k n m n' d : Nat} {v : Value} {fz : Bool} {cs cs' : List CV} (ds : List DV) {el : Nat → Nat → DV} (hg : gd ops env o = some true) (hd : o.dst = some d) (hN : Nat.blt d N = true)
    (ho : o.op = .call { callee := .builtin .append, args := #[s, x], argTypes := #[t, t] }) (ht : T t = some i) (hde : i.desc = .slice e) (hj : T e = some j) (hk : j.size = k) (hk0 : Nat.blt 0 k = true) (hzs : j.zero.cells.size = k)
    (hs : opv env s = .v (.one (.row b v))) (hm : mget M b = some (.row e k n v cs fz)) (hx : opv env x = .v (.one (.d (.sl m k el)))) (hm0 : 0 < m) (hmax : (n + m) * j.bytes ≤ 140737488355328) (h63 : n + m ≤ maxLen)
    (hl : ds.length = m * k) (hel : ∀ p, p < m → ∀ q, q < k → ds[p * k + q]? = some (el p q))
    (hn' : n + m = n') (hcs' : cs ++ ds.map .d = cs') (h : ∀ v', DOps P N M0 ops Q rest ((d, .v (.one (.row b v'))) :: env) ((b, some (.row e k n' v' cs' fz)) :: M)) : DOps P N M0 ops Q (o :: rest) env M := by
  subst hn' hcs'
  intro x0 a w hx0 ⟨γ, Pr, hr, hf⟩
  have hw := gd_wanted (ops := ops) hr hg
  unfold wpList
  rw [if_pos hw]
  refine .inl ?_
  have h1 := hr.opv s; have h2 := hr.opv x
  rw [hs] at h1; rw [hx] at h2
  obtain ⟨vs, hown, hl1, hg1⟩ := hr.mem b _ hm
  obtain ⟨bb, oo, c, news, hv2, hnl, hnr, hnc⟩ := sl_cells (γ := γ) h2 hm0 hl hel
  obtain ⟨hu, info, hi1, hi2, hi3, hi4⟩ := hT _ _ ht
  obtain ⟨_, info', hj1, hj2, hj3, hj4⟩ := hT _ _ hj
  rw [hde] at hu
  have h1e : a.eval s = v := h1.1
  have hk0 : 0 < k := by simpa using hk0
  obtain ⟨v', w', hrun, hown', hat⟩ := run_append_own3 (P := P) (w := w) t o.type e info' j.zero k j.bytes hu hj1 hj4 (by rw [hj2, hk]) hj3 hzs hk0 v n vs hown ⟨bb, oo, none⟩ m c news hnl hnc hnr.one hm0 h63 hmax
  have hgrow : w.grownBy w' v.ownBlock := by
    rcases hat with h | ⟨_, h⟩
    · exact h.2
    · exact ⟨h.os, h.tape, h.output, h.size, fun q hq _ => h.block q hq (by simp)⟩
  have K : Kept Pr w Pr w' := ⟨fun _ _ x => x, fun g o hp => by
    by_cases he : some g = v.ownBlock
    · rcases hat with ⟨e1, _⟩ | ⟨_, h⟩
      · have ho : o < n * k := Nat.lt_of_not_le fun hle => (hg1 g he.symm).2.1 o hle hp
        have hov : o < vs.length := by rw [hown.1]; exact ho
        have hu : vs[o]? = some vs[o] := List.getElem?_eq_getElem hov
        have a1 := row_cell hown he.symm hu
        have a2 := row_cell hown' (e1.trans he.symm) (i := o) (u := vs[o]) (by rw [List.getElem?_append_left hov]; exact hu)
        rw [a1, a2]
      · exact heap_cell (h.block g (hr.prot g o hp) (by simp)) o
    · exact heap_cell (hgrow.block g (hr.prot g o hp) he) o⟩
  have hsim : Sim x0 w' := ⟨hgrow.os.trans hr.below.os, hgrow.tape.trans hr.below.tape, hgrow.output.trans hr.below.output, Nat.le_trans hr.below.size hgrow.size, fun q hq =>
    (hgrow.block q (Nat.lt_of_lt_of_le (may_lt hq) hr.below.size) (fun e => hq (hg1 q e.symm).1)).trans (hr.below.block q hq)⟩
  have G := Cn.agree_refl M γ
  have hrow : BRep γ Pr w' x0 b (.row e k (n + m) v' (cs ++ ds.map .d) fz) := by
    refine ⟨vs ++ news, hown', ?_, fun g hgg => ?_⟩
    · have l1 := LRep.move (M := M) G K (hr.memB b _ hm) hl1
      have l2 := LRep.move (M := M) G K (fun c hc => by obtain ⟨d, _, rfl⟩ := List.mem_map.1 hc; trivial) hnr
      refine ⟨by simp [l1.1, l2.1], fun q c hc => ?_⟩
      by_cases hq : q < cs.length
      · rw [List.getElem?_append_left hq] at hc
        obtain ⟨u, hu, hr⟩ := l1.2 q c hc
        exact ⟨u, by rw [List.getElem?_append_left (by rw [l1.1]; exact hq)]; exact hu, hr⟩
      · rw [List.getElem?_append_right (by omega)] at hc
        obtain ⟨u, hu, hr⟩ := l2.2 _ c hc
        exact ⟨u, by rw [List.getElem?_append_right (by rw [l1.1]; omega), l1.1]; exact hu, hr⟩
    · rcases hat with ⟨e, _⟩ | ⟨⟨g', e, hg'⟩, _⟩
      · rw [e] at hgg
        obtain ⟨a1, a2, a3⟩ := hg1 g hgg
        exact ⟨a1, fun o ho => a2 o (Nat.le_trans (Nat.mul_le_mul_right _ (Nat.le_add_right _ _)) ho), a3⟩
      · rw [e] at hgg
        obtain rfl := Option.some.inj hgg
        have np : ∀ o, ¬ Pr g' o := fun o hp => absurd (hr.prot _ o hp) (Nat.not_lt_of_le hg')
        exact ⟨.inl (Nat.le_trans hr.below.size hg'), fun o _ => np o, fun _ => np⟩
  have hok : (Blk.row e k (n + m) v' (cs ++ ds.map .d) fz).ok M := fun c hc => by
    rcases List.mem_append.1 hc with hc | hc
    · exact hr.memB b _ hm c hc
    · obtain ⟨d, _, rfl⟩ := List.mem_map.1 hc
      trivial
  have hrel := hr.setB hsim hgrow.size K hrow hok fun x l g hxb hmx hbx => by
    have hne : some g ≠ v.ownBlock := fun e => hr.apart b x _ l hm hmx (Ne.symm hxb) g e.symm hbx
    have hlt := ((hr.mem x l hmx).lt g hbx).2
    refine ⟨hgrow.block g hlt hne, ?_⟩
    show v'.ownBlock ≠ some g
    rcases hat with ⟨e, _⟩ | ⟨⟨g', e, hg'⟩, _⟩
    · rw [e]; exact Ne.symm hne
    · rw [e]; intro e2; exact absurd hlt (by have := Option.some.inj e2; omega)
  have hst : ({ callee := .builtin .append, args := #[s, x], argTypes := #[t, t] } : Call).args = #[s, x] := rfl
  unfold Oper.wp execOp
  simp only [ho, resolve, invoke, builtin, Sem.run_bind, Sem.run_pure, Result.andThen_ok, List.map_toArray, List.map_cons, List.map_nil, h1e, hv2, hrun, Oper.upon_value]
  have hone : v'.oneCell' = true := by
    rcases hown'.2 with ⟨e, _⟩ | ⟨g, cap, cur, e, _⟩ <;> rw [e] <;> rfl
  have hdd := dstOk_of hd hN
  have he : putd o.dst (.v (.one (.row b v'))) env = (d, .v (.one (.row b v'))) :: env := by rw [hd]; rfl
  refine h v' x0 _ w' hx0 ⟨γ, Pr, ?_, hf.setB K b _⟩
  rw [← he]
  exact hrel.put (dstOk_spec hdd) ⟨rfl, hone⟩ trivial

end
end Go.Proofs.YtpgkbnefhhcfcaaGreatDoor.DL
set_option linter.unusedVariables false
set_option linter.unusedSimpArgs false
set_option linter.constructorNameAsVariable false
namespace Go.Proofs.YtpgkbnefhhcfcaaGreatDoor.DL
open Go.RowKit

abbrev di (n : Int) : DV := .sc (.int .i64 n)
section
variable {α : Type} {P : Program} {N : Nat} {env : Env} {M : Mem} {o : Oper} {T : TypeId → Option TyI}
def elX (dv : α → List DV) (d0 : α) (L : List α) : Nat → Nat → DV := fun i j => (dv (L.getD i d0)).getD j (di 0)
/-- A whole record, loaded. -/
theorem OpVal.ldX {dv : α → List DV} {d0 : α} {L : List α} (hT : TOk P T) {t k b0 n m : Nat} {z0 : Value} {fs : Array Field} {x : Operand} (ho : o.op = .load t x) (ht : T t = some ⟨.struct fs, k, b0, z0⟩)
    (hx : opv env x = .v (.one (.d (.pp k (elX dv d0 L n))))) (hn : n = m) (hk : (dv (L.getD m d0)).length = k) : OpVal P N env M o (.v (.agg ((dv (L.getD m d0)).map .d))) := by
  subst hn
  exact OpVal.loadDN (P := P) (N := N) (M := M) hT (dv (L.getD n d0)) ho ht rfl hx (Nat.le_refl _) hk (fun j d h => by rw [elX, List.getD_eq_getElem?_getD, h]; rfl)
theorem flat_x {dv : α → List DV} (d0 : α) {k : Nat} (hk : ∀ x, (dv x).length = k) : ∀ (L : List α) (p : Nat), p < L.length → ∀ q, q < k → (L.flatMap dv)[p * k + q]? = some (elX dv d0 L p q)
  | [], p, h, q, _ => absurd h (Nat.not_lt_zero p)
  | r :: W, 0, h, q, hq => by
    rw [List.flatMap_cons, List.getElem?_append_left (by rw [hk, Nat.zero_mul]; omega), Nat.zero_mul, Nat.zero_add]
    show (dv r)[q]? = some ((dv r).getD q (di 0))
    rw [List.getD_eq_getElem?_getD, List.getElem?_eq_getElem (by rw [hk]; exact hq)]
    rfl
  | r :: W, p + 1, h, q, hq => by
    rw [List.flatMap_cons, List.getElem?_append_right (by rw [hk, Nat.succ_mul]; omega)]
    have := flat_x d0 hk W p (by simpa using h) q hq
    rw [show (p + 1) * k + q - (dv r).length = p * k + q by rw [hk, Nat.succ_mul]; omega, this]
    rfl
theorem pure_ds (ds : List DV) : ∀ c ∈ ds.map CV.d, c.pure := fun c hc => by
  obtain ⟨d, _, rfl⟩ := List.mem_map.1 hc
  trivial
theorem EqV.str (hT : TOk P T) {t : TypeId} {s b : Nat} {z : Value} {l m : List UInt8} (ht : T t = some ⟨.string, s, b, z⟩) : EqV P 0 t (tT l) (tT m) (decide (l = m)) := fun d hd γ Pr w u v ⟨_, hu⟩ ⟨_, hv⟩ => by
  obtain ⟨d, rfl⟩ : ∃ e, d = e + 1 := ⟨d - 1, by omega⟩
  subst hu hv
  rw [run_equalIn_string (w := w) d t _ _ (hT _ _ ht).1, ba_toList, ba_toList]
  by_cases h : l = m
  · subst h; simp
  · simp [h]
end
end Go.Proofs.YtpgkbnefhhcfcaaGreatDoor.DL
set_option linter.unusedVariables false
set_option linter.unusedSimpArgs false
set_option linter.constructorNameAsVariable false
namespace Go.Proofs.YtpgkbnefhhcfcaaGreatDoor.DL
open Go.RowKit

section
variable {P : Program} {N : Nat} {ops : Array Oper} {Q : DPost} {env : Env} {M M0 : Mem} {γ : Cn} {Pr : Prot} {x0 : Ctx} {w : World} {a : Act} {o : Oper} {rest : List Oper}
end
end Go.Proofs.YtpgkbnefhhcfcaaGreatDoor.DL
set_option linter.unusedVariables false
set_option linter.unusedSimpArgs false
set_option linter.constructorNameAsVariable false
namespace Go.Proofs.YtpgkbnefhhcfcaaGreatDoor.DL
open Go.RowKit

section
variable {P : Program} {N : Nat} {ops : Array Oper} {Q : DPost} {env : Env} {M M0 : Mem} {γ : Cn} {Pr : Prot} {x0 : Ctx} {w : World} {a : Act} {o : Oper} {rest : List Oper}
end
end Go.Proofs.YtpgkbnefhhcfcaaGreatDoor.DL
set_option linter.unusedVariables false
set_option linter.unusedSimpArgs false
set_option linter.constructorNameAsVariable false
namespace Go.Proofs.YtpgkbnefhhcfcaaGreatDoor.DL
open Go.RowKit

section
variable {P : Program} {N : Nat} {ops : Array Oper} {Q : DPost} {env : Env} {M M0 : Mem} {o : Oper} {rest : List Oper}
theorem DOps.appendA {T : TypeId → Option TyI} (hT : TOk P T) {t e : TypeId} {i j : TyI} {s x : Operand} {b k n m n' d : Nat} {v : Value} {fz : Bool} {cs cs' : List CV} (ds : List DV) {el : Nat → Nat → DV} (hg : gd ops env o = some true) (hd : o.dst = some d) (hN : Nat.blt d N = true)
    (ho : o.op = .call { callee := .builtin .append, args := #[s, x], argTypes := #[t, t] }) (ht : T t = some i) (hde : i.desc = .slice e) (hj : T e = some j) (hk : j.size = k) (hk0 : Nat.blt 0 k = true) (hzs : j.zero.cells.size = k)
    (hs : opv env s = .v (.one (.row b v))) (hm : mget M b = some (.row e k n v cs fz)) (hx : opv env x = .v (.one (.d (.sl m k el)))) (hmax : (n + m) * j.bytes ≤ 140737488355328) (h63 : n + m ≤ maxLen)
    (hl : ds.length = m * k) (hel : ∀ p, p < m → ∀ q, q < k → ds[p * k + q]? = some (el p q))
    (hn' : n + m = n') (hcs' : cs ++ ds.map .d = cs') (h : ∀ v', DOps P N M0 ops Q rest ((d, .v (.one (.row b v'))) :: env) ((b, some (.row e k n' v' cs' fz)) :: M)) : DOps P N M0 ops Q (o :: rest) env M := by
  by_cases hm0 : 0 < m
  · exact DOps.appendF hT ds hg hd hN ho ht hde hj hk hk0 hzs hs hm hx hm0 hmax h63 hl hel hn' hcs' h
  · obtain rfl : m = 0 := by omega
    have h0 : ds = [] := List.eq_nil_of_length_eq_zero (by omega)
    subst h0 hn' hcs'
    refine DOps.val hg hd hN (OpVal.append0 hT ho ht hde hj hs hm hx) ?_
    refine DOps.weak (Wk.memo (fun i => .inr rfl) fun y => ?_) (h v)
    rw [mget_cons]
    by_cases e : b = y
    · subst e; simp [hm]
    · rw [if_neg e]
end
end Go.Proofs.YtpgkbnefhhcfcaaGreatDoor.DL
set_option linter.unusedVariables false
set_option linter.unusedSimpArgs false
set_option linter.constructorNameAsVariable false
namespace Go.Proofs.YtpgkbnefhhcfcaaGreatDoor.DL
open Go.RowKit

section
variable {P : Program} {N : Nat} {ops : Array Oper} {Q : DPost} {env : Env} {M M0 : Mem} {γ : Cn} {Pr : Prot} {x0 : Ctx} {w : World} {a : Act} {o : Oper} {rest : List Oper}
end
end Go.Proofs.YtpgkbnefhhcfcaaGreatDoor.DL
set_option linter.unusedVariables false
set_option linter.unusedSimpArgs false
set_option linter.constructorNameAsVariable false
namespace Go.Proofs.YtpgkbnefhhcfcaaGreatDoor.DL
open Go.RowKit

abbrev vN (n : Nat) : SV := vI .i64 (n : Int)
section
variable {P : Program} {N : Nat} {ops : Array Oper} {env : Env} {M : Mem} {o : Oper}
end
end Go.Proofs.YtpgkbnefhhcfcaaGreatDoor.DL
set_option linter.unusedVariables false
set_option linter.unusedSimpArgs false
set_option linter.constructorNameAsVariable false
namespace Go.Proofs.YtpgkbnefhhcfcaaGreatDoor.DL
open Go.RowKit
set_option linter.unusedVariables false
section
variable {P : Program} {N : Nat} {ops : Array Oper} {Q : DPost} {env : Env} {M M0 : Mem} {γ : Cn} {Pr : Prot} {x0 : Ctx} {w : World} {a : Act} {o : Oper} {rest : List Oper}
end
end Go.Proofs.YtpgkbnefhhcfcaaGreatDoor.DL
set_option linter.unusedVariables false
set_option linter.unusedSimpArgs false
set_option linter.constructorNameAsVariable false
namespace Go.Proofs.YtpgkbnefhhcfcaaGreatDoor.DL
open Go.RowKit
set_option linter.unusedVariables false
section
variable {P : Program} {N : Nat} {ops : Array Oper} {Q : DPost} {env : Env} {M M0 : Mem} {γ : Cn} {Pr : Prot} {x0 : Ctx} {w : World} {a : Act} {o : Oper} {rest : List Oper}
end
end Go.Proofs.YtpgkbnefhhcfcaaGreatDoor.DL
set_option linter.unusedVariables false
set_option linter.unusedSimpArgs false
set_option linter.constructorNameAsVariable false
namespace Go.Proofs.YtpgkbnefhhcfcaaGreatDoor.DL
open Go.RowKit
set_option linter.unusedVariables false
section
variable {P : Program} {N : Nat} {ops : Array Oper} {Q : DPost} {env : Env} {M M0 : Mem} {γ : Cn} {Pr : Prot} {x0 : Ctx} {w : World} {a : Act} {o : Oper} {rest : List Oper} {l : List Oper} {ws : List (Nat × Nat × Nat)} {un : List (List Nat × List Nat)} {i : Nat}
variable {α : Type} {dv : α → List DV}
end
end Go.Proofs.YtpgkbnefhhcfcaaGreatDoor.DL
set_option linter.unusedVariables false
set_option linter.unusedSimpArgs false
set_option linter.constructorNameAsVariable false
namespace Go.Proofs.YtpgkbnefhhcfcaaGreatDoor.DL
open Go.RowKit
set_option linter.unusedVariables false
section
variable {P : Program} {N : Nat} {ops : Array Oper} {Q : DPost} {env : Env} {M M0 : Mem} {γ : Cn} {Pr : Prot} {x0 : Ctx} {w : World} {a : Act} {o : Oper} {rest : List Oper}
def isIfaceD : TypeDesc → Bool
  | .interface _ => true
  | _ => false
/-- A value of a concrete type as one of an interface type. -/
theorem OpVal.mkIfc {T : TypeId → Option TyI} (hT : TOk P T) {t : TypeId} {i : TyI} {x : Operand} {y : DV} (ho : o.op = .makeInterface t x) (ht : T t = some i) (hn : isIfaceD i.desc = false) (hx : opv env x = .v (.one (.d y))) :
    OpVal P N env M o (.v (.one (.d (.ifc t y)))) := fun γ Pr x0 a w h => by
  have h1 := h.opv x
  rw [hx] at h1
  refine ⟨trivial, .iface t (a.eval x), ?_, a.eval x, rfl, h1⟩
  simp only [execOp, ho, Instr.makeInterface, Sem.run_bind, run_under hT ht, Result.andThen]
  revert hn
  cases i.desc <;> intro hn <;> first | rfl | cases hn
theorem pair_rep {u v : Value} {x y : DV} (h1 : DRep Pr w x u) (h2 : DRep Pr w y v) : SRep γ Pr w (.tup [.one (.d x), .one (.d y)]) (.tuple #[u, v]) := by
  refine ⟨[u, v], rfl, rfl, fun i t hi => ?_⟩
  match i, hi with
  | 0, hi => cases hi; exact ⟨u, rfl, h1⟩
  | 1, hi => cases hi; exact ⟨v, rfl, h2⟩
theorem pair_ok {M : Mem} {x y : DV} : (SV.tup [.one (.d x), .one (.d y)]).ok M := fun t ht => by
  simp only [List.mem_cons, List.mem_nil_iff, or_false] at ht
  rcases ht with rfl | rfl <;> trivial
/-- A method of an interface value: the dynamic type's own one. -/
theorem run_invoke {cl : Call} {rv : Operand} {name : String} {f : FuncId} {fn : Func} {c : Code} {t : TypeId} {v : Value} (ho : o.op = .call cl) (hcl : cl.callee = .invoke rv name) (ρ : Operand → Value) (he : ρ rv = .iface t v)
    (hme : ∀ w, (Go.method (P.types.size + Made.depth) t v name).run P w = .ok (f, v) w) (hf : P.funcs[f]? = some fn) (hb : fn.body = some c) (hn : (fn.name == "runtime.NumGoroutine") = false) :
    (execOp ρ o).run P w = .ok (.enter f (#[v] ++ cl.args.map ρ)) w := by
  have hex : (#[Value.iface t v] ++ cl.args.map ρ).extract 1 (#[Value.iface t v] ++ cl.args.map ρ).size = cl.args.map ρ := by
    apply Array.ext'
    simp
    exact List.take_of_length_le (by simp)
  have h0 : (#[Value.iface t v] ++ cl.args.map ρ)[0]? = some (.iface t v) := by simp [Array.getElem?_append]
  simp only [execOp, ho, resolve, hcl, he, Sem.run_bind, Sem.run_pure, Result.andThen_ok, invoke, h0, hex, callMethod, run_program, hme, callFunc, hf, hn, hb]
  rfl
theorem DOps.invoke {cl : Call} {rv : Operand} {name : String} {f : FuncId} {fn : Func} {c : Code} {t : TypeId} {n : Nat} {el : Nat → DV} {ts : List TV} {R : List TV → Prop} (hg : gd ops env o = some true) {d : Nat} (hd : o.dst = some d) (hN : Nat.blt d N = true) (ho : o.op = .call cl) (hcl : cl.callee = .invoke rv name)
    (hrv : opv env rv = .v (.one (.d (.ifc t (.pp n el))))) (hme : ∀ b k w, (Go.method (P.types.size + Made.depth) t (.pointer (some ⟨b, k, none⟩)) name).run P w = .ok (f, .pointer (some ⟨b, k, none⟩)) w)
    (hf : P.funcs[f]? = some fn) (hb : fn.body = some c) (hn : (fn.name == "runtime.NumGoroutine") = false) (hx : opvs env cl.args.toList = some ts) (hp : ∀ t ∈ ts, t.pure) (hc : DCalls P f (.one (.d (.pp n el)) :: ts) R)
    (h : ∀ us, R us → DOps P N M0 ops Q rest ((d, ret1 us) :: env) M) : DOps P N M0 ops Q (o :: rest) env M := by
  have he : ∀ us, putd o.dst (ret1 us) env = (d, ret1 us) :: env := fun us => by rw [hd]; rfl
  have h : ∀ us, R us → DOps P N M0 ops Q rest (putd o.dst (ret1 us) env) M := fun us hu => by rw [he]; exact h us hu
  have hd := dstOk_of hd hN
  intro x0 a w hx0 ⟨γ, Pr, hr, hpe⟩
  have hw := gd_wanted (ops := ops) hr hg
  have h1 := hr.opv rv
  rw [hrv] at h1
  obtain ⟨u, hu, hdu⟩ := h1
  obtain ⟨g, k, rfl, _⟩ := id hdu
  unfold wpList
  rw [if_pos hw]
  refine .inl ?_
  unfold Oper.wp
  rw [run_invoke ho hcl a.eval hu (hme g k) hf hb hn, Oper.upon_enter]
  have hargs : #[Value.pointer (some ⟨g, k, none⟩)] ++ cl.args.map a.eval = (Value.pointer (some ⟨g, k, none⟩) :: cl.args.toList.map a.eval).toArray := by apply Array.ext'; simp
  rw [hargs]
  have hts : TsRep γ0 Pr w ts (cl.args.toList.map a.eval) := (opvs_rep hr _ _ hx).pure hp
  have hts' : TsRep γ0 Pr w (.one (.d (.pp n el)) :: ts) (Value.pointer (some ⟨g, k, none⟩) :: cl.args.toList.map a.eval) := by
    refine ⟨by simp [hts.1], fun i t ht => ?_⟩
    match i, ht with
    | 0, ht => cases ht; exact ⟨_, rfl, hdu⟩
    | i + 1, ht => exact hts.2 i t ht
  refine (hc Pr w _ hr.prot hts').mono fun e w' ⟨us, rs, Pr', he, hB, hE, hV, hR, hP, hQ⟩ => ?_
  subst he
  have hr' := hr.called hB hE hV
  exact h rs hQ x0 _ w' hx0 ⟨γ, Pr', hr'.put (dstOk_spec hd) (SRep.ret1 (hR.pure hP)) (ret1_ok hP), hpe.called hr hB hE⟩
/-- A pointer to a box of one's own as an interface's value. -/
theorem OpVal.mkIfp {T : TypeId → Option TyI} (hT : TOk P T) {t : TypeId} {i : TyI} {x : Operand} {b : Nat} (ho : o.op = .makeInterface t x) (ht : T t = some i) (hn : isIfaceD i.desc = false) (hx : opv env x = .v (.one (.ptr b 0))) :
    OpVal P N env M o (.v (.one (.ifp t b))) := fun γ Pr x0 a w h => by
  have h1 := h.opv x
  have h2 := opv_ok h.slotB x
  rw [hx] at h1 h2
  have h1 : a.eval x = .pointer (some ⟨γ.blk b, 0, none⟩) := h1
  refine ⟨h2, .iface t (a.eval x), ?_, by rw [h1]; rfl⟩
  simp only [execOp, ho, Instr.makeInterface, Sem.run_bind, run_under hT ht, Result.andThen]
  revert hn
  cases i.desc <;> intro hn <;> first | rfl | cases hn
/-- An assertion, with ok, of an interface type: the dynamic type has the methods (a closed fact). -/
theorem OpVal.asrtI {xt t s : TypeId} {x : Operand} {y : DV} (ho : o.op = .typeAssert x xt t true) (hrun : ∀ u w, (Instr.typeAssert (.iface s u) xt t true).run P w = .ok (.tuple #[.iface s u, .bool true]) w) (hx : opv env x = .v (.one (.d (.ifc s y)))) :
    OpVal P N env M o (.tup [.one (.d (.ifc s y)), .one (.d (.sc (.bool true)))]) := fun γ Pr x0 a w h => by
  have h1 := h.opv x
  rw [hx] at h1
  obtain ⟨u, he, hu⟩ := h1
  refine ⟨pair_ok, .tuple #[.iface s u, .bool true], ?_, pair_rep ⟨u, rfl, hu⟩ ⟨rfl, rfl⟩⟩
  simp only [execOp, ho, he, Sem.run_bind, hrun, Result.andThen]
  rfl
/-- An assertion, with ok, of an interface type: the dynamic type lacks a method (a closed fact). -/
theorem OpVal.asrtJ {xt t s : TypeId} {x : Operand} {y : DV} (ho : o.op = .typeAssert x xt t true) (hrun : ∀ u w, (Instr.typeAssert (.iface s u) xt t true).run P w = .ok (.tuple #[.nilIface, .bool false]) w) (hx : opv env x = .v (.one (.d (.ifc s y)))) :
    OpVal P N env M o (.tup [.one (.d (.sc .nilIface)), .one (.d (.sc (.bool false)))]) := fun γ Pr x0 a w h => by
  have h1 := h.opv x
  rw [hx] at h1
  obtain ⟨u, he, hu⟩ := h1
  refine ⟨pair_ok, .tuple #[.nilIface, .bool false], ?_, pair_rep ⟨rfl, rfl⟩ ⟨rfl, rfl⟩⟩
  simp only [execOp, ho, he, Sem.run_bind, hrun, Result.andThen]
  rfl
end
end Go.Proofs.YtpgkbnefhhcfcaaGreatDoor.DL
set_option linter.unusedVariables false
set_option linter.unusedSimpArgs false
set_option linter.constructorNameAsVariable false
namespace Go.Proofs.YtpgkbnefhhcfcaaGreatDoor.DL
open Go.RowKit
set_option linter.unusedVariables false
section
variable {P : Program} {N : Nat} {ops : Array Oper} {Q : DPost} {env : Env} {M M0 : Mem} {γ : Cn} {Pr : Prot} {x0 : Ctx} {w : World} {a : Act} {o : Oper} {rest : List Oper}
/-- A call of an entry. -/
theorem run_ext {cl : Call} {f : FuncId} {fn : Func} {e : Array Value → Sem Value} (ho : o.op = .call cl) (hcl : cl.callee = .value (.func f)) (hf : P.funcs[f]? = some fn) (hn : (fn.name == "runtime.NumGoroutine") = false) (hb : fn.body.isNone = true)
    (hx : Extern.findNext fn = none) (he : Extern.find fn = some e) (ρ : Operand → Value) (hρ : ρ (.func f) = .func (.func f) #[] #[]) (w : World) : (execOp ρ o).run P w = ((e (cl.args.map ρ)).run P w).andThen fun v w' => .ok (.value v) w' := by
  have h := Go.run_callFunc_extern hf hn hb hx he (cl.args.map ρ) w
  simp only [execOp, ho, resolve, hcl, hρ, Deferred.ofValue, Sem.run_bind, Sem.run_pure, Result.andThen_ok, invoke]
  simpa using h
/-- A method of an interface value that is an entry. -/
theorem run_extI {cl : Call} {rv : Operand} {name : String} {f : FuncId} {fn : Func} {e : Array Value → Sem Value} {t : TypeId} {v u : Value} (ho : o.op = .call cl) (hcl : cl.callee = .invoke rv name) (ρ : Operand → Value) (hr : ρ rv = .iface t v)
    (hme : ∀ w, (Go.method (P.types.size + Made.depth) t v name).run P w = .ok (f, u) w) (hf : P.funcs[f]? = some fn) (hn : (fn.name == "runtime.NumGoroutine") = false) (hb : fn.body.isNone = true)
    (hx : Extern.findNext fn = none) (he : Extern.find fn = some e) (w : World) : (execOp ρ o).run P w = ((e (#[u] ++ cl.args.map ρ)).run P w).andThen fun v w' => .ok (.value v) w' := by
  have h := Go.run_callFunc_extern hf hn hb hx he (#[u] ++ cl.args.map ρ) w
  have hex : (#[Value.iface t v] ++ cl.args.map ρ).extract 1 (#[Value.iface t v] ++ cl.args.map ρ).size = cl.args.map ρ := by
    apply Array.ext'
    simp
    exact List.take_of_length_le (by simp)
  have h0 : (#[Value.iface t v] ++ cl.args.map ρ)[0]? = some (.iface t v) := by simp [Array.getElem?_append]
  simp only [execOp, ho, resolve, hcl, hr, Sem.run_bind, Sem.run_pure, Result.andThen_ok, invoke, h0, hex, callMethod, run_program, hme]
  exact h
/-- What it yields is the same in all worlds. -/
theorem OpVal.lit {v : Value} (h1 : v.oneCell' = true) (hrun : ∀ γ Pr x0 a w, Rel γ Pr x0 N env M a w → (execOp a.eval o).run P w = .ok (.value v) w) : OpVal P N env M o (.v (.one (.d (.sc v)))) :=
  fun γ Pr x0 a w h => ⟨trivial, v, hrun γ Pr x0 a w h, h1, rfl⟩
/-- A value of reflectlite: its type's handle, where it lies, its flags. -/
def rvD (hd : Value) (c : CV) (fl : Int) : TV := .agg [.d (.sc hd), c, .d (.sc (.int .u64 fl))]
theorem rvD_rep {hd : Value} {c : CV} {fl : Int} {v : Value} (h : TRep γ Pr w (rvD hd c fl) v) : ∃ u, v = .agg #[hd, u, .int .u64 fl] ∧ CRep γ Pr w c u := by
  obtain ⟨vs, rfl, hl, hc⟩ := h
  match vs, hl with
  | [a, b, d], _ =>
    obtain ⟨_, e1, r1⟩ := hc 0 _ rfl
    obtain ⟨_, e2, r2⟩ := hc 1 _ rfl
    obtain ⟨_, e3, r3⟩ := hc 2 _ rfl
    simp at e1 e2 e3
    subst e1 e2 e3
    obtain rfl := r1.2
    obtain rfl := r3.2
    exact ⟨_, rfl, r2⟩
theorem rvD_mk {hd : Value} {c : CV} {fl : Int} {u : Value} (h1 : hd.oneCell' = true) (h : CRep γ Pr w c u) : TRep γ Pr w (rvD hd c fl) (.agg #[hd, u, .int .u64 fl]) := by
  refine ⟨[hd, u, .int .u64 fl], rfl, rfl, fun i c' hi => ?_⟩
  match i, hi with
  | 0, hi => cases hi; exact ⟨_, rfl, h1, rfl⟩
  | 1, hi => cases hi; exact ⟨_, rfl, h⟩
  | 2, hi => cases hi; exact ⟨_, rfl, rfl, rfl⟩
/-- ValueOf: the value is laid in a new block. -/
theorem DOps.valueOf {d T : Nat} {hd : Value} {fl : Int} {c : CV} (hg : gd ops env o = some true) (hdst : o.dst = some d) (hN : Nat.blt d N = true) (h1 : hd.oneCell' = true) (hb : mget M d = none)
    (hrun : ∀ γ Pr x0 a w, Rel γ Pr x0 N env M a w → ∃ u, CRep γ Pr w c u ∧ (execOp a.eval o).run P w = .ok (.value (.agg #[hd, .pointer (some ⟨w.heap.size, 0, none⟩), .int .u64 fl])) (w.alloc (.cells #[u] T)))
    (hok : ∀ γ Pr x0 a w, Rel γ Pr x0 N env M a w → c.ok M) (h : DOps P N M0 ops Q rest ((d, .v (rvD hd (.ptr d 0) fl)) :: env) ((d, some (.box T [c])) :: M)) : DOps P N M0 ops Q (o :: rest) env M := by
  have he : putd o.dst (.v (rvD hd (.ptr d 0) fl)) env = (d, .v (rvD hd (.ptr d 0) fl)) :: env := by rw [hdst]; rfl
  rw [← he] at h
  have hd' := dstOk_of hdst hN
  refine DOps.eff hg (fun x0 a w _ ⟨γ, Pr, hr, hp⟩ => ?_) h
  obtain ⟨u, hu, hr'⟩ := hrun γ Pr x0 a w hr
  have hcok := hok γ Pr x0 a w hr
  have hl : LRep γ Pr w [c] [u] := ⟨rfl, fun i c' hi => by
    match i, hi with
    | 0, hi => cases hi; exact ⟨_, rfl, hu⟩⟩
  have hn := hr.newBox (t := T) hb hl (fun c' hc => by simp at hc; subst hc; exact hcok)
  refine ⟨_, _, .inl hr', At.put hn (hp.newBox hr hb _ _) (dstOk_spec hd') (rvD_mk h1 (by simp [CRep, Cn.setBlk])) ?_⟩
  intro c' hc
  simp only [List.mem_cons, List.mem_nil_iff, or_false] at hc
  rcases hc with rfl | rfl | rfl
  · trivial
  · exact has_new
  · trivial
theorem opP {x : Operand} {s b : Nat} (h : Rel γ Pr x0 N env M a w) (hx : opv env x = .v (.one (.ifp s b))) : a.eval x = .iface s (.pointer (some ⟨γ.blk b, 0, none⟩)) := by
  have h1 := h.opv x
  rw [hx] at h1
  exact h1
theorem OpVal.eqNilP {T : TypeId → Option TyI} (hT : TOk P T) {t t' tx s0 b0 b : Nat} {z0 : Value} {ms : Array (String × TypeId)} {x : Operand} (ho : o.op = .binOp .eql t x (.const .nilIface) t') (ht : T t = some ⟨.interface ms, s0, b0, z0⟩)
    (hx : opv env x = .v (.one (.ifp tx b))) : OpVal P N env M o (vB false) :=
  OpVal.of_run (v := .bool false) trivial fun γ Pr x0 a w h => ⟨by
    have hu := opP h hx
    have hm : P.underlying t = some (.interface (P.methodsAt t)) := by have := (hT _ _ ht).1; simp [Program.methodsAt, this]
    simp only [execOp, ho, hu, show a.eval (.const .nilIface) = Value.nilIface from rfl, eqGuard_at_iface, Sem.run_bind, Sem.run_pure, Result.andThen_ok, run_eql_held_nil w t tx _ hm], rfl, rfl⟩
theorem run_eql_unlike {t tx ty : TypeId} {ms : Array (String × TypeId)} {u v : Value} (ht : P.underlying t = some (.interface ms)) (hne : tx ≠ ty) : (binOp .eql t (.iface tx u) (.iface ty v)).run P w = .ok (.bool false) w := by
  have h : ∀ d : Nat, (Op.equalIn (d + 1) t (.iface tx u) (.iface ty v)).run P w = .ok false w := fun d => by
    simp [Op.equalIn, run_underlying ht, hne]
  simp only [binOp]
  simp [Op.equal, Op.maxDepth, h 9999]
/-- .. held against a value of another dynamic type. -/
theorem OpVal.eqUnlike {T : TypeId → Option TyI} (hT : TOk P T) {t t' tx ty s0 b0 b : Nat} {z0 : Value} {ms : Array (String × TypeId)} {x y : Operand} {z : DV} (ho : o.op = .binOp .eql t x y t') (ht : T t = some ⟨.interface ms, s0, b0, z0⟩)
    (hx : opv env x = .v (.one (.d (.ifc tx z)))) (hy : opv env y = .v (.one (.ifp ty b))) (hne : tx ≠ ty) : OpVal P N env M o (vB false) :=
  OpVal.of_run (v := .bool false) trivial fun γ Pr x0 a w h => ⟨by
    have hv := opP h hy
    have h1 := h.opv x
    rw [hx] at h1
    obtain ⟨u, hu, _⟩ := h1
    have hm : P.underlying t = some (.interface (P.methodsAt t)) := by have := (hT _ _ ht).1; simp [Program.methodsAt, this]
    simp only [execOp, ho, hu, hv, eqGuard_at_iface, Sem.run_bind, Sem.run_pure, Result.andThen_ok, run_eql_unlike hm hne], rfl, rfl⟩
theorem run_sameAddr_box {p q : Addr} {u : Value} {cb : Array Value} {tb : TypeId} (hne : p.block ≠ q.block) (ha : w.cell? p = some u) (hb : w.heap[q.block]? = some (.cells cb tb (0, 0))) (h0 : cb.size ≠ 0) : (sameAddr p q).run P w = .ok false w := by
  have hbl : (p.block == q.block) = false := by simpa using hne
  unfold World.cell? at ha
  cases hp : w.heap[p.block]? with
  | none => rw [hp] at ha; cases ha
  | some k =>
    rw [hp] at ha
    cases k with
    | cells ca ta fr =>
      obtain ⟨lo, hi⟩ := fr
      have hca : ∃ m, ca.size = m + 1 := by
        have h2 : ca[p.off]? = some u := by
          simp only at ha
          split at ha
          · cases ha
          · exact ha
        have := (Array.getElem?_eq_some_iff.1 h2).1
        exact ⟨ca.size - 1, by omega⟩
      obtain ⟨m, hm⟩ := hca
      simp [sameAddr, hbl, World.frozen?, hp, hb, noView, viewAt, World.shape?, mayBeOne, stringish, h0, hm]
    | _ => cases ha
theorem run_eql_box {t tp te : TypeId} {ms : Array (String × TypeId)} {i : TypeInfo} {j : TypeInfo} {p q : Addr} {u : Value} {cb : Array Value} {tb : TypeId} (ht : P.underlying t = some (.interface ms)) (hi : P.info? tp = some i) (hc : i.comparable = true) (hp : P.underlying tp = some (.pointer te)) (hte : P.info? te = some j) (hsz : j.size ≠ 0)
    (hne : p.block ≠ q.block) (ha : w.cell? p = some u) (hb : w.heap[q.block]? = some (.cells cb tb (0, 0))) (h0 : cb.size ≠ 0) : (binOp .eql t (.iface tp (.pointer (some p))) (.iface tp (.pointer (some q)))).run P w = .ok (.bool false) w := by
  have h : ∀ d : Nat, (Op.equalIn (d + 2) t (.iface tp (.pointer (some p))) (.iface tp (.pointer (some q)))).run P w = .ok false w := fun d => by
    simp [Op.equalIn, run_underlying ht, run_underlying hp, typeInfo, hi, hc, sizeOf, hte, hsz, run_sameAddr_box hne ha hb h0]
  simp only [binOp]
  simp [Op.equal, Op.maxDepth, h 9998]
/-- .. held against a pointer to data of the same type: another one. -/
theorem OpVal.eqBox {T : TypeId → Option TyI} (hT : TOk P T) {t t' tx te s0 b0 b n : Nat} {tb : TypeId} {cs : List CV} {z0 : Value} {ms : Array (String × TypeId)} {x y : Operand} {el : Nat → DV} {ip ie : TypeInfo} (ho : o.op = .binOp .eql t x y t') (ht : T t = some ⟨.interface ms, s0, b0, z0⟩)
    (hx : opv env x = .v (.one (.d (.ifc tx (.pp n el))))) (hy : opv env y = .v (.one (.ifp tx b))) (hm : mget M b = some (.box tb cs)) (hn : 0 < n) (hcs : cs.length ≠ 0) (hp : P.underlying tx = some (.pointer te)) (hi : P.info? tx = some ip) (hc : ip.comparable = true) (hte : P.info? te = some ie) (hsz : ie.size ≠ 0) : OpVal P N env M o (vB false) :=
  OpVal.of_run (v := .bool false) trivial fun γ Pr x0 a w h => ⟨by
    have hv := opP h hy
    have h1 := h.opv x
    rw [hx] at h1
    obtain ⟨u, hu, g, k, rfl, hcell⟩ := h1
    obtain ⟨hpr, u0, hu0, _⟩ := hcell 0 hn
    obtain ⟨_, ⟨vs, hheap, hl⟩, hnp⟩ := h.mem b _ hm
    have hmm : P.underlying t = some (.interface (P.methodsAt t)) := by have := (hT _ _ ht).1; simp [Program.methodsAt, this]
    have hne : g ≠ γ.blk b := fun e => hnp _ (by rw [← e]; exact hpr)
    have he := run_eql_box (P := P) (w := w) (t := t) (tp := tx) (p := ⟨g, k, none⟩) (q := ⟨γ.blk b, 0, none⟩) (cb := vs.toArray) (tb := tb) hmm hi hc hp hte hsz hne hu0 hheap (by rw [List.size_toArray, hl.1]; exact hcs)
    simp only [execOp, ho, hu, hv, eqGuard_at_iface, Sem.run_bind, Sem.run_pure, Result.andThen_ok, he], rfl, rfl⟩
/-- An assertion, with ok, of the pointer's type. -/
theorem OpVal.asrtP {T : TypeId → Option TyI} (hT : TOk P T) {xt t b : Nat} {i : TyI} {x : Operand} (ho : o.op = .typeAssert x xt t true) (ht : T t = some i) (hn : isIfaceD i.desc = false) (hx : opv env x = .v (.one (.ifp t b))) :
    OpVal P N env M o (.tup [.one (.ptr b 0), .one (.d (.sc (.bool true)))]) := fun γ Pr x0 a w h => by
  have h2 := opv_ok h.slotB x
  rw [hx] at h2
  have he := opP h hx
  have hrun : ∀ u, (Instr.typeAssert (.iface t u) xt t true).run P w = .ok (.tuple #[u, .bool true]) w := fun u => by
    simp only [Instr.typeAssert, Sem.run_bind, run_under hT ht, Result.andThen]
    revert hn
    cases i.desc <;> intro hn <;> first | (cases hn; done) | simp
  refine ⟨fun t' ht' => ?_, .tuple #[.pointer (some ⟨γ.blk b, 0, none⟩), .bool true], ?_, [.pointer (some ⟨γ.blk b, 0, none⟩), .bool true], rfl, rfl, fun j t' hj => ?_⟩
  · simp only [List.mem_cons, List.mem_nil_iff, or_false] at ht'
    rcases ht' with rfl | rfl
    · exact h2
    · trivial
  · simp only [execOp, ho, he, Sem.run_bind, hrun, Result.andThen]
    rfl
  · match j, hj with
    | 0, hj => cases hj; exact ⟨_, rfl, rfl⟩
    | 1, hj => cases hj; exact ⟨_, rfl, rfl, rfl⟩
/-! ### Calls that are handed memory, told by what is entered -/
theorem DOps.callMG (Ms : Mem) {f : FuncId} {ts : List TV} {R : List TV → Mem → Prop} (hg : gd ops env o = some true) (hd : dstOk N o = true)
    (hent : ∀ γ Pr x0 a w, Rel γ Pr x0 N env M a w → ∃ vs : List Value, (execOp a.eval o).run P w = .ok (.enter f vs.toArray) w ∧ TsRep γ Pr w ts vs) (hs : ∀ b k, mget Ms b = some k → mget M b = some k) (hsB : ∀ b k, mget Ms b = some k → k.ok Ms) (hp : ∀ t ∈ ts, t.ok Ms) (hc : DCallsM P f ts Ms R)
    (h : ∀ us M', R us M' → (∀ b, has Ms b ↔ has M' b) → ∀ Mn, (∀ b, mget Mn b = if (mget Ms b).isSome then mget M' b else mget M b) → DOps P N M0 ops Q rest (putd o.dst (ret1 us) env) Mn)
    (mk : ∀ M', (∀ b, has Ms b ↔ has M' b) → ∃ Mn : Mem, ∀ b, mget Mn b = if (mget Ms b).isSome then mget M' b else mget M b) : DOps P N M0 ops Q (o :: rest) env M := by
  intro x0 a w hx0 ⟨γ, Pr, hr, hpe⟩
  have hw := gd_wanted (ops := ops) hr hg
  obtain ⟨vs, hrun, hvs⟩ := hent γ Pr x0 a w hr
  unfold wpList
  rw [if_pos hw]
  refine .inl ?_
  unfold Oper.wp
  rw [hrun, Oper.upon_enter]
  have hmr : MRel γ Pr ⟨w, Pr, γ, Ms⟩ Ms w := ⟨fun b k hk => (hr.mem b k (hs b k hk)).ctx fun g hg _ => .inr ⟨b, k, hk, hg⟩, hsB, fun b b' k k' hk hk' => hr.apart b b' k k' (hs b k hk) (hs b' k' hk')⟩
  refine (hc γ Pr w _ hr.prot hmr hp hvs).mono fun e w' ⟨us, rs, γ', Pr', M', he, hS, hE, hcell, hV, hM, hlie, hhas, hR, hok, hQ⟩ => ?_
  subst he
  obtain ⟨Mn, hMn⟩ := mk M' hhas
  have K : Kept Pr w Pr' w' := ⟨hE.sub, hcell⟩
  have up : ∀ k, Ctx.may ⟨w, Pr, γ, Ms⟩ k → x0.may k := fun k hk => hk.elim (fun hle => .inl (Nat.le_trans hr.below.size hle)) fun ⟨b, l, hb, hl⟩ => ((hr.mem b l (hs b l hb)).lt k hl).1
  have G : Cn.agree M γ (Cn.join Ms γ γ') := fun b hb => by
    by_cases hm : (mget Ms b).isSome = true
    · simp only [Cn.join, hm, if_true]; exact hlie b (has_iff.2 hm)
    · simp [Cn.join, hm]
  have G' : Cn.agree M' γ' (Cn.join Ms γ γ') := fun b hb => by
    have hm := has_iff.1 ((hhas b).2 hb)
    simp [Cn.join, hm]
  have hMn1 : ∀ b, (mget Ms b).isSome = true → mget Mn b = mget M' b := fun b hb => by rw [hMn, if_pos hb]
  have hMn2 : ∀ b, ¬ (mget Ms b).isSome = true → mget Mn b = mget M b := fun b hb => by rw [hMn, if_neg hb]
  have hasN : ∀ b, has M b → has Mn b := fun b hb => by
    by_cases hm : (mget Ms b).isSome = true
    · rw [has, hMn1 b hm]; exact (hhas b).1 (has_iff.2 hm)
    · rw [has, hMn2 b hm]; exact hb
  have hasN' : ∀ b, has M' b → has Mn b := fun b hb => by
    rw [has, hMn1 b (has_iff.1 ((hhas b).2 hb))]; exact hb
  have far : ∀ b k, ¬ (mget Ms b).isSome = true → mget M b = some k → ∀ g, blockOf γ b k = some g → ¬ Ctx.may ⟨w, Pr, γ, Ms⟩ g := fun b k hm hk g hg hmay => by
    rcases hmay with hle | ⟨b', l, hb', hl⟩
    · exact absurd ((hr.mem b k hk).lt g hg).2 (Nat.not_lt.2 hle)
    · exact hr.apart b' b l k (hs b' l hb') hk (fun e => hm (by rw [← e, hb']; rfl)) g hl hg
  have hrel : Rel (Cn.join Ms γ γ') Pr' x0 N env Mn a w' := by
    refine { size := hr.size, slot := fun i => SRep.move G K (hr.slotB i) (hr.slot i), slotB := fun i => SV.ok_le hasN (hr.slotB i), mem := fun b k hk => ?_, memB := fun b k hk => ?_, apart := fun b b' k k' hk hk' hne g hg => ?_,
             below := ⟨hS.os.trans hr.below.os, hS.tape.trans hr.below.tape, hS.output.trans hr.below.output, Nat.le_trans hr.below.size hS.size, fun k hk => (hS.block k fun hm => hk (up k hm)).trans (hr.below.block k hk)⟩, prot := hr.prot.kept K hV, defers := hr.defers }
    · by_cases hm : (mget Ms b).isSome = true
      · rw [hMn1 b hm] at hk
        exact (BRep.move G' (by rw [has, hk]; simp) (Kept.refl _ _) (fun _ _ => rfl) (fun _ _ _ p => p) (hM.memB b k hk) (hM.mem b k hk)).ctx fun g _ hmay => up g hmay
      · rw [hMn2 b hm] at hk
        exact BRep.move G (by rw [has, hk]; simp) K (fun g hg => hS.block g (far b k hm hk g hg)) (fun g hg o hp => (hE.new g o hp).elim id fun hmay => absurd hmay (far b k hm hk g hg)) (hr.memB b k hk) (hr.mem b k hk)
    · by_cases hm : (mget Ms b).isSome = true
      · rw [hMn1 b hm] at hk
        exact Blk.ok_le hasN' (hM.memB b k hk)
      · rw [hMn2 b hm] at hk
        exact Blk.ok_le hasN (hr.memB b k hk)
    · have inB : ∀ b k, (mget Ms b).isSome = true → mget Mn b = some k → ∀ g, blockOf (Cn.join Ms γ γ') b k = some g → mget M' b = some k ∧ blockOf γ' b k = some g ∧ Ctx.may ⟨w, Pr, γ, Ms⟩ g := fun b k hm hk g hg => by
        rw [hMn1 b hm] at hk
        rw [blockOf_agree G' (by rw [has, hk]; simp)] at hg
        exact ⟨hk, hg, ((hM.mem b k hk).lt g hg).1⟩
      have outB : ∀ b k, ¬ (mget Ms b).isSome = true → mget Mn b = some k → ∀ g, blockOf (Cn.join Ms γ γ') b k = some g → mget M b = some k ∧ blockOf γ b k = some g ∧ ¬ Ctx.may ⟨w, Pr, γ, Ms⟩ g := fun b k hm hk g hg => by
        rw [hMn2 b hm] at hk
        rw [blockOf_agree G (by rw [has, hk]; simp)] at hg
        exact ⟨hk, hg, far b k hm hk g hg⟩
      intro hg'
      by_cases h1 : (mget Ms b).isSome = true
      · obtain ⟨a1, a2, a3⟩ := inB b k h1 hk g hg
        by_cases h2 : (mget Ms b').isSome = true
        · obtain ⟨b1, b2, _⟩ := inB b' k' h2 hk' g hg'
          exact hM.apart b b' k k' a1 b1 hne g a2 b2
        · exact (outB b' k' h2 hk' g hg').2.2 a3
      · obtain ⟨a1, a2, a3⟩ := outB b k h1 hk g hg
        by_cases h2 : (mget Ms b').isSome = true
        · exact a3 (inB b' k' h2 hk' g hg').2.2
        · obtain ⟨b1, b2, _⟩ := outB b' k' h2 hk' g hg'
          exact hr.apart b b' k k' a1 b1 hne g a2 b2
  have hfrom : From x0 (Cn.join Ms γ γ') Pr' Mn w' := hpe.step G K (hE.mono up) hasN
  have hres : TsRep (Cn.join Ms γ γ') Pr' w' rs us := ⟨hR.1, fun i t ht => let ⟨u, hu, hr2⟩ := hR.2 i t ht; ⟨u, hu, TRep.move G' (Kept.refl _ _) (hok t (List.mem_of_getElem? ht)) hr2⟩⟩
  exact h rs M' hQ hhas Mn hMn x0 _ w' hx0 ⟨_, Pr', hrel.put (dstOk_spec hd) (SRep.ret1 hres) (ret1_okM fun t ht => TV.ok_le hasN' (hok t ht)), hfrom⟩
/-- A plain call, entered. -/
theorem ent_call {cl : Call} {f : FuncId} {fn : Func} {c : Code} {ts : List TV} (ho : o.op = .call cl) (hcl : cl.callee = .value (.func f)) (hf : P.funcs[f]? = some fn) (hb : fn.body = some c) (hn : (fn.name == "runtime.NumGoroutine") = false) (hx : opvs env cl.args.toList = some ts) :
    ∀ γ Pr x0 a w, Rel γ Pr x0 N env M a w → ∃ vs : List Value, (execOp a.eval o).run P w = .ok (.enter f vs.toArray) w ∧ TsRep γ Pr w ts vs := fun γ Pr x0 a w hr => by
  have hargs : cl.args.map a.eval = (cl.args.toList.map a.eval).toArray := by apply Array.ext'; rw [Array.toList_map]
  exact ⟨_, by rw [run_call ho hcl hf hb hn a.eval rfl, hargs], opvs_rep hr _ _ hx⟩
/-- A method of an interface value, entered. -/
theorem ent_invoke {cl : Call} {rv : Operand} {name : String} {f : FuncId} {fn : Func} {c : Code} {t : TypeId} {n : Nat} {el : Nat → DV} {ts : List TV} (ho : o.op = .call cl) (hcl : cl.callee = .invoke rv name)
    (hrv : opv env rv = .v (.one (.d (.ifc t (.pp n el))))) (hme : ∀ b k w, (Go.method (P.types.size + Made.depth) t (.pointer (some ⟨b, k, none⟩)) name).run P w = .ok (f, .pointer (some ⟨b, k, none⟩)) w)
    (hf : P.funcs[f]? = some fn) (hb : fn.body = some c) (hn : (fn.name == "runtime.NumGoroutine") = false) (hx : opvs env cl.args.toList = some ts) :
    ∀ γ Pr x0 a w, Rel γ Pr x0 N env M a w → ∃ vs : List Value, (execOp a.eval o).run P w = .ok (.enter f vs.toArray) w ∧ TsRep γ Pr w (.one (.d (.pp n el)) :: ts) vs := fun γ Pr x0 a w hr => by
  have h1 := hr.opv rv
  rw [hrv] at h1
  obtain ⟨u, hu, hdu⟩ := h1
  obtain ⟨g, k, rfl, _⟩ := id hdu
  have hargs : #[Value.pointer (some ⟨g, k, none⟩)] ++ cl.args.map a.eval = (Value.pointer (some ⟨g, k, none⟩) :: cl.args.toList.map a.eval).toArray := by apply Array.ext'; simp
  have hts := opvs_rep hr _ _ hx
  refine ⟨_, by rw [run_invoke ho hcl a.eval hu (hme g k) hf hb hn, hargs], by simp [hts.1], fun i t ht => ?_⟩
  match i, ht with
  | 0, ht => cases ht; exact ⟨_, rfl, hdu⟩
  | i + 1, ht => exact hts.2 i t ht
/-- A call that is handed one block; two blocks. -/
theorem DOps.callM1 {b f d : Nat} {k k' : Blk} {ts rs : List TV} (hg : gd ops env o = some true) (hdst : o.dst = some d) (hN : Nat.blt d N = true)
    (hent : ∀ γ Pr x0 a w, Rel γ Pr x0 N env M a w → ∃ vs : List Value, (execOp a.eval o).run P w = .ok (.enter f vs.toArray) w ∧ TsRep γ Pr w ts vs) (hm : mget M b = some k) (hk : k.ok [(b, some k)]) (hp : ∀ t ∈ ts, t.ok [(b, some k)])
    (hc : DCallsM P f ts [(b, some k)] (fun us M' => us = rs ∧ mget M' b = some k')) (h : DOps P N M0 ops Q rest ((d, ret1 rs) :: env) ((b, some k') :: M)) : DOps P N M0 ops Q (o :: rest) env M := by
  have he : putd o.dst (ret1 rs) env = (d, ret1 rs) :: env := by rw [hdst]; rfl
  rw [← he] at h
  refine DOps.callMG [(b, some k)] hg (dstOk_of hdst hN) hent (fun y l hl => ?_) (fun y l hl => ?_) hp hc (fun us M' hR hh Mn hMn => ?_) fun M' hh => ?_
  · obtain ⟨rfl, hl'⟩ := mget_one hl
    rw [hm, hl']
  · obtain ⟨_, hl'⟩ := mget_one hl
    obtain rfl := Option.some.inj hl'
    exact hk
  · obtain ⟨rfl, hM⟩ := hR
    refine DOps.weak (Wk.memo (fun i => .inr rfl) fun y => ?_) h
    rw [mget_cons, hMn y, mget_cons]
    by_cases e : b = y
    · subst e; simp [hM]
    · rw [if_neg e, if_neg e]; rfl
  · refine ⟨(b, mget M' b) :: M, fun y => ?_⟩
    rw [mget_cons, mget_cons]
    by_cases e : b = y
    · subst e; simp
    · rw [if_neg e, if_neg e]; rfl
theorem DOps.callM2 {b r f d : Nat} {k l k' l' : Blk} {ts rs : List TV} (hg : gd ops env o = some true) (hdst : o.dst = some d) (hN : Nat.blt d N = true)
    (hent : ∀ γ Pr x0 a w, Rel γ Pr x0 N env M a w → ∃ vs : List Value, (execOp a.eval o).run P w = .ok (.enter f vs.toArray) w ∧ TsRep γ Pr w ts vs) (hm : mget M b = some k) (hm2 : mget M r = some l) (hk : k.ok [(b, some k), (r, some l)]) (hl : l.ok [(b, some k), (r, some l)]) (hp : ∀ t ∈ ts, t.ok [(b, some k), (r, some l)])
    (hc : DCallsM P f ts [(b, some k), (r, some l)] (fun us M' => us = rs ∧ mget M' b = some k' ∧ mget M' r = some l')) (h : DOps P N M0 ops Q rest ((d, ret1 rs) :: env) ((b, some k') :: (r, some l') :: M)) : DOps P N M0 ops Q (o :: rest) env M := by
  have he : putd o.dst (ret1 rs) env = (d, ret1 rs) :: env := by rw [hdst]; rfl
  rw [← he] at h
  refine DOps.callMG [(b, some k), (r, some l)] hg (dstOk_of hdst hN) hent (fun y q hq => ?_) (fun y q hq => ?_) hp hc (fun us M' hR hh Mn hMn => ?_) fun M' hh => ?_
  · rcases mget_two hq with ⟨rfl, h1⟩ | ⟨_, rfl, h1⟩
    · rw [hm, h1]
    · rw [hm2, h1]
  · rcases mget_two hq with ⟨rfl, h1⟩ | ⟨_, rfl, h1⟩
    · obtain rfl := Option.some.inj h1; exact hk
    · obtain rfl := Option.some.inj h1; exact hl
  · obtain ⟨rfl, hM, hM2⟩ := hR
    refine DOps.weak (Wk.memo (fun i => .inr rfl) fun y => ?_) h
    rw [mget_cons, mget_cons, hMn y, mget_cons, mget_cons]
    by_cases e : b = y
    · subst e; simp [hM]
    · rw [if_neg e, if_neg e]
      by_cases e2 : r = y
      · subst e2; simp [hM2]
      · rw [if_neg e2, if_neg e2]; rfl
  · refine ⟨(b, mget M' b) :: (r, mget M' r) :: M, fun y => ?_⟩
    rw [mget_cons, mget_cons, mget_cons, mget_cons]
    by_cases e : b = y
    · subst e; simp
    · rw [if_neg e, if_neg e]
      by_cases e2 : r = y
      · subst e2; simp
      · rw [if_neg e2, if_neg e2]; rfl
/-- A method of an interface value, in a region that draws its order. -/
theorem DDr.invoke {k d : Nat} {cl : Call} {rv : Operand} {name : String} {f : FuncId} {fn : Func} {c : Code} {t : TypeId} {n : Nat} {el : Nat → DV} {ts rs : List TV} (hg : gd ops (restr env (o.looksAt ops)) o = some true) (hd : o.dst = some d) (hN : Nat.blt d N = true) (ho : o.op = .call cl) (hcl : cl.callee = .invoke rv name)
    (hrv : opv (restr env (o.looksAt ops)) rv = .v (.one (.d (.ifc t (.pp n el))))) (hme : ∀ b k w, (Go.method (P.types.size + Made.depth) t (.pointer (some ⟨b, k, none⟩)) name).run P w = .ok (f, .pointer (some ⟨b, k, none⟩)) w)
    (hf : P.funcs[f]? = some fn) (hb : fn.body = some c) (hn : (fn.name == "runtime.NumGoroutine") = false) (hx : opvs (restr env (o.looksAt ops)) cl.args.toList = some ts) (hp : ∀ t ∈ ts, t.pure) (hc : DCalls P f (.one (.d (.pp n el)) :: ts) (· = rs))
    (h : DDr P N M0 ops Q k rest ((d, ret1 rs) :: env) M) : DDr P N M0 ops Q (k + 1) (o :: rest) env M := by
  refine ⟨ret1 rs, d, hd, hN, .inr ⟨hg, fun γ Pr x0 a w Q' _ hr hfr => ?_⟩, h⟩
  unfold Oper.wp
  obtain ⟨vs, hrun, hvs⟩ := ent_invoke ho hcl hrv hme hf hb hn hx γ Pr x0 a w hr
  rw [hrun, Oper.upon_enter]
  have hpp : ∀ t' ∈ (TV.one (.d (.pp n el))) :: ts, t'.pure := fun t' ht => by
    rcases List.mem_cons.1 ht with rfl | ht
    · trivial
    · exact hp t' ht
  refine (hc Pr w _ hr.prot (hvs.pure hpp)).mono fun e w' ⟨us, rs', Pr', he, hB, hE, hV, hR, hP, hQ⟩ => ?_
  subst he
  subst hQ
  exact ⟨_, Pr', rfl, SRep.ret1 (hR.pure hP), ret1_ok hP, fun e2 h2 => ⟨h2.called hB hE hV, hfr.called hr hB hE⟩⟩
end
end Go.Proofs.YtpgkbnefhhcfcaaGreatDoor.DL
set_option linter.unusedVariables false
set_option linter.unusedSimpArgs false
set_option linter.constructorNameAsVariable false
namespace Go.Proofs.YtpgkbnefhhcfcaaGreatDoor.DL
open Go.RowKit
set_option linter.unusedVariables false
section
variable {P : Program} {N : Nat} {ops : Array Oper} {Q : DPost} {env : Env} {M M0 : Mem} {γ : Cn} {Pr : Prot} {x0 : Ctx} {w : World} {a : Act} {o : Oper} {rest : List Oper}
/-- .. at a pointer to one's own block, as an interface's value. -/
theorem OpVal.extP {cl : Call} {f : FuncId} {fn : Func} {e : Array Value → Sem Value} {x : Operand} {s b : Nat} {v : Value} (ho : o.op = .call cl) (hcl : cl.callee = .value (.func f)) (ha : cl.args = #[x]) (hf : P.funcs[f]? = some fn) (hn : (fn.name == "runtime.NumGoroutine") = false) (hb : fn.body.isNone = true)
    (hnx : Extern.findNext fn = none) (he : Extern.find fn = some e) (hx : opv env x = .v (.one (.ifp s b))) (h1 : v.oneCell' = true) (hrun : ∀ u w, (e #[.iface s u]).run P w = .ok v w) : OpVal P N env M o (.v (.one (.d (.sc v)))) :=
  OpVal.lit h1 fun γ Pr x0 a w h => by
    have hu := opP h hx
    rw [run_ext ho hcl hf hn hb hnx he a.eval rfl w, ha]
    simp only [List.map_toArray, List.map_cons, List.map_nil, hu, hrun, Result.andThen]
/-- .. at data. -/
theorem OpVal.extD {cl : Call} {f : FuncId} {fn : Func} {e : Array Value → Sem Value} {x : Operand} {s : Nat} {y : DV} {v : Value} (ho : o.op = .call cl) (hcl : cl.callee = .value (.func f)) (ha : cl.args = #[x]) (hf : P.funcs[f]? = some fn) (hn : (fn.name == "runtime.NumGoroutine") = false) (hb : fn.body.isNone = true)
    (hnx : Extern.findNext fn = none) (he : Extern.find fn = some e) (hx : opv env x = .v (.one (.d (.ifc s y)))) (h1 : v.oneCell' = true) (hrun : ∀ u w, (e #[.iface s u]).run P w = .ok v w) : OpVal P N env M o (.v (.one (.d (.sc v)))) :=
  OpVal.lit h1 fun γ Pr x0 a w h => by
    have h2 := h.opv x
    rw [hx] at h2
    obtain ⟨u, hu, _⟩ := h2
    rw [run_ext ho hcl hf hn hb hnx he a.eval rfl w, ha]
    simp only [List.map_toArray, List.map_cons, List.map_nil, hu, hrun, Result.andThen]
/-- .. at a value of reflectlite. -/
theorem OpVal.extV {cl : Call} {f : FuncId} {fn : Func} {e : Array Value → Sem Value} {x : Operand} {hd v : Value} {c : CV} {fl : Int} (ho : o.op = .call cl) (hcl : cl.callee = .value (.func f)) (ha : cl.args = #[x]) (hf : P.funcs[f]? = some fn) (hn : (fn.name == "runtime.NumGoroutine") = false) (hb : fn.body.isNone = true)
    (hnx : Extern.findNext fn = none) (he : Extern.find fn = some e) (hx : opv env x = .v (rvD hd c fl)) (h1 : v.oneCell' = true) (hc : ∀ γ Pr w u, CRep γ Pr w c u → ∃ p, u = .pointer (some p)) (hrun : ∀ p w, (e #[.agg #[hd, .pointer (some p), .int .u64 fl]]).run P w = .ok v w) : OpVal P N env M o (.v (.one (.d (.sc v)))) :=
  OpVal.lit h1 fun γ Pr x0 a w h => by
    have h2 := h.opv x
    rw [hx] at h2
    obtain ⟨u, hu, r⟩ := rvD_rep h2
    obtain ⟨p, rfl⟩ := hc _ _ _ _ r
    rw [run_ext ho hcl hf hn hb hnx he a.eval rfl w, ha]
    simp only [List.map_toArray, List.map_cons, List.map_nil, hu, hrun, Result.andThen]
/-- A method of an interface value that is the same in all worlds. -/
theorem OpVal.extI {cl : Call} {rv : Operand} {name : String} {f : FuncId} {fn : Func} {e : Array Value → Sem Value} {t : TypeId} {v0 u v : Value} (ho : o.op = .call cl) (hcl : cl.callee = .invoke rv name) (ha : cl.args = #[]) (hrv : opv env rv = .v (.one (.d (.sc (.iface t v0)))))
    (hme : ∀ w, (Go.method (P.types.size + Made.depth) t v0 name).run P w = .ok (f, u) w) (hf : P.funcs[f]? = some fn) (hn : (fn.name == "runtime.NumGoroutine") = false) (hb : fn.body.isNone = true) (hnx : Extern.findNext fn = none) (he : Extern.find fn = some e) (h1 : v.oneCell' = true)
    (hrun : ∀ w, (e #[u]).run P w = .ok v w) : OpVal P N env M o (.v (.one (.d (.sc v)))) :=
  OpVal.lit h1 fun γ Pr x0 a w h => by
    have h2 := h.opv rv
    rw [hrv] at h2
    rw [run_extI ho hcl a.eval h2.2 hme hf hn hb hnx he w, ha]
    simp only [List.map_toArray, List.map_nil]
    show ((e #[u]).run P w).andThen _ = _
    rw [hrun]; rfl
theorem OpVal.extI1 {cl : Call} {rv x : Operand} {name : String} {f : FuncId} {fn : Func} {e : Array Value → Sem Value} {t : TypeId} {v0 u v z : Value} (ho : o.op = .call cl) (hcl : cl.callee = .invoke rv name) (ha : cl.args = #[x]) (hrv : opv env rv = .v (.one (.d (.sc (.iface t v0))))) (hx : opv env x = .v (.one (.d (.sc z))))
    (hme : ∀ w, (Go.method (P.types.size + Made.depth) t v0 name).run P w = .ok (f, u) w) (hf : P.funcs[f]? = some fn) (hn : (fn.name == "runtime.NumGoroutine") = false) (hb : fn.body.isNone = true) (hnx : Extern.findNext fn = none) (he : Extern.find fn = some e) (h1 : v.oneCell' = true)
    (hrun : ∀ w, (e #[u, z]).run P w = .ok v w) : OpVal P N env M o (.v (.one (.d (.sc v)))) :=
  OpVal.lit h1 fun γ Pr x0 a w h => by
    have h2 := h.opv rv
    have h3 := h.opv x
    rw [hrv] at h2
    rw [hx] at h3
    have h3 : a.eval x = z := h3.2
    rw [run_extI ho hcl a.eval h2.2 hme hf hn hb hnx he w, ha]
    simp only [List.map_toArray, List.map_cons, List.map_nil, h3]
    show ((e #[u, z]).run P w).andThen _ = _
    rw [hrun]; rfl
end
end Go.Proofs.YtpgkbnefhhcfcaaGreatDoor.DL
set_option linter.unusedVariables false
set_option linter.unusedSimpArgs false
set_option linter.constructorNameAsVariable false
namespace Go.Proofs.YtpgkbnefhhcfcaaGreatDoor.DL
open Go.RowKit
set_option linter.unusedVariables false
section
variable {P : Program} {N : Nat} {ops : Array Oper} {Q : DPost} {env : Env} {M M0 : Mem} {γ : Cn} {Pr : Prot} {x0 : Ctx} {w : World} {a : Act} {o : Oper} {rest : List Oper} {cl : Call} {f : FuncId} {fn : Func} {e : Array Value → Sem Value} {hd v : Value} {fl : Int}
/-- Set: what the one value's block holds goes to where the other one lies. -/
theorem DOps.rset2 {b s T T' : Nat} {hd hd' : Value} {fl fl' : Int} {x y : Operand} {c0 c : CV} {d : Nat} (hg : gd ops env o = some true) (hdst : o.dst = some d) (hN : Nat.blt d N = true) (hx : opv env x = .v (rvD hd (.ptr b 0) fl)) (hy : opv env y = .v (rvD hd' (.ptr s 0) fl'))
    (hm : mget M b = some (.box T [c0])) (hs : mget M s = some (.box T' [c]))
    (hrun : ∀ (ρ : Operand → Value) w g g' u old t, (∀ f, ρ (.func f) = .func (.func f) #[] #[]) → ρ x = .agg #[hd, .pointer (some ⟨g, 0, none⟩), .int .u64 fl] → ρ y = .agg #[hd', .pointer (some ⟨g', 0, none⟩), .int .u64 fl'] → w.cell? ⟨g', 0, none⟩ = some u → (∃ γ Pr, CRep γ Pr w c u) → w.heap[g]? = some (.cells #[old] t (0, 0)) → (execOp ρ o).run P w = .ok (.value (.tuple #[])) (w.setCells g 0 [u]))
    (h : DOps P N M0 ops Q rest ((d, .tup []) :: env) ((b, some (.box T [c])) :: M)) : DOps P N M0 ops Q (o :: rest) env M := by
  have he : putd o.dst (.tup []) env = (d, .tup []) :: env := by rw [hdst]; rfl
  rw [← he] at h
  have hd' := dstOk_of hdst hN
  refine DOps.eff hg (fun x0 a w _ ⟨γ, Pr, hr, hp⟩ => ?_) h
  have h1 := hr.opv x; have h2 := hr.opv y
  rw [hx] at h1; rw [hy] at h2
  obtain ⟨u1, e1, r1⟩ := rvD_rep h1
  obtain ⟨u2, e2, r2⟩ := rvD_rep h2
  obtain rfl : u1 = .pointer (some ⟨γ.blk b, 0, none⟩) := r1
  obtain rfl : u2 = .pointer (some ⟨γ.blk s, 0, none⟩) := r2
  obtain ⟨_, ⟨vs, hv, hvl⟩, _⟩ := hr.mem b _ hm
  obtain ⟨_, ⟨vs', hv', hvl'⟩, _⟩ := hr.mem s _ hs
  have hok : c.ok M := hr.memB s _ hs c (by simp)
  match vs, hvl.1, vs', hvl'.1 with
  | [old], _, [u], _ =>
    have hcell : w.cell? ⟨γ.blk s, 0, none⟩ = some u := by rw [blk_cell' hv']; rfl
    obtain ⟨_, e3, r3⟩ := hvl'.2 0 c rfl
    simp at e3
    subst e3
    have hl : LRep γ Pr w [c] [u] := hvl'
    refine ⟨.tuple #[], w.setCells (γ.blk b) 0 [u], .inl (hrun a.eval w _ _ u old T (fun _ => rfl) e1 e2 hcell ⟨γ, Pr, r3⟩ hv), ?_⟩
    have hn := hr.setBox hm (us := [u]) (ns := [c]) hl (fun c' hc => by simp at hc; subst hc; exact hok) 0 (by simp)
    exact At.put hn (hp.setBox hr hm 0 _ [u]) (dstOk_spec hd') ⟨[], rfl, rfl, fun i t h => by simp at h⟩ (fun t ht => by cases ht)
theorem DOps.vofP {x : Operand} {T b d : Nat} (hg : gd ops env o = some true) (hdst : o.dst = some d) (hN : Nat.blt d N = true) (ho : o.op = .call cl) (hcl : cl.callee = .value (.func f)) (ha : cl.args = #[x]) (hf : P.funcs[f]? = some fn) (hn : (fn.name == "runtime.NumGoroutine") = false) (hb : fn.body.isNone = true)
    (hnx : Extern.findNext fn = none) (he : Extern.find fn = some e) (h1 : hd.oneCell' = true) (hx : opv env x = .v (.one (.ifp T b))) (hnew : mget M d = none)
    (hrun : ∀ p w, (e #[.iface T (.pointer (some p))]).run P w = .ok (.agg #[hd, .pointer (some ⟨w.heap.size, 0, none⟩), .int .u64 fl]) (w.alloc (.cells #[.pointer (some p)] T)))
    (h : DOps P N M0 ops Q rest ((d, .v (rvD hd (.ptr d 0) fl)) :: env) ((d, some (.box T [.ptr b 0])) :: M)) : DOps P N M0 ops Q (o :: rest) env M := by
  refine DOps.valueOf (c := .ptr b 0) hg hdst hN h1 hnew (fun γ Pr x0 a w hr => ⟨.pointer (some ⟨γ.blk b, 0, none⟩), rfl, ?_⟩) (fun γ Pr x0 a w hr => ?_) h
  · rw [run_ext ho hcl hf hn hb hnx he a.eval rfl w, ha]
    simp only [List.map_toArray, List.map_cons, List.map_nil, opP hr hx, hrun, Result.andThen]
  · have h2 := opv_ok hr.slotB x
    rw [hx] at h2
    exact h2
theorem DOps.vofD {x : Operand} {T d n : Nat} {el : Nat → DV} (hg : gd ops env o = some true) (hdst : o.dst = some d) (hN : Nat.blt d N = true) (ho : o.op = .call cl) (hcl : cl.callee = .value (.func f)) (ha : cl.args = #[x]) (hf : P.funcs[f]? = some fn) (hn : (fn.name == "runtime.NumGoroutine") = false) (hb : fn.body.isNone = true)
    (hnx : Extern.findNext fn = none) (he : Extern.find fn = some e) (h1 : hd.oneCell' = true) (hx : opv env x = .v (.one (.d (.ifc T (.pp n el))))) (hnew : mget M d = none)
    (hrun : ∀ p w, (e #[.iface T (.pointer (some p))]).run P w = .ok (.agg #[hd, .pointer (some ⟨w.heap.size, 0, none⟩), .int .u64 fl]) (w.alloc (.cells #[.pointer (some p)] T)))
    (h : DOps P N M0 ops Q rest ((d, .v (rvD hd (.ptr d 0) fl)) :: env) ((d, some (.box T [.d (.pp n el)])) :: M)) : DOps P N M0 ops Q (o :: rest) env M := by
  refine DOps.valueOf (c := .d (.pp n el)) hg hdst hN h1 hnew (fun γ Pr x0 a w hr => ?_) (fun γ Pr x0 a w hr => trivial) h
  have h2 := hr.opv x
  rw [hx] at h2
  obtain ⟨u, hu, hd2⟩ := h2
  obtain ⟨g, k, rfl, _⟩ := id hd2
  refine ⟨_, hd2, ?_⟩
  rw [run_ext ho hcl hf hn hb hnx he a.eval rfl w, ha]
  simp only [List.map_toArray, List.map_cons, List.map_nil, hu, hrun, Result.andThen]
theorem OpVal.vnil {x : Operand} {b q T : Nat} (ho : o.op = .call cl) (hcl : cl.callee = .value (.func f)) (ha : cl.args = #[x]) (hf : P.funcs[f]? = some fn) (hn : (fn.name == "runtime.NumGoroutine") = false) (hb : fn.body.isNone = true)
    (hnx : Extern.findNext fn = none) (he : Extern.find fn = some e) (h1 : v.oneCell' = true) (hx : opv env x = .v (rvD hd (.ptr b 0) fl)) (hm : mget M b = some (.box T [.ptr q 0]))
    (hrun : ∀ w a p, w.cell? a = some (.pointer (some p)) → (e #[.agg #[hd, .pointer (some a), .int .u64 fl]]).run P w = .ok v w) : OpVal P N env M o (.v (.one (.d (.sc v)))) := fun γ Pr x0 a w h => by
  have h2 := h.opv x
  rw [hx] at h2
  obtain ⟨u1, e1, r1⟩ := rvD_rep h2
  obtain rfl : u1 = .pointer (some ⟨γ.blk b, 0, none⟩) := r1
  obtain ⟨_, ⟨vs, hv, hvl⟩, _⟩ := h.mem b _ hm
  obtain ⟨u, hu, hc⟩ := hvl.2 0 _ rfl
  obtain rfl : u = .pointer (some ⟨γ.blk q, 0, none⟩) := hc
  refine ⟨trivial, v, ?_, h1, rfl⟩
  rw [run_ext ho hcl hf hn hb hnx he a.eval rfl w, ha]
  simp only [List.map_toArray, List.map_cons, List.map_nil, e1, hrun w _ _ (show w.cell? ⟨γ.blk b, 0, none⟩ = _ by rw [blk_cell' hv]; simpa using hu), Result.andThen]
theorem OpVal.velem {x : Operand} {b q T : Nat} {hd' : Value} {fl' : Int} (ho : o.op = .call cl) (hcl : cl.callee = .value (.func f)) (ha : cl.args = #[x]) (hf : P.funcs[f]? = some fn) (hn : (fn.name == "runtime.NumGoroutine") = false) (hb : fn.body.isNone = true)
    (hnx : Extern.findNext fn = none) (he : Extern.find fn = some e) (h1 : hd'.oneCell' = true) (hx : opv env x = .v (rvD hd (.ptr b 0) fl)) (hm : mget M b = some (.box T [.ptr q 0]))
    (hrun : ∀ w a p, w.cell? a = some (.pointer (some p)) → (e #[.agg #[hd, .pointer (some a), .int .u64 fl]]).run P w = .ok (.agg #[hd', .pointer (some p), .int .u64 fl']) w) : OpVal P N env M o (.v (rvD hd' (.ptr q 0) fl')) := fun γ Pr x0 a w h => by
  have h2 := h.opv x
  rw [hx] at h2
  obtain ⟨u1, e1, r1⟩ := rvD_rep h2
  obtain rfl : u1 = .pointer (some ⟨γ.blk b, 0, none⟩) := r1
  obtain ⟨_, ⟨vs, hv, hvl⟩, _⟩ := h.mem b _ hm
  obtain ⟨u, hu, hc⟩ := hvl.2 0 _ rfl
  obtain rfl : u = .pointer (some ⟨γ.blk q, 0, none⟩) := hc
  have hq : (CV.ptr q 0).ok M := h.memB b _ hm _ (by simp)
  refine ⟨fun c hc => ?_, .agg #[hd', .pointer (some ⟨γ.blk q, 0, none⟩), .int .u64 fl'], ?_, rvD_mk h1 rfl⟩
  · simp only [List.mem_cons, List.mem_nil_iff, or_false] at hc
    rcases hc with rfl | rfl | rfl
    · trivial
    · exact hq
    · trivial
  · rw [run_ext ho hcl hf hn hb hnx he a.eval rfl w, ha]
    simp only [List.map_toArray, List.map_cons, List.map_nil, e1, hrun w _ _ (show w.cell? ⟨γ.blk b, 0, none⟩ = _ by rw [blk_cell' hv]; simpa using hu), Result.andThen]
theorem DOps.vset {x y : Operand} {b s T T' d n : Nat} {hd' : Value} {fl' : Int} {c0 : CV} {el : Nat → DV} (hg : gd ops env o = some true) (hdst : o.dst = some d) (hN : Nat.blt d N = true) (ho : o.op = .call cl) (hcl : cl.callee = .value (.func f)) (ha : cl.args = #[x, y]) (hf : P.funcs[f]? = some fn) (hn : (fn.name == "runtime.NumGoroutine") = false) (hb : fn.body.isNone = true)
    (hnx : Extern.findNext fn = none) (he : Extern.find fn = some e) (hx : opv env x = .v (rvD hd (.ptr b 0) fl)) (hy : opv env y = .v (rvD hd' (.ptr s 0) fl')) (hm : mget M b = some (.box T [c0])) (hs : mget M s = some (.box T' [.d (.pp n el)]))
    (hrun : ∀ w (ta z q : Addr) (old : Value), w.cell? z = some (.pointer (some q)) → w.cell? ta = some old → w.frozen? ta = false → (e #[.agg #[hd, .pointer (some ta), .int .u64 fl], .agg #[hd', .pointer (some z), .int .u64 fl']]).run P w = .ok (.tuple #[]) (w.setCell ta (.pointer (some q))))
    (h : DOps P N M0 ops Q rest ((d, .tup []) :: env) ((b, some (.box T [.d (.pp n el)])) :: M)) : DOps P N M0 ops Q (o :: rest) env M := by
  refine DOps.rset2 hg hdst hN hx hy hm hs (fun ρ w g g' u old t hρ h1 h2 h3 ⟨γ, Pr, hu⟩ h4 => ?_) h
  obtain ⟨z, k, rfl, _⟩ := hu
  have h5 : w.cell? ⟨g, 0, none⟩ = some old := by rw [cell_of_row w g 0 #[old] t (0, 0) h4]; rfl
  have h6 : w.frozen? ⟨g, 0, none⟩ = false := by simp [World.frozen?, h4]
  rw [run_ext ho hcl hf hn hb hnx he ρ (hρ f) w, ha]
  simp only [List.map_toArray, List.map_cons, List.map_nil, h1, h2, hrun w _ _ _ _ h3 h5 h6, Result.andThen]
  rfl
end
end Go.Proofs.YtpgkbnefhhcfcaaGreatDoor.DL
