/- A logic of data for Go functions: operations that leave memory as it is. No program in sight. -/
import Derived.Test.YtgjamldcglebjaaD0
import Derived.Deep.MidRow
namespace Go.Proofs.Ytgjamldcglebjaa.DL
open Go.RowKit

/-- What is known of a type. -/
structure TyI where
  desc : TypeDesc
  size : Nat
  bytes : Nat
  zero : Value
def TOk (P : Program) (T : TypeId → Option TyI) : Prop :=
  ∀ t i, T t = some i → P.underlying t = some i.desc ∧ ∃ info, P.info? t = some info ∧ info.size = i.size ∧ info.bytes = i.bytes ∧ info.zero = some i.zero

def putd : Option Tmp → SV → Env → Env
  | some d, x, env => (d, x) :: env
  | none, _, env => env

theorem lk_cons (d i : Nat) (x : SV) (r : Env) : lk ((d, x) :: r) i = if d = i then x else lk r i := by
  simp only [lk]
  by_cases h : d = i
  · subst h; simp
  · rw [if_neg h]; have : Nat.beq d i = false := by
      cases hb : Nat.beq d i
      · rfl
      · exact absurd (Nat.eq_of_beq_eq_true hb) h
    rw [this]; rfl

theorem mget_cons (d i : Nat) (x : Option Blk) (r : Mem) : mget ((d, x) :: r) i = if d = i then x else mget r i := by
  simp only [mget]
  by_cases h : d = i
  · subst h; simp
  · rw [if_neg h]; have : Nat.beq d i = false := by
      cases hb : Nat.beq d i
      · rfl
      · exact absurd (Nat.eq_of_beq_eq_true hb) h
    rw [this]; rfl

section
variable {P : Program} {N : Nat} {ops : Array Oper} {Q : DPost} {env : Env} {M M0 : Mem} {γ : Cn} {Pr : Prot} {x0 : Ctx} {w : World} {a : Act} {o : Oper} {rest : List Oper}

theorem Rel.put (h : Rel γ Pr x0 N env M a w) {dst : Option Tmp} {r : SV} {v : Value} (hd : ∀ d, dst = some d → d < N) (hr : SRep γ Pr w r v) (hok : r.ok M) :
    Rel γ Pr x0 N (putd dst r env) M (a.put dst v) w := by
  cases dst with
  | none => exact h
  | some d =>
    have hdN := hd d rfl
    have hs := h.size
    refine { size := by simpa [Act.put] using hs, slot := fun i => ?_, slotB := fun i => ?_, mem := h.mem, memB := h.memB, apart := h.apart, below := h.below, prot := h.prot, defers := h.defers }
    · simp only [putd, lk_cons, Act.put]
      by_cases hi : d = i
      · subst hi
        rw [if_pos rfl]
        have : (a.tmps.setIfInBounds d v).getD d undef = v := by simp [Array.getD, hs, hdN]
        rw [this]; exact hr
      · rw [if_neg hi]
        have : (a.tmps.setIfInBounds d v).getD i undef = a.tmps.getD i undef := by simp [Array.getElem?_setIfInBounds_ne hi]
        rw [this]; exact h.slot i
    · simp only [putd, lk_cons]
      by_cases hi : d = i
      · rw [if_pos hi]; exact hok
      · rw [if_neg hi]; exact h.slotB i

/-- Is an operation's guard open? -/
def gd (ops : Array Oper) (env : Env) (o : Oper) : Option Bool :=
  match o.guard with
  | none => some true
  | some (j, want) => match (ops[j]?).bind (·.dst) with
    | some d => match lk env d with
      | .v (.one (.d (.sc (.bool b)))) => some (b == want)
      | .tup [] => some false
      | _ => none
    | none => none

theorem gd_wanted (h : Rel γ Pr x0 N env M a w) {b : Bool} (hg : gd ops env o = some b) : Region.wanted o (yielded ops a.tmps) = b := by
  unfold gd at hg
  unfold Region.wanted
  cases hgu : o.guard with
  | none => rw [hgu] at hg; simpa using hg
  | some jw =>
    obtain ⟨j, want⟩ := jw
    rw [hgu] at hg
    simp only at hg ⊢
    cases hd : (ops[j]?).bind (·.dst) with
    | none => rw [hd] at hg; simp at hg
    | some d =>
      rw [hd] at hg
      simp only at hg
      have hs := h.slot d
      cases hl : lk env d with
      | junk => rw [hl] at hg; simp at hg
      | tup l =>
        rw [hl] at hg hs
        cases l with
        | cons _ _ => simp at hg
        | nil =>
          simp at hg
          obtain ⟨vs, hvs, hlen, _⟩ := hs
          have h0 : vs = [] := List.eq_nil_of_length_eq_zero hlen
          subst h0
          have h2 : a.tmps[d]? = none ∨ a.tmps[d]? = some (.tuple #[]) := by
            cases hq : a.tmps[d]? with
            | none => exact .inl rfl
            | some z => simp [hq] at hvs; rw [hvs]; exact .inr rfl
          unfold yielded
          simp only [hd, Option.bind_some]
          rcases h2 with h2 | h2 <;> rw [h2, hg] <;> cases want <;> rfl
      | v t =>
        rw [hl] at hg hs
        cases t with
        | agg cs => simp at hg
        | one c =>
          cases c with
          | d x =>
            cases x with
            | sc u =>
              cases u with
              | bool t =>
                simp at hg
                have h1 : a.tmps.getD d undef = .bool t := hs.2
                have h2 : a.tmps[d]? = some (.bool t) := by
                  cases hq : a.tmps[d]? with
                  | none => simp [hq] at h1; cases h1
                  | some z => simp [hq] at h1; rw [h1]
                unfold yielded
                simp only [hd, Option.bind_some, h2]
                rw [← hg]
                cases t <;> cases want <;> rfl
              | _ => simp at hg
            | _ => simp at hg
          | _ => simp at hg

/-- Is there such a slot? -/
def dstOk (N : Nat) (o : Oper) : Bool := match o.dst with
  | some d => Nat.blt d N
  | none => true
theorem dstOk_spec (h : dstOk N o = true) : ∀ d, o.dst = some d → d < N := fun d hd => by
  unfold dstOk at h
  rw [hd] at h
  simpa using h

theorem dstOk_of {d : Nat} (hd : o.dst = some d) (hN : Nat.blt d N = true) : dstOk N o = true := by unfold dstOk; rw [hd]; exact hN

theorem DOps.nil (h : Q .normal env M) : DOps P N M0 ops Q [] env M := fun _ _ _ _ ha => wpList_nil ⟨env, M, ha, h⟩

theorem DCode.region {id : Nat} {l : List Oper} (h : DOps P N M0 l.toArray Q l env M) : DCode P N M0 (.region id l.toArray false) Q env M :=
  fun x a w hx ha => wp_region_lit (h x a w hx ha)

theorem DOps.off (hg : gd ops env o = some false) {d : Nat} (hd : o.dst = some d) (hN : Nat.blt d N = true) (h : DOps P N M0 ops Q rest ((d, .tup []) :: env) M) : DOps P N M0 ops Q (o :: rest) env M := by
  have he : putd o.dst (.tup []) env = (d, .tup []) :: env := by rw [hd]; rfl
  rw [← he] at h
  have hd := dstOk_of hd hN
  intro x0 a w hx0 ⟨γ, Pr, hr, hp⟩
  have hw := gd_wanted (ops := ops) hr hg
  unfold wpList
  rw [if_neg (by rw [hw]; simp)]
  exact h x0 _ w hx0 ⟨γ, Pr, hr.put (dstOk_spec hd) ⟨[], rfl, rfl, fun i t h => by simp at h⟩ (fun t h => by cases h), hp⟩

/-- An operation that yields a value, and leaves memory. -/
def OpVal (P : Program) (N : Nat) (env : Env) (M : Mem) (o : Oper) (r : SV) : Prop :=
  ∀ γ Pr x0 a w, Rel γ Pr x0 N env M a w → r.ok M ∧ ∃ v, (execOp a.eval o).run P w = .ok (.value v) w ∧ SRep γ Pr w r v

theorem DOps.val {r : SV} {d : Nat} (hg : gd ops env o = some true) (hd : o.dst = some d) (hN : Nat.blt d N = true) (hv : OpVal P N env M o r) (h : DOps P N M0 ops Q rest ((d, r) :: env) M) :
    DOps P N M0 ops Q (o :: rest) env M := by
  have he : putd o.dst r env = (d, r) :: env := by rw [hd]; rfl
  rw [← he] at h
  have hd := dstOk_of hd hN
  intro x0 a w hx0 ⟨γ, Pr, hr, hp⟩
  have hw := gd_wanted (ops := ops) hr hg
  obtain ⟨hok, v, hrun, hrep⟩ := hv γ Pr x0 a w hr
  unfold wpList
  rw [if_pos hw]
  refine .inl ?_
  unfold Oper.wp
  rw [hrun, Oper.upon_value]
  exact h x0 _ w hx0 ⟨γ, Pr, hr.put (dstOk_spec hd) hrep hok, hp⟩

/-- An operation that yields a value, and turns memory. -/
theorem DOps.eff {env' : Env} {M' : Mem} (hg : gd ops env o = some true)
    (hv : ∀ x0 a w, x0.M0 = M0 → At x0 N env M a w → ∃ v w', ((execOp a.eval o).run P w = .ok (.value v) w' ∨ ((execOp a.eval o).run P w = .ok .skip w' ∧ v = undef)) ∧ At x0 N env' M' (a.put o.dst v) w')
    (h : DOps P N M0 ops Q rest env' M') : DOps P N M0 ops Q (o :: rest) env M := by
  intro x0 a w hx0 ha
  have ⟨γ, Pr, hr, _⟩ := ha
  have hw := gd_wanted (ops := ops) hr hg
  obtain ⟨v, w', hrun, hat⟩ := hv x0 a w hx0 ha
  unfold wpList
  rw [if_pos hw]
  refine .inl ?_
  unfold Oper.wp
  rcases hrun with hrun | ⟨hrun, rfl⟩
  · rw [hrun, Oper.upon_value]
    exact h x0 _ w' hx0 hat
  · rw [hrun, Oper.upon_skip]
    exact h x0 _ w' hx0 hat

/-- A test's value, both ways. -/
theorem DOps.split {d : Nat} {b : Bool} {l : List Oper} (h1 : b = true → DOps P N M0 ops Q l ((d, .v (.one (.d (.sc (.bool true))))) :: env) M)
    (h2 : b = false → DOps P N M0 ops Q l ((d, .v (.one (.d (.sc (.bool false))))) :: env) M) : DOps P N M0 ops Q l ((d, .v (.one (.d (.sc (.bool b))))) :: env) M := by
  cases b
  · exact h2 rfl
  · exact h1 rfl

theorem DCode.cond {c : Operand} {x y : Code} {t : Bool} (hc : opv env c = .v (.one (.d (.sc (.bool t))))) (h : DCode P N M0 (if t then x else y) Q env M) : DCode P N M0 (.cond c x y) Q env M := by
  intro x0 a w hx0 ha
  have ⟨γ, Pr, hr, _⟩ := ha
  have h1 := hr.opv c
  rw [hc] at h1
  exact wp_cond h1.2 (h x0 a w hx0 ha)
theorem DCode.condT {c : Operand} {x y : Code} (hc : opv env c = .v (.one (.d (.sc (.bool true))))) (h : DCode P N M0 x Q env M) : DCode P N M0 (.cond c x y) Q env M := DCode.cond hc (by simpa using h)
theorem DCode.condF {c : Operand} {x y : Code} (hc : opv env c = .v (.one (.d (.sc (.bool false))))) (h : DCode P N M0 y Q env M) : DCode P N M0 (.cond c x y) Q env M := DCode.cond hc (by simpa using h)

/-! ### Values -/
theorem opv_ok (hr : ∀ i, (lk env i).ok M) (x : Operand) : (opv env x).ok M := by
  cases x with
  | tmp t => exact hr t
  | const v =>
    simp only [opv]
    split <;> trivial
  | func f => trivial
  | global g => trivial

theorem OpVal.move {x : Operand} {t : TV} (ho : o.op = .move x) (hx : opv env x = .v t) : OpVal P N env M o (.v t) := fun γ Pr x0 a w h => by
  have h1 := h.opv x; have h2 := opv_ok h.slotB x
  rw [hx] at h1 h2
  exact ⟨h2, _, by simp [execOp, ho], h1⟩
theorem OpVal.assign {x : Operand} {t : TV} (ho : o.op = .assign x) (hx : opv env x = .v t) : OpVal P N env M o (.v t) := fun γ Pr x0 a w h => by
  have h1 := h.opv x; have h2 := opv_ok h.slotB x
  rw [hx] at h1 h2
  exact ⟨h2, _, by simp [execOp, ho], h1⟩
theorem OpVal.moveJ {x : Operand} (ho : o.op = .move x) : OpVal P N env M o .junk := fun γ Pr x0 a w h => ⟨trivial, _, by simp [execOp, ho]; rfl, trivial⟩
theorem OpVal.moveT {x : Operand} {t : List TV} (ho : o.op = .move x) (hx : opv env x = .tup t) : OpVal P N env M o (.tup t) := fun γ Pr x0 a w h => by
  have h1 := h.opv x; have h2 := opv_ok h.slotB x
  rw [hx] at h1 h2
  exact ⟨h2, _, by simp [execOp, ho], h1⟩

abbrev vI (k : IntKind) (n : Int) : SV := .v (.one (.d (.sc (.int k n))))
abbrev vB (b : Bool) : SV := .v (.one (.d (.sc (.bool b))))
abbrev vS (s : ByteArray) : SV := .v (.one (.d (.sc (.string s))))
abbrev cI (k : IntKind) (n : Int) : CV := .d (.sc (.int k n))

theorem opI (h : Rel γ Pr x0 N env M a w) {x : Operand} {k : IntKind} {n : Int} (hx : opv env x = vI k n) : a.eval x = .int k n := by
  have h1 := h.opv x; rw [hx] at h1; exact h1.2
theorem opB (h : Rel γ Pr x0 N env M a w) {x : Operand} {n : Bool} (hx : opv env x = vB n) : a.eval x = .bool n := by
  have h1 := h.opv x; rw [hx] at h1; exact h1.2
theorem opS (h : Rel γ Pr x0 N env M a w) {x : Operand} {n : ByteArray} (hx : opv env x = vS n) : a.eval x = .string n := by
  have h1 := h.opv x; rw [hx] at h1; exact h1.2

theorem OpVal.pickT {c x y : Operand} {t : TV} (ho : o.op = .pick c x y) (hc : opv env c = vB true) (hx : opv env x = .v t) : OpVal P N env M o (.v t) := fun γ Pr x0 a w h => by
  have h1 := h.opv x; have h2 := opv_ok h.slotB x; have h3 := opB h hc
  rw [hx] at h1 h2
  exact ⟨h2, _, by simp [execOp, ho, h3, asBool], h1⟩
theorem OpVal.pickF {c x y : Operand} {t : TV} (ho : o.op = .pick c x y) (hc : opv env c = vB false) (hx : opv env y = .v t) : OpVal P N env M o (.v t) := fun γ Pr x0 a w h => by
  have h1 := h.opv y; have h2 := opv_ok h.slotB y; have h3 := opB h hc
  rw [hx] at h1 h2
  exact ⟨h2, _, by simp [execOp, ho, h3, asBool], h1⟩

theorem OpVal.of_run {r : SV} {v : Value} (hok : r.ok M) (h : ∀ γ Pr x0 a w, Rel γ Pr x0 N env M a w → (execOp a.eval o).run P w = .ok (.value v) w ∧ SRep γ Pr w r v) : OpVal P N env M o r :=
  fun γ Pr x0 a w hr => ⟨hok, v, (h γ Pr x0 a w hr).1, (h γ Pr x0 a w hr).2⟩

/-- Sums and their kin. -/
def arith (op : BinOp) (k : IntKind) (x y : Int) : Option Int :=
  match op with
  | .add => some (k.wrap (x + y))
  | .sub => some (k.wrap (x - y))
  | .mul => some (k.wrap (x * y))
  | _ => none
theorem OpVal.arith {op : BinOp} {t t' : TypeId} {x y : Operand} {k : IntKind} {m n r : Int} (ho : o.op = .binOp op t x y t') (hx : opv env x = vI k m) (hy : opv env y = vI k n)
    (hr : DL.arith op k m n = some r) : OpVal P N env M o (vI k r) :=
  OpVal.of_run (v := .int k r) trivial fun γ Pr x0 a w h => ⟨by
    cases op <;> simp [DL.arith] at hr <;> simp [execOp, ho, opI h hx, opI h hy, eqGuard_at_int, binOp, Op.intArith, hr], rfl, rfl⟩
theorem wrap_in64 {n : Int} (h0 : -9223372036854775808 ≤ n) (h1 : n ≤ 9223372036854775807) : IntKind.i64.wrap n = n := IntWalk.i64_in n ⟨h0, h1⟩
theorem OpVal.add {t t' : TypeId} {x y : Operand} {m n : Int} (ho : o.op = .binOp .add t x y t') (hx : opv env x = vI .i64 m) (hy : opv env y = vI .i64 n)
    (h0 : -9223372036854775808 ≤ m + n) (h1 : m + n ≤ 9223372036854775807) : OpVal P N env M o (vI .i64 (m + n)) :=
  OpVal.arith ho hx hy (by simp [DL.arith, wrap_in64 h0 h1])
theorem OpVal.sub {t t' : TypeId} {x y : Operand} {m n : Int} (ho : o.op = .binOp .sub t x y t') (hx : opv env x = vI .i64 m) (hy : opv env y = vI .i64 n)
    (h0 : -9223372036854775808 ≤ m - n) (h1 : m - n ≤ 9223372036854775807) : OpVal P N env M o (vI .i64 (m - n)) :=
  OpVal.arith ho hx hy (by simp [DL.arith, wrap_in64 h0 h1])
theorem OpVal.mul {t t' : TypeId} {x y : Operand} {m n : Int} (ho : o.op = .binOp .mul t x y t') (hx : opv env x = vI .i64 m) (hy : opv env y = vI .i64 n)
    (h0 : -9223372036854775808 ≤ m * n) (h1 : m * n ≤ 9223372036854775807) : OpVal P N env M o (vI .i64 (m * n)) :=
  OpVal.arith ho hx hy (by simp [DL.arith, wrap_in64 h0 h1])
theorem OpVal.quo {t t' : TypeId} {x y : Operand} {k : IntKind} {m n : Int} (ho : o.op = .binOp .quo t x y t') (hx : opv env x = vI k m) (hy : opv env y = vI k n) (h0 : n ≠ 0) :
    OpVal P N env M o (vI k (k.wrap (m.tdiv n))) :=
  OpVal.of_run (v := .int k (k.wrap (m.tdiv n))) trivial fun γ Pr x0 a w h => ⟨by simp [execOp, ho, opI h hx, opI h hy, eqGuard_at_int, binOp, Op.intDiv, h0], rfl, rfl⟩
theorem OpVal.rem {t t' : TypeId} {x y : Operand} {k : IntKind} {m n : Int} (ho : o.op = .binOp .rem t x y t') (hx : opv env x = vI k m) (hy : opv env y = vI k n) (h0 : n ≠ 0) :
    OpVal P N env M o (vI k (m.tmod n)) :=
  OpVal.of_run (v := .int k (m.tmod n)) trivial fun γ Pr x0 a w h => ⟨by simp [execOp, ho, opI h hx, opI h hy, eqGuard_at_int, binOp, Op.intDiv, h0], rfl, rfl⟩
theorem OpVal.lss {t t' : TypeId} {x y : Operand} {k : IntKind} {m n : Int} (ho : o.op = .binOp .lss t x y t') (hx : opv env x = vI k m) (hy : opv env y = vI k n) : OpVal P N env M o (vB (decide (m < n))) :=
  OpVal.of_run (v := .bool (decide (m < n))) trivial fun γ Pr x0 a w h => ⟨by simp [execOp, ho, opI h hx, opI h hy, eqGuard_at_int, binOp, Op.intCmp], rfl, rfl⟩
theorem OpVal.leq {t t' : TypeId} {x y : Operand} {k : IntKind} {m n : Int} (ho : o.op = .binOp .leq t x y t') (hx : opv env x = vI k m) (hy : opv env y = vI k n) : OpVal P N env M o (vB (decide (m ≤ n))) :=
  OpVal.of_run (v := .bool (decide (m ≤ n))) trivial fun γ Pr x0 a w h => ⟨by simp [execOp, ho, opI h hx, opI h hy, eqGuard_at_int, binOp, Op.intCmp], rfl, rfl⟩
theorem OpVal.gtr {t t' : TypeId} {x y : Operand} {k : IntKind} {m n : Int} (ho : o.op = .binOp .gtr t x y t') (hx : opv env x = vI k m) (hy : opv env y = vI k n) : OpVal P N env M o (vB (decide (n < m))) :=
  OpVal.of_run (v := .bool (decide (n < m))) trivial fun γ Pr x0 a w h => ⟨by simp [execOp, ho, opI h hx, opI h hy, eqGuard_at_int, binOp, Op.intCmp], rfl, rfl⟩
theorem OpVal.geq {t t' : TypeId} {x y : Operand} {k : IntKind} {m n : Int} (ho : o.op = .binOp .geq t x y t') (hx : opv env x = vI k m) (hy : opv env y = vI k n) : OpVal P N env M o (vB (decide (n ≤ m))) :=
  OpVal.of_run (v := .bool (decide (n ≤ m))) trivial fun γ Pr x0 a w h => ⟨by simp [execOp, ho, opI h hx, opI h hy, eqGuard_at_int, binOp, Op.intCmp], rfl, rfl⟩
theorem OpVal.eqlI {t t' : TypeId} {x y : Operand} {k : IntKind} {m n : Int} (ho : o.op = .binOp .eql t x y t') (hx : opv env x = vI k m) (hy : opv env y = vI k n) : OpVal P N env M o (vB (decide (m = n))) :=
  OpVal.of_run (v := .bool (decide (m = n))) trivial fun γ Pr x0 a w h => ⟨by
    simp [execOp, ho, opI h hx, opI h hy, eqGuard_at_int, binOp, Op.intCmp]; rfl, rfl, rfl⟩
theorem OpVal.neqI {t t' : TypeId} {x y : Operand} {k : IntKind} {m n : Int} (ho : o.op = .binOp .neq t x y t') (hx : opv env x = vI k m) (hy : opv env y = vI k n) : OpVal P N env M o (vB (!decide (m = n))) :=
  OpVal.of_run (v := .bool (!decide (m = n))) trivial fun γ Pr x0 a w h => ⟨by
    simp [execOp, ho, opI h hx, opI h hy, eqGuard_at_int, binOp, Op.intCmp]; rfl, rfl, rfl⟩
theorem OpVal.neg {t : TypeId} {x : Operand} {k : IntKind} {n : Int} (ho : o.op = .unOp .neg t x) (hx : opv env x = vI k n) : OpVal P N env M o (vI k (k.wrap (0 - n))) :=
  OpVal.of_run (v := .int k (k.wrap (0 - n))) trivial fun γ Pr x0 a w h => ⟨by simp [execOp, ho, opI h hx, Op.unary, Op.intArith], rfl, rfl⟩
theorem OpVal.notB {t : TypeId} {x : Operand} {b : Bool} (ho : o.op = .unOp .not t x) (hx : opv env x = vB b) : OpVal P N env M o (vB (!b)) :=
  OpVal.of_run (v := .bool !b) trivial fun γ Pr x0 a w h => ⟨by simp [execOp, ho, opB h hx, Op.unary], rfl, rfl⟩
theorem OpVal.extract {x : Operand} {i : Nat} {l : List TV} {t : TV} (ho : o.op = .extract x i) (hx : opv env x = .tup l) (hi : l[i]? = some t) : OpVal P N env M o (.v t) := fun γ Pr x0 a w h => by
  have h1 := h.opv x; have h2 := opv_ok h.slotB x
  rw [hx] at h1 h2
  obtain ⟨vs, hv, hl, hh⟩ := h1
  obtain ⟨y, hy, hr⟩ := hh i t hi
  refine ⟨h2 t (List.mem_of_getElem? hi), y, ?_, hr⟩
  simp [execOp, ho, hv, Instr.extract, hy]
end
end Go.Proofs.Ytgjamldcglebjaa.DL
