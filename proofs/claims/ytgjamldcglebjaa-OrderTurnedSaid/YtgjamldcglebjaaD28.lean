/- A logic of data for Go functions: rules by an operation's kind; rules for a statement whose order is open. No program in sight. -/
import Derived.Test.YtgjamldcglebjaaD27
namespace Go.Proofs.Ytgjamldcglebjaa.DL
open Go.RowKit

/-- An operation's kind. -/
def opK : Op → Nat
  | .move _ => 0
  | .assign _ => 1
  | .pick .. => 2
  | .load .. => 3
  | .binOp .add .. => 10
  | .binOp .sub .. => 11
  | .binOp .eql .. => 12
  | .binOp .neq .. => 13
  | .binOp .lss .. => 14
  | .binOp .leq .. => 14
  | .binOp .gtr .. => 14
  | .binOp .geq .. => 14
  | .binOp .. => 15
  | .unOp .. => 16
  | .call .. => 17
  | .fieldAddr .. => 18
  | .indexAddr .. => 19
  | .field .. => 20
  | .index .. => 21
  | .slice .. => 22
  | .extract .. => 23
  | .nilCheck .. => 24
  | .build .. => 25
  | .convert .. => 26
  | .makeFunc .. => 27
  | .buildSlice .. => 28
  | .alloc .. => 29
  | .box .. => 30
  | .store .. => 31
  | .makeInterface .. => 32
  | .makeSlice .. => 33
  | _ => 99

/-- Slots told one by one, but for some of them. -/
def KSub (ds : List Nat) : Env → Env → Prop
  | [], _ => True
  | (d, x) :: r, env => (ds.contains d = true ∨ lk env d = x) ∧ KSub ds r env
theorem KSub.nil {ds : List Nat} {env : Env} : KSub ds [] env := trivial
theorem KSub.skip {ds : List Nat} {d : Nat} {x : SV} {r env : Env} (hd : ds.contains d = true) (h : KSub ds r env) : KSub ds ((d, x) :: r) env := ⟨.inl hd, h⟩
theorem KSub.cons {ds : List Nat} {d : Nat} {x : SV} {r env : Env} (hx : lk env d = x) (h : KSub ds r env) : KSub ds ((d, x) :: r) env := ⟨.inr hx, h⟩
theorem KSub.get {ds : List Nat} {env : Env} {i : Nat} (hi : ds.contains i = false) : ∀ {K : Env}, KSub ds K env → lk K i = .junk ∨ lk K i = lk env i
  | [], _ => .inl rfl
  | (d, x) :: r, h => by
    rw [lk_cons]
    by_cases hd : d = i
    · subst hd
      rw [if_pos rfl]
      rcases h.1 with h1 | h1
      · rw [hi] at h1; cases h1
      · exact .inr h1.symm
    · rw [if_neg hd]
      exact KSub.get hi h.2
theorem Sub.keep {ds : List Nat} {K env : Env} (h : KSub ds K env) : Sub (junks ds K) env := fun i => by
  rw [lk_junks]
  cases hi : ds.contains i with
  | true => exact .inl rfl
  | false => exact KSub.get hi h

section
variable {P : Program} {N : Nat} {ops : Array Oper} {Q : DPost} {env : Env} {M M0 : Mem} {o : Oper} {rest : List Oper}
theorem DOps.valK (n : Nat) {d : Nat} (_ : opK o.op = n) (hg : gd ops env o = some true) (hd : o.dst = some d) (hN : Nat.blt d N = true) (h : ∃ r, OpVal P N env M o r ∧ DOps P N M0 ops Q rest ((d, r) :: env) M) : DOps P N M0 ops Q (o :: rest) env M :=
  let ⟨_, h1, h2⟩ := h
  DOps.val hg hd hN h1 h2
theorem DOps.k (n : Nat) (_ : opK o.op = n) (h : DOps P N M0 ops Q (o :: rest) env M) : DOps P N M0 ops Q (o :: rest) env M := h

variable {l : List Oper} {ws : List (Nat × Nat × Nat)} {un : List (List Nat × List Nat)} {i : Nat}
theorem DCf.k (n : Nat) (_ : opK o.op = n) (h : DCf P N M0 l Q ws un i (o :: rest) env M) : DCf P N M0 l Q ws un i (o :: rest) env M := h
theorem DCf.valK (n : Nat) {d : Nat} (_ : opK o.op = n) (hw : wsAt ws i = none) (hg : ∀ E, gd l.toArray (restr env (o.looksAt l.toArray) ++ E) o = some true) (hd : o.dst = some d) (hN : Nat.blt d N = true)
    (h : ∃ r, (∀ E xs ys, OpVal P N (restr env (o.looksAt l.toArray) ++ E) (genM (un.getD i ([], [])) xs ys M) o r) ∧ DCf P N M0 l Q ws un (i + 1) rest ((d, r) :: env) M) : DCf P N M0 l Q ws un i (o :: rest) env M :=
  let ⟨_, h1, h2⟩ := h
  DCf.pure hd hw (fun E xs ys => DOps.val (hg E) hd hN (h1 E xs ys) (DOps.nil ⟨rfl, rfl, rfl⟩)) h2
theorem DCf.new {d : Nat} {r : SV} (hw : wsAt ws i = none) (hg : ∀ E, gd l.toArray (restr env (o.looksAt l.toArray) ++ E) o = some true) (hd : o.dst = some d) (hN : Nat.blt d N = true)
    (hv : ∀ E xs ys, OpNew P N (restr env (o.looksAt l.toArray) ++ E) (genM (un.getD i ([], [])) xs ys M) o r) (h : DCf P N M0 l Q ws un (i + 1) rest ((d, r) :: env) M) : DCf P N M0 l Q ws un i (o :: rest) env M :=
  DCf.pure hd hw (fun E xs ys => DOps.new (hg E) hd hN (hv E xs ys) (DOps.nil ⟨rfl, rfl, rfl⟩)) h
theorem DCf.off {d : Nat} (hw : wsAt ws i = none) (hg : ∀ E, gd l.toArray (restr env (o.looksAt l.toArray) ++ E) o = some false) (hd : o.dst = some d) (hN : Nat.blt d N = true) (h : DCf P N M0 l Q ws un (i + 1) rest ((d, .tup []) :: env) M) :
    DCf P N M0 l Q ws un i (o :: rest) env M :=
  DCf.pure hd hw (fun E _ _ => DOps.off (hg E) hd hN (DOps.nil ⟨rfl, rfl, rfl⟩)) h
theorem DCf.call {d : Nat} {cl : Call} {f : FuncId} {fn : Func} {c : Code} {ts rs : List TV} (hw : wsAt ws i = none) (hg : ∀ E, gd l.toArray (restr env (o.looksAt l.toArray) ++ E) o = some true) (hd : o.dst = some d) (hN : Nat.blt d N = true) (ho : o.op = .call cl) (hcl : cl.callee = .value (.func f))
    (hf : P.funcs[f]? = some fn) (hb : fn.body = some c) (hn : (fn.name == "runtime.NumGoroutine") = false) (hx : ∀ E, opvs (restr env (o.looksAt l.toArray) ++ E) cl.args.toList = some ts) (hp : ∀ t ∈ ts, t.pure) (hc : DCalls P f ts (fun us => us = rs))
    (h : DCf P N M0 l Q ws un (i + 1) rest ((d, ret1 rs) :: env) M) : DCf P N M0 l Q ws un i (o :: rest) env M :=
  DCf.pure hd hw (fun E _ _ => DOps.call1 (hg E) hd hN ho hcl hf hb hn (hx E) hp hc (DOps.nil ⟨rfl, rfl, rfl⟩)) h
theorem DCf.callV {cl : Call} {x : Operand} {f : FuncId} {n : Nat} {cap : Nat → DV} {fn : Func} {c : Code} {ts rs : List TV} {d : Nat} (hw : wsAt ws i = none) (hg : ∀ E, gd l.toArray (restr env (o.looksAt l.toArray) ++ E) o = some true) (hd : o.dst = some d) (hN : Nat.blt d N = true) (ho : o.op = .call cl) (hcl : cl.callee = .value x)
    (hv : ∀ E, opv (restr env (o.looksAt l.toArray) ++ E) x = .v (.one (.d (.fn f n cap)))) (hf : P.funcs[f]? = some fn) (hb : fn.body = some c) (hn : (fn.name == "runtime.NumGoroutine") = false) (hx : ∀ E, opvs (restr env (o.looksAt l.toArray) ++ E) cl.args.toList = some ts) (hp : ∀ t ∈ ts, t.pure)
    (hc : DCalls P f (ts ++ capTs n cap) (fun us => us = rs)) (h : DCf P N M0 l Q ws un (i + 1) rest ((d, ret1 rs) :: env) M) : DCf P N M0 l Q ws un i (o :: rest) env M :=
  DCf.pure hd hw (fun E _ _ => DOps.callV (hg E) hd hN ho hcl (hv E) hf hb hn (hx E) hp hc (DOps.nil ⟨rfl, rfl, rfl⟩)) h
theorem DCf.alS {T : TypeId → Option TyI} (hT : TOk P T) {t s0 b0 d : Nat} {z0 : Value} {d0 : TypeDesc} (hw : wsAt ws i = some (d, 1)) (hg : ∀ E, gd l.toArray (restr env (o.looksAt l.toArray) ++ E) o = some true) (hd : o.dst = some d) (hN : Nat.blt d N = true) (ho : o.op = .alloc t) (ht : T t = some ⟨d0, s0, b0, z0⟩)
    (hz1 : z0.cells.toList.all (·.oneCell') = true) (hb : mget M d = none) (hb' : ∀ xs ys, mget (genM (un.getD i ([], [])) xs ys M) d = none) (h : DCf P N M0 l Q ws un (i + 1) rest ((d, .v (.one (.ptr d 0))) :: env) ((d, some (.box t (dvs z0))) :: M)) : DCf P N M0 l Q ws un i (o :: rest) env M :=
  DCf.make hd hw hb (fun E xs ys => DOps.alS hT (hg E) hd hN ho ht hz1 (hb' xs ys) (DOps.nil ⟨rfl, rfl, rfl⟩)) h
theorem DCf.boxS {T : TypeId} {x : Operand} {t : TV} {d : Nat} (hw : wsAt ws i = some (d, 1)) (hg : ∀ E, gd l.toArray (restr env (o.looksAt l.toArray) ++ E) o = some true) (hd : o.dst = some d) (hN : Nat.blt d N = true) (ho : o.op = .box T x) (hx : ∀ E, opv (restr env (o.looksAt l.toArray) ++ E) x = .v t)
    (hb : mget M d = none) (hb' : ∀ xs ys, mget (genM (un.getD i ([], [])) xs ys M) d = none) (h : DCf P N M0 l Q ws un (i + 1) rest ((d, .v (.one (.ptr d 0))) :: env) ((d, some (.box T t.cells)) :: M)) : DCf P N M0 l Q ws un i (o :: rest) env M :=
  DCf.make hd hw hb (fun E xs ys => DOps.boxS (hg E) hd hN ho (hx E) (hb' xs ys) (DOps.nil ⟨rfl, rfl, rfl⟩)) h
theorem DCf.store {T : TypeId → Option TyI} (hT : TOk P T) {t : TypeId} {j : TyI} {x y : Operand} {b k : Nat} {tb : TypeId} {cs cs' : List CV} {tv : TV} (hd : o.dst = none) (ho : o.op = .store t x y) (hg : ∀ E, gd l.toArray (restr env (o.looksAt l.toArray) ++ E) o = some true) 
    (ht : T t = some j) (hx : ∀ E, opv (restr env (o.looksAt l.toArray) ++ E) x = .v (.one (.ptr b k))) (hy : ∀ E, opv (restr env (o.looksAt l.toArray) ++ E) y = .v tv) (hw : wsAt ws i = some (b, 0)) (hm : mget M b = some (.box tb cs)) (hm' : ∀ xs ys, mget (genM (un.getD i ([], [])) xs ys M) b = some (.box tb cs))
    (hs : tv.cells.length = j.size) (hk : k + tv.cells.length ≤ cs.length) (hc : DL.splice cs k tv.cells = cs') (h : DCf P N M0 l Q ws un (i + 1) rest env ((b, some (.box tb cs')) :: M)) : DCf P N M0 l Q ws un i (o :: rest) env M :=
  DCf.upd hd hw hm (fun E xs ys => DOps.store hT (hg E) hd ho ht (hx E) (hy E) (hm' xs ys) hs hk hc (DOps.nil ⟨rfl, rfl, rfl⟩)) rfl h
theorem OpVal.toU {T : TypeId → Option TyI} (hT : TOk P T) {t t' : TypeId} {s b s' b' : Nat} {z z' : Value} {x : Operand} {n : Int} (ho : o.op = .convert t t' x) (ht : T t = some ⟨.int .i64, s, b, z⟩) (ht' : T t' = some ⟨.int .u64, s', b', z'⟩) (hx : opv env x = vI .i64 n) (h0 : 0 ≤ n) (h1 : n ≤ 9223372036854775807) :
    OpVal P N env M o (vI .u64 n) := OpVal.cast (OpVal.conv hT ho ht rfl ht' rfl hx) (vI_congr (IntWalk.u64_in n ⟨h0, by omega⟩))
theorem OpVal.toI {T : TypeId → Option TyI} (hT : TOk P T) {t t' : TypeId} {s b s' b' : Nat} {z z' : Value} {x : Operand} {n : Int} (ho : o.op = .convert t t' x) (ht : T t = some ⟨.int .u64, s, b, z⟩) (ht' : T t' = some ⟨.int .i64, s', b', z'⟩) (hx : opv env x = vI .u64 n) (h0 : 0 ≤ n) (h1 : n ≤ 9223372036854775807) :
    OpVal P N env M o (vI .i64 n) := OpVal.cast (OpVal.conv hT ho ht rfl ht' rfl hx) (vI_congr (wrap_in64 (by omega) h1))
theorem OpVal.half {t t' : TypeId} {x y : Operand} {k2 : IntKind} {n : Int} (ho : o.op = .binOp .shr t x y t') (hx : opv env x = vI .u64 n) (hy : opv env y = vI k2 1) : OpVal P N env M o (vI .u64 (n / 2)) :=
  OpVal.of_run (v := .int .u64 (n / 2)) trivial fun γ Pr x0 a w h => ⟨by
    have : n.fdiv 2 = n / 2 := Int.fdiv_eq_ediv_of_nonneg n (by omega)
    simp [execOp, ho, opI h hx, opI h hy, eqGuard_at_int, binOp, Op.shift, IntKind.bits, this], rfl, rfl⟩
/-- A number of a row of one's own. -/
theorem OpVal.loadRI {T : TypeId → Option TyI} (hT : TOk P T) {t e : TypeId} {d0 : TypeDesc} {s0 b0 : Nat} {z0 : Value} {x : Operand} {b n off j : Nat} {v : Value} {kd : IntKind} {xs : List Int} {fz : Bool} (ho : o.op = .load t x) (ht : T t = some ⟨d0, s0, b0, z0⟩) (ha : aggD d0 = false)
    (hx : opv env x = .v (.one (.rp b v off))) (hm : mget M b = some (.row e 1 n v (xs.map fun m => .d (.sc (.int kd m))) fz)) (hj : off = j) (hk : j < xs.length) : OpVal P N env M o (vI kd (xs.getD j 0)) := by
  subst hj
  refine OpVal.loadR1 hT ho ht ha hx hm ?_
  rw [List.getElem?_map, List.getElem?_eq_getElem hk, List.getD_eq_getElem?_getD, List.getElem?_eq_getElem hk]
  rfl
theorem DCf.storeRI {T : TypeId → Option TyI} (hT : TOk P T) {t e : TypeId} {d0 : TypeDesc} {b0 : Nat} {z0 : Value} {x y : Operand} {b n off j : Nat} {v : Value} {kd : IntKind} {q : Int} {xs ys : List Int} (hd : o.dst = none) (ho : o.op = .store t x y) (hg : ∀ E, gd l.toArray (restr env (o.looksAt l.toArray) ++ E) o = some true)
    (ht : T t = some ⟨d0, 1, b0, z0⟩) (hx : ∀ E, opv (restr env (o.looksAt l.toArray) ++ E) x = .v (.one (.rp b v off))) (hy : ∀ E, opv (restr env (o.looksAt l.toArray) ++ E) y = .v (.one (.d (.sc (.int kd q))))) (hw : wsAt ws i = some (b, 0)) (hm : mget M b = some (.row e 1 n v (xs.map fun m => .d (.sc (.int kd m))) false))
    (hm' : ∀ xs' ys', mget (genM (un.getD i ([], [])) xs' ys' M) b = some (.row e 1 n v (xs.map fun m => .d (.sc (.int kd m))) false)) (hj : off = j) (hk : j < xs.length) (hs : xs.set j q = ys) (h : DCf P N M0 l Q ws un (i + 1) rest env ((b, some (.row e 1 n v (ys.map fun m => .d (.sc (.int kd m))) false)) :: M)) :
    DCf P N M0 l Q ws un i (o :: rest) env M :=
  DCf.upd hd hw hm (fun E xs' ys' => DOps.storeRI hT (hg E) hd ho ht (hx E) (hy E) (hm' xs' ys') hj hk hs (DOps.nil ⟨rfl, rfl, rfl⟩)) rfl h
end
end Go.Proofs.Ytgjamldcglebjaa.DL
