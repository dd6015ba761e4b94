/- A logic of data for Go functions: methods on one block; values of many cells, compared; slices written out. No program in sight. -/
import Derived.Test.YtgjamldcglebjaaD7
import Derived.ChangeKeysEq
namespace Go.Proofs.Ytgjamldcglebjaa.DL
open Go.RowKit

section
variable {P : Program} {N : Nat} {ops : Array Oper} {Q : DPost} {env : Env} {M M0 : Mem} {γ γ' : Cn} {Pr Pr' : Prot} {x0 : Ctx} {w w' : World} {a : Act} {o : Oper} {rest : List Oper}

/-! ### A method on one block -/
def DCallsB (P : Program) (f : FuncId) (t : TypeId) (cs : List CV) (args rs : List TV) (cs' : List CV) : Prop :=
  ∀ b, DCallsM P f (.one (.ptr b 0) :: args) [(b, some (.box t cs))] (fun ts M' => ts = rs ∧ mget M' b = some (.box t cs'))

theorem mget_one {b : Nat} {x : Option Blk} {y : Nat} {k : Blk} (h : mget [(b, x)] y = some k) : y = b ∧ x = some k := by
  rw [mget_cons] at h
  split at h
  · rename_i e; exact ⟨e.symm, h⟩
  · cases h

theorem endQM.box {T : TypeId → Option TyI} {e : Exit} (he : e = .normal ∨ e = .ret) {b : Nat} {t : TypeId} {cs cs' : List CV} {rs rs' : List ResultVar} {ts : List TV} (hrs : rs = rs') (h : ResTs T env M rs' ts) (hp : ∀ t ∈ ts, t.pure) (hM : mget M b = some (.box t cs')) (hpc : ∀ c ∈ cs', c.pure) :
    endQM T rs [(b, some (.box t cs))] (fun ts' M' => ts' = ts ∧ mget M' b = some (.box t cs')) e env M := by
  subst hrs
  have g : mget [(b, some (Blk.box t cs'))] b = some (.box t cs') := by rw [mget_cons, if_pos rfl]
  have : ∃ us M', ResTs T env M rs us ∧ (∀ y, mget M' y = none ∨ mget M' y = mget M y) ∧ (∀ y, has [(b, some (Blk.box t cs))] y ↔ has M' y) ∧ (∀ y k, mget M' y = some k → k.ok M') ∧ (∀ t ∈ us, t.ok M') ∧ (us = ts ∧ mget M' b = some (.box t cs')) := by
    refine ⟨ts, [(b, some (.box t cs'))], h, fun y => ?_, fun y => ?_, fun y k hk => ?_, fun t ht => TV.pure_ok (hp t ht), rfl, g⟩
    · by_cases e : b = y
      · subst e; rw [g, hM]; exact .inr rfl
      · rw [mget_cons, if_neg e]; exact .inl rfl
    · unfold has
      rw [mget_cons, mget_cons]
      split <;> simp
    · obtain ⟨_, hk'⟩ := mget_one hk
      obtain rfl := Option.some.inj hk'
      exact fun c hc => CV.pure_ok (hpc c hc)
  rcases he with rfl | rfl
  · exact this
  · exact this

/-! ### Values, compared -/
def EqV (P : Program) (h : Nat) (t : TypeId) (x y : TV) (r : Bool) : Prop :=
  ∀ d, h < d → ∀ γ Pr w u v, TRep γ Pr w x u → TRep γ Pr w y v → (Op.equalIn d t u v).run P w = .ok r w

theorem EqV.int {T : TypeId → Option TyI} (hT : TOk P T) {t : TypeId} {s b : Nat} {z : Value} {k k' : IntKind} {m n : Int} (ht : T t = some ⟨.int k', s, b, z⟩) : EqV P 0 t (.one (.d (.sc (.int k m)))) (.one (.d (.sc (.int k n)))) (decide (m = n)) := fun d hd γ Pr w u v ⟨_, hu⟩ ⟨_, hv⟩ => by
  obtain ⟨d, rfl⟩ : ∃ e, d = e + 1 := ⟨d - 1, by omega⟩
  subst hu hv
  rw [run_equalIn_int w d t k k' m n (hT _ _ ht).1]
  rfl
theorem EqV.bool {T : TypeId → Option TyI} (hT : TOk P T) {t : TypeId} {s b : Nat} {z : Value} {m n : Bool} (ht : T t = some ⟨.bool, s, b, z⟩) : EqV P 0 t (.one (.d (.sc (.bool m)))) (.one (.d (.sc (.bool n)))) (decide (m = n)) := fun d hd γ Pr w u v ⟨_, hu⟩ ⟨_, hv⟩ => by
  obtain ⟨d, rfl⟩ : ∃ e, d = e + 1 := ⟨d - 1, by omega⟩
  subst hu hv
  rw [run_equalIn_bool' w d t m n (hT _ _ ht).1]
  cases m <;> cases n <;> rfl

theorem EqV.items {T : TypeId → Option TyI} (hT : TOk P T) {e : TypeId} {j : TyI} {h d : Nat} (hd : h < d) (hj : T e = some j) {xs ys : List CV} {us vs : List Value} (hu : LRep γ Pr w xs us) (hv : LRep γ Pr w ys vs) (r : Nat → Bool) : ∀ (is : List Nat),
    (∀ i ∈ is, ∃ x y, (if aggD j.desc then i * j.size + j.size ≤ xs.length ∧ x = .agg ((xs.drop (i * j.size)).take j.size) else ∃ c, xs[i * j.size]? = some c ∧ x = .one c) ∧
      (if aggD j.desc then i * j.size + j.size ≤ ys.length ∧ y = .agg ((ys.drop (i * j.size)).take j.size) else ∃ c, ys[i * j.size]? = some c ∧ y = .one c) ∧ EqV P h e x y (r i)) →
    (Op.eqItems d e j.size us.toArray vs.toArray is).run P w = .ok (is.all r) w
  | [], _ => by simp [Op.eqItems]
  | i :: is, hall => by
    obtain ⟨x, y, hx, hy, he⟩ := hall i (by simp)
    obtain ⟨u, hu1, hu2⟩ := run_part (P := P) hT hj hu hx
    obtain ⟨v, hv1, hv2⟩ := run_part (P := P) hT hj hv hy
    have h3 := he d hd γ Pr w u v hu2 hv2
    have ih := EqV.items hT hd hj hu hv r is fun i hi => hall i (by simp [hi])
    simp only [Op.eqItems, Sem.run_bind, hu1, hv1, h3, Result.andThen_ok]
    cases hr : r i
    · simp [hr]
    · simpa [hr] using ih

theorem cellsOf_of {T : TypeId → Option TyI} (hT : TOk P T) {e : TypeId} {j : TyI} (hj : T e = some j) : P.cellsOf e = j.size := by
  obtain ⟨_, info, h1, h2, _⟩ := hT _ _ hj
  simp [Program.cellsOf, h1, h2]

theorem EqV.array {T : TypeId → Option TyI} (hT : TOk P T) {t e : TypeId} {s b h n : Nat} {z : Value} {j : TyI} (ht : T t = some ⟨.array n e, s, b, z⟩) (hj : T e = some j) {xs ys : List CV} (r : Nat → Bool)
    (hall : ∀ i, i < n → ∃ x y, (if aggD j.desc then i * j.size + j.size ≤ xs.length ∧ x = .agg ((xs.drop (i * j.size)).take j.size) else ∃ c, xs[i * j.size]? = some c ∧ x = .one c) ∧
      (if aggD j.desc then i * j.size + j.size ≤ ys.length ∧ y = .agg ((ys.drop (i * j.size)).take j.size) else ∃ c, ys[i * j.size]? = some c ∧ y = .one c) ∧ EqV P h e x y (r i)) :
    EqV P (h + 1) t (.agg xs) (.agg ys) ((List.range n).all r) := fun d hd γ Pr w u v ⟨us, hu, hul⟩ ⟨vs, hv, hvl⟩ => by
  obtain ⟨d, rfl⟩ : ∃ e, d = e + 1 := ⟨d - 1, by omega⟩
  subst hu hv
  obtain ⟨_, info, h1, h2, _⟩ := hT _ _ hj
  rw [run_equalIn_array w d us.toArray vs.toArray (hT _ _ ht).1 h1, cellsOf_of hT hj]
  exact EqV.items hT (by omega) hj hul hvl r _ fun i hi => hall i (by simpa using hi)

/-- Fields. -/
def EqFs (P : Program) (T : TypeId → Option TyI) (h : Nat) (xs ys : List CV) : List Field → Bool → Prop
  | [], r => r = true
  | f :: fs, r => ∃ j x y r1 r2, f.name ≠ "_" ∧ T f.type = some j ∧ (if aggD j.desc then f.offset + j.size ≤ xs.length ∧ x = .agg ((xs.drop f.offset).take j.size) else ∃ c, xs[f.offset]? = some c ∧ x = .one c) ∧
      (if aggD j.desc then f.offset + j.size ≤ ys.length ∧ y = .agg ((ys.drop f.offset).take j.size) else ∃ c, ys[f.offset]? = some c ∧ y = .one c) ∧ EqV P h f.type x y r1 ∧ EqFs P T h xs ys fs r2 ∧ r = (r1 && r2)

theorem EqFs.run {T : TypeId → Option TyI} (hT : TOk P T) {h d : Nat} (hd : h < d) {xs ys : List CV} {us vs : List Value} (hu : LRep γ Pr w xs us) (hv : LRep γ Pr w ys vs) : ∀ (fs : List Field) (r : Bool), EqFs P T h xs ys fs r → (Op.eqFields d us.toArray vs.toArray fs).run P w = .ok r w
  | [], r, hr => by
    obtain rfl := hr
    simp [Op.eqFields]
  | f :: fs, r, hr => by
    obtain ⟨j, x, y, r1, r2, hn, hj, hx, hy, he, hs, rfl⟩ := hr
    obtain ⟨u, hu1, hu2⟩ := run_part (P := P) hT hj hu hx
    obtain ⟨v, hv1, hv2⟩ := run_part (P := P) hT hj hv hy
    have h3 := he d hd γ Pr w u v hu2 hv2
    have ih := EqFs.run hT hd hu hv fs r2 hs
    simp only [Op.eqFields, hn, ne_eq, not_false_eq_true, if_true, Sem.run_bind, hu1, hv1, h3, Result.andThen_ok]
    cases r1
    · simp
    · simpa using ih

theorem EqV.struct {T : TypeId → Option TyI} (hT : TOk P T) {t : TypeId} {s b h : Nat} {z : Value} {fs : Array Field} (ht : T t = some ⟨.struct fs, s, b, z⟩) (hp : P.stoodInHeld t = false) {xs ys : List CV} {r : Bool} (hr : EqFs P T h xs ys fs.toList r) : EqV P (h + 1) t (.agg xs) (.agg ys) r := fun d hd γ Pr w u v ⟨us, hu, hul⟩ ⟨vs, hv, hvl⟩ => by
  obtain ⟨d, rfl⟩ : ∃ e, d = e + 1 := ⟨d - 1, by omega⟩
  subst hu hv
  have hu := (hT _ _ ht).1
  have hf : P.fieldsOf t = fs := by simp [Program.fieldsOf, hu]
  rw [run_equalIn_agg w d t us.toArray vs.toArray (by rw [hf]; exact hu) hp, hf]
  exact EqFs.run hT (by omega) hul hvl _ _ hr

theorem OpVal.nilCheckP {x : Operand} {b k : Nat} (ho : o.op = .nilCheck x) (hx : opv env x = .v (.one (.ptr b k))) : OpVal P N env M o (.v (.one (.ptr b k))) := fun γ Pr x0 a w h => by
  have h1 := h.opv x; have h2 := opv_ok h.slotB x
  rw [hx] at h1 h2
  have he : a.eval x = .pointer (some ⟨γ.blk b, k, none⟩) := h1
  refine ⟨h2, .pointer (some ⟨γ.blk b, k, none⟩), ?_, rfl⟩
  simp only [execOp, ho, he]
  rfl
theorem OpVal.nilCheckD {x : Operand} {n : Nat} {el : Nat → DV} (ho : o.op = .nilCheck x) (hx : opv env x = .v (.one (.d (.pp n el)))) : OpVal P N env M o (.v (.one (.d (.pp n el)))) := fun γ Pr x0 a w h => by
  have h1 := h.opv x
  rw [hx] at h1
  obtain ⟨b, k, he, hc⟩ := h1
  refine ⟨trivial, .pointer (some ⟨b, k, none⟩), ?_, b, k, rfl, hc⟩
  simp only [execOp, ho, he]
  rfl
end
end Go.Proofs.Ytgjamldcglebjaa.DL
