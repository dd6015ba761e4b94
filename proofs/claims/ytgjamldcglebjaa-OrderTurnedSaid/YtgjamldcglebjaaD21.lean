/- A logic of data for Go functions: calls that hand back a row of one's own. No program in sight. -/
import Derived.Test.YtgjamldcglebjaaD20
namespace Go.Proofs.Ytgjamldcglebjaa.DL
open Go.RowKit

section
variable {P : Program} {N : Nat} {ops : Array Oper} {Q : DPost} {env : Env} {M M0 : Mem} {γ : Cn} {Pr : Prot} {x0 : Ctx} {w : World} {a : Act} {o : Oper} {rest : List Oper}

abbrev nilB (e : TypeId) (k : Nat) : Blk := .row e k 0 (.slice none 0 0) [] false
/-- The call hands back a row of n elements: from then on it is the caller's own. -/
def DCallsO (P : Program) (f : FuncId) (args : List TV) (b e k n : Nat) (cs : List CV) : Prop :=
  DCallsM P f args [(b, some (nilB e k))] (fun ts M' => ∃ v, ts = [.one (.row b v)] ∧ mget M' b = some (.row e k n v cs false))

theorem endQM.own {T : TypeId → Option TyI} {ex : Exit} (he : ex = .normal ∨ ex = .ret) {b e k n : Nat} {v : Value} {cs : List CV} {rs : List ResultVar} (h : ResTs T env M rs [.one (.row b v)]) (hM : mget M b = some (.row e k n v cs false)) (hpc : ∀ c ∈ cs, c.pure) :
    endQM T rs [(b, some (nilB e k))] (fun ts M' => ∃ v, ts = [.one (.row b v)] ∧ mget M' b = some (.row e k n v cs false)) ex env M := by
  have g : mget [(b, some (Blk.row e k n v cs false))] b = some (.row e k n v cs false) := by rw [mget_cons, if_pos rfl]
  have : ∃ us M', ResTs T env M rs us ∧ (∀ y, mget M' y = none ∨ mget M' y = mget M y) ∧ (∀ y, has [(b, some (nilB e k))] y ↔ has M' y) ∧ (∀ y k, mget M' y = some k → k.ok M') ∧ (∀ t ∈ us, t.ok M') ∧ (∃ v, us = [.one (.row b v)] ∧ mget M' b = some (.row e k n v cs false)) := by
    refine ⟨[.one (.row b v)], [(b, some (.row e k n v cs false))], h, fun y => ?_, fun y => ?_, fun y l hk => ?_, fun t ht => ?_, v, rfl, g⟩
    · by_cases e : b = y
      · subst e; rw [g, hM]; exact .inr rfl
      · rw [mget_cons, if_neg e]; exact .inl rfl
    · unfold has
      rw [mget_cons, mget_cons]
      split <;> simp
    · obtain ⟨_, hk'⟩ := mget_one hk
      obtain rfl := Option.some.inj hk'
      exact fun c hc => CV.pure_ok (hpc c hc)
    · simp at ht; subst ht; trivial
  rcases he with rfl | rfl
  · exact this
  · exact this

theorem DOps.callO (b : Nat) {d e k n : Nat} {cl : Call} {f : FuncId} {fn : Func} {c : Code} {cs : List CV} {args : List TV} (hg : gd ops env o = some true) (hd : o.dst = some d) (hN : Nat.blt d N = true) (ho : o.op = .call cl) (hcl : cl.callee = .value (.func f))
    (hf : P.funcs[f]? = some fn) (hb : fn.body = some c) (hn : (fn.name == "runtime.NumGoroutine") = false) (hx : opvs env cl.args.toList = some args) (hp : ∀ t ∈ args, t.pure)
    (hc : DCallsO P f args b e k n cs) (h : ∀ v, DOps P N M0 ops Q rest ((d, .v (.one (.row b v))) :: env) ((b, some (.row e k n v cs false)) :: M)) : DOps P N M0 ops Q (o :: rest) env M := by
  have hd' := dstOk_of hd hN
  refine DOps.nilRow b e k ?_
  refine DOps.callM [(b, some (nilB e k))] hg hd' ho hcl hf hb hn hx (fun y l hk => ?_) (fun _ _ _ _ _ _ y l hk => ?_) (fun _ _ _ _ _ _ t ht => TV.pure_ok (hp t ht)) hc (fun us M' hR hh Mn hMn => ?_) (fun M' hh => ?_)
  · obtain ⟨rfl, hk'⟩ := mget_one hk
    rw [mget_cons, if_pos rfl, hk']
  · obtain ⟨_, hk'⟩ := mget_one hk
    obtain rfl := Option.some.inj hk'
    exact fun c hc => by cases hc
  · obtain ⟨v, rfl, hM⟩ := hR
    rw [hd]
    refine DOps.weak (Wk.memo (fun i => .inr rfl) fun y => ?_) (h v)
    rw [mget_cons, hMn y, mget_cons]
    by_cases e : b = y
    · subst e; simp [hM]
    · rw [if_neg e, if_neg e, mget_cons, if_neg e]; rfl
  · refine ⟨(b, mget M' b) :: M, fun y => ?_⟩
    rw [mget_cons, mget_cons]
    by_cases e : b = y
    · subst e; simp
    · rw [if_neg e, if_neg e, mget_cons, if_neg e]; rfl
end
end Go.Proofs.Ytgjamldcglebjaa.DL
