/- A logic of data for Go functions: what is known behind a region's last operation, told once. No program in sight. -/
import Derived.Test.YtejdeonbibbchaaGreatDoorD15
import Derived.Laws.Strings
import Derived.Laws.Strings2
import Derived.Lib.Strings
import Derived.Deep.Slices
import Derived.ChangeOld
import Derived.Below
import Derived.Lib.AtoiErrMem
import Derived.WideLaws
import Derived.Laws.OwnMore
import Derived.Laws.MakeOwn
import Derived.Lib.Builder
import Derived.Lib.AppendStr
import Derived.Laws.Externs
import Derived.Laws.Entries
import Derived.ArgAppend
import Derived.OwnWalk
import Derived.Sort.OwnSortedInts
import Derived.Lib.SlicesCompact
import Derived.Lib.RowBridge
import Derived.Shelf.Spec.BitsCarry

set_option linter.unusedVariables false
set_option linter.unusedSimpArgs false
set_option linter.constructorNameAsVariable false
namespace Go.Proofs.YtejdeonbibbchaaGreatDoor.DL
open Go.RowKit

section
variable {P : Program} {N : Nat} {ops : Array Oper} {Q : DPost} {env : Env} {M M0 : Mem} {γ γ' : Cn} {Pr Pr' : Prot} {x0 : Ctx} {w w' : World} {a : Act} {o : Oper} {rest : List Oper}

theorem wpList_up {Q Q' : Exit → Act → World → Prop} (hq : ∀ e a w, Q e a w → Q' e a w) : ∀ (l : List Oper) (a : Act) (w : World), wpList P ops Q l a w → wpList P ops Q' l a w
  | [], _, _, h => hq _ _ _ h
  | o :: l, a, w, h => by
    unfold wpList at h ⊢
    split
    · rename_i hw
      rw [if_pos hw] at h
      exact h.imp (wp_exits (fun a w h => wpList_up hq l a w h) fun e a w _ h => hq e a w h) fun ⟨h2, a2, w2, h3⟩ => ⟨h2, a2, w2, hq _ _ _ h3⟩
    · rename_i hw
      rw [if_neg hw] at h
      exact wpList_up hq l _ w h

theorem DOps.cut {l : List Oper} (up : Env) (ds : List Nat) (mup : Mem) (hu : okE (mup ++ M) up) (hm : okM (mup ++ M) mup)
    (h1 : DOps P N M0 ops (fun e env' M' => e = .normal ∧ Sub (up ++ junks ds env) env' ∧ MSubX [] (mup ++ M) M') l env M)
    (h2 : ∀ env' M', Wk N M0 env' M' (up ++ junks ds env) (mup ++ M) → Q .normal env' M') : DOps P N M0 ops Q l env M := by
  intro x0 a w hx hat
  obtain ⟨γ, Pr, hrel, hfr⟩ := hat
  have hh := okM_has (M := M) mup hm
  refine wpList_up (fun e a' w' ⟨env', M', hat', he, hs, hms⟩ => ?_) l a w (h1 x0 a w hx ⟨γ, Pr, hrel, hfr⟩)
  subst he
  refine ⟨_, _, hat', ?_⟩
  refine h2 _ _ (Wk.both hs hms.sub (okE_lk _ _ hu fun i => ?_) (okM_get _ hm fun b k hk => Blk.ok_le hh (hrel.memB b k hk)) fun b hb => hh b (hfr.has b (by rw [hx]; exact hb)))
  rw [lk_junks]
  split
  · trivial
  · exact SV.ok_le hh (hrel.slotB i)
end
end Go.Proofs.YtejdeonbibbchaaGreatDoor.DL
set_option linter.unusedVariables false
set_option linter.unusedSimpArgs false
set_option linter.constructorNameAsVariable false
namespace Go.Proofs.YtejdeonbibbchaaGreatDoor.DL
open Go.RowKit

section
variable {P : Program} {N : Nat} {ops : Array Oper} {Q : DPost} {env : Env} {M M0 : Mem} {γ γ' : Cn} {Pr Pr' : Prot} {x0 : Ctx} {w w' : World} {a : Act} {o : Oper} {rest : List Oper}

/-- A row that has elements lies in a block. -/
theorem row_block {e : TypeId} {k n : Nat} {v : Value} {vs : List Value} (h : w.ownsRow 0 e k v n vs) (hn : 0 < n) : ∃ g cap cur, v = .slice (some ⟨g, 0, none⟩) n cap ∧ w.heap[g]? = some (.cells cur e (0, 0)) ∧ n ≤ cap ∧ cap ≤ maxLen ∧ cur.size = cap * k ∧ cur.toList.take (n * k) = vs := by
  rcases h.2 with ⟨_, h0⟩ | ⟨g, cap, cur, h1, _, h2, h3, h4, h5, h6⟩
  · omega
  · exact ⟨g, cap, cur, h1, h2, h3, h4, h5, h6⟩

/-- The address of an element. -/
theorem OpVal.indexAddrR {T : TypeId → Option TyI} (hT : TOk P T) {t e e' : TypeId} {i j : TyI} {x y : Operand} {b k n : Nat} {v : Value} {cs : List CV} {fz : Bool} {kd : IntKind} {q : Int} (ho : o.op = .indexAddr t x y) (ht : T t = some i) (hd : i.desc = .slice e) (hj : T e = some j)
    (hk : j.size = k) (hx : opv env x = .v (.one (.row b v))) (hm : mget M b = some (.row e' k n v cs fz)) (hy : opv env y = vI kd q) (h0 : 0 ≤ q) (h1 : q < n) : OpVal P N env M o (.v (.one (.rp b v (q.toNat * k)))) := fun γ Pr x0 a w h => by
  have h2 := h.opv x; have h4 := opI h hy
  rw [hx] at h2
  obtain ⟨vs, hown, _, _⟩ := h.mem b _ hm
  obtain ⟨g, cap, cur, hv, _⟩ := row_block hown (by omega)
  have he : a.eval x = .slice (some ⟨g, 0, none⟩) n cap := h2.1.trans hv
  refine ⟨trivial, .pointer (some ⟨g, q.toNat * k, none⟩), ?_, g, by rw [hv]; rfl, rfl⟩
  have hu := run_under (w := w) hT ht
  rw [hd] at hu
  simp only [execOp, ho, he, h4, Instr.indexAt, asIntOf, Sem.run_bind, Sem.run_pure, Result.andThen_ok, hu]
  simp [h0, h1, run_sizeOf hT hj, hk, Addr.add_mid]

theorem row_cell {e : TypeId} {k n : Nat} {v : Value} {vs : List Value} (h : w.ownsRow 0 e k v n vs) {g : Nat} (hg : v.ownBlock = some g) {i : Nat} {u : Value} (hu : vs[i]? = some u) : w.cell? ⟨g, i, none⟩ = some u := by
  rcases h.2 with ⟨rfl, _⟩ | ⟨g', cap, cur, rfl, _, h2, _, _, _, h6⟩
  · simp [Value.ownBlock] at hg
  · simp only [Value.ownBlock, Option.some.injEq] at hg
    subst hg
    rw [cell_of_row _ _ _ _ _ _ h2]
    rw [← h6] at hu
    rw [List.getElem?_take] at hu
    split at hu
    · simpa using hu
    · cases hu

/-- An element is written. -/
theorem DOps.storeR {T : TypeId → Option TyI} (hT : TOk P T) {t e : TypeId} {i : TyI} {x y : Operand} {b k n off : Nat} {v : Value} {cs cs' : List CV} {tv : TV} (hg : gd ops env o = some true) (hd : o.dst = none) (ho : o.op = .store t x y)
    (ht : T t = some i) (hx : opv env x = .v (.one (.rp b v off))) (hy : opv env y = .v tv) (hm : mget M b = some (.row e k n v cs false)) (hs : tv.cells.length = i.size) (hk : off + tv.cells.length ≤ cs.length)
    (hc : DL.splice cs off tv.cells = cs') (h : DOps P N M0 ops Q rest env ((b, some (.row e k n v cs' false)) :: M)) : DOps P N M0 ops Q (o :: rest) env M := by
  subst hc
  refine DOps.eff hg (fun x0 a w _ ⟨γ, Pr, hr, hp⟩ => ?_) h
  have h1 := hr.opv x; have h2 := hr.opv y; have h3 := opv_ok hr.slotB y
  rw [hx] at h1; rw [hy] at h2 h3
  obtain ⟨us, hu, hl⟩ := TRep.cells h2
  obtain ⟨g, hgv, he⟩ := h1
  obtain ⟨vs, hown, hvl, hgg⟩ := hr.mem b _ hm
  obtain ⟨hmay, _, hnp⟩ := hgg g hgv
  have hnp : ∀ o, ¬ Pr g o := hnp rfl
  -- the block
  obtain ⟨g', cap, cur, hv, hheap, hnc, hcm, hcs, htake⟩ : ∃ g' cap cur, v = .slice (some ⟨g', 0, none⟩) n cap ∧ w.heap[g']? = some (.cells cur e (0, 0)) ∧ n ≤ cap ∧ cap ≤ maxLen ∧ cur.size = cap * k ∧ cur.toList.take (n * k) = vs := by
    rcases hown.2 with ⟨hv, _⟩ | ⟨g', cap, cur, h1, _, h2, h3, h4, h5, h6⟩
    · rw [hv] at hgv; simp [Value.ownBlock] at hgv
    · exact ⟨g', cap, cur, h1, h2, h3, h4, h5, h6⟩
  obtain rfl : g' = g := by rw [hv] at hgv; simpa [Value.ownBlock] using hgv
  have hul : us.length = tv.cells.length := hl.1
  have hvsl : vs.length = cs.length := hvl.1
  have hvs_le : vs.length ≤ cur.toList.length := by rw [← htake, List.length_take]; omega
  have hcur : cur = cur.toList.toArray := by simp
  rw [hcur] at hheap
  have hfar : ∀ q, q ≠ g' → (w.setCells g' off us).heap[q]? = w.heap[q]? := fun q hq => heap_setCells_far _ q hq us off w
  have K : Kept Pr w Pr (w.setCells g' off us) := ⟨fun _ _ x => x, fun q o hp => heap_cell (hfar q (fun e => hnp o (by rw [← e]; exact hp))) o⟩
  have G := Cn.agree_refl M γ
  have hcok : ∀ c ∈ DL.splice cs off tv.cells, c.ok M := fun c hc => by
    obtain ⟨i, hi⟩ := List.getElem?_of_mem hc
    rw [splice_get _ _ _ _ hk] at hi
    split at hi
    · exact TV.cells_ok h3 c (List.mem_of_getElem? hi)
    · exact hr.memB b _ hm c (List.mem_of_getElem? hi)
  have hnk : vs.length = n * k := hown.1
  have hnew : BRep γ Pr (w.setCells g' off us) x0 b (.row e k n v (DL.splice cs off tv.cells) false) := by
    refine ⟨DL.splice vs off us, ⟨by rw [splice_length]; exact hnk, .inr ⟨g', cap, (DL.splice cur.toList off us).toArray, hv, Nat.zero_le _, heap_setCells _ us off w cur.toList e hheap, hnc, hcm, by simp [splice_length, hcs], ?_⟩⟩,
      LRep.move G K hcok (LRep.splice hvl hl off (by rw [hul] at *; omega)), fun q hq => ?_⟩
    · apply List.ext_getElem?
      intro i
      rw [List.getElem?_take, splice_get _ _ _ _ (show off + us.length ≤ vs.length by omega)]
      show (if i < n * k then (DL.splice cur.toList off us)[i]? else none) = _
      rw [splice_get _ _ _ _ (show off + us.length ≤ cur.toList.length by omega)]
      by_cases hi : i < n * k
      · rw [if_pos hi]
        split
        · rfl
        · rw [← htake, List.getElem?_take, if_pos hi]
      · rw [if_neg hi, if_neg (by omega), List.getElem?_eq_none (by omega)]
    · obtain ⟨a1, a2, a3⟩ := hgg q hq
      exact ⟨a1, a2, a3⟩
  have hsim := hr.below.setCells hmay us off
  have hrel := hr.setB (b := b) hsim (by rw [size_setCells]; exact Nat.le_refl _) K hnew hcok fun x l q hxb hmx hbx => by
    have hne : q ≠ g' := fun e => hr.apart b x _ l hm hmx (Ne.symm hxb) g' hgv (by rw [← e]; exact hbx)
    exact ⟨hfar q hne, fun e2 => hr.apart b x _ l hm hmx (Ne.symm hxb) q e2 hbx⟩
  refine ⟨undef, w.setCells g' off us, .inr ⟨?_, rfl⟩, γ, Pr, ?_, hp.setB K b _⟩
  · simp only [execOp, ho, he]
    rw [Sem.run_bind, run_storeAt hT ht hu (by rw [hl.1, hs]) hheap (by omega) hl.one]
    rfl
  · rw [hd]
    exact hrel

theorem OpVal.iaR {T : TypeId → Option TyI} (hT : TOk P T) {t e e' s0 b0 s1 b1 : Nat} {z0 z1 : Value} {d1 : TypeDesc} {x y : Operand} {b k n : Nat} {v : Value} {cs : List CV} {fz : Bool} {kd : IntKind} {q : Int} (ho : o.op = .indexAddr t x y) (ht : T t = some ⟨.slice e, s0, b0, z0⟩) (hj : T e = some ⟨d1, s1, b1, z1⟩)
    (hk : s1 = k) (hx : opv env x = .v (.one (.row b v))) (hm : mget M b = some (.row e' k n v cs fz)) (hy : opv env y = vI kd q) (h0 : 0 ≤ q) (h1 : q < n) : OpVal P N env M o (.v (.one (.rp b v (q.toNat * k)))) :=
  OpVal.indexAddrR hT ho ht rfl hj hk hx hm hy h0 h1

/-! ### Calls that are handed a row -/
/-- The call may turn the row as R says. -/
def DCallsR (P : Program) (f : FuncId) (e k n : Nat) (cs : List CV) (args rs : List TV) (R : List CV → Prop) : Prop :=
  ∀ b v, DCallsM P f (.one (.row b v) :: args) [(b, some (.row e k n v cs false))] (fun ts M' => ts = rs ∧ ∃ cs', mget M' b = some (.row e k n v cs' false) ∧ R cs')

theorem may_one {b : Nat} {l : Blk} (q : Nat) : Ctx.may ⟨w, Pr, γ, [(b, some l)]⟩ q ↔ w.heap.size ≤ q ∨ blockOf γ b l = some q := by
  constructor
  · rintro (h | ⟨y, l', hy, hl⟩)
    · exact .inl h
    · obtain ⟨rfl, hl'⟩ := mget_one hy
      obtain rfl := Option.some.inj hl'
      exact .inr hl
  · rintro (h | h)
    · exact .inl h
    · exact .inr ⟨b, l, by rw [mget_cons, if_pos rfl], h⟩
theorem LRep.pure {cs : List CV} {vs : List Value} (hp : ∀ c ∈ cs, c.pure) (h : LRep γ Pr w cs vs) : LRep γ' Pr w cs vs :=
  ⟨h.1, fun i c hc => let ⟨u, hu, hr⟩ := h.2 i c hc; ⟨u, hu, CRep.pure (hp c (List.mem_of_getElem? hc)) hr⟩⟩
/-- .. shown at one name. -/
theorem DCallsR.of0 {f : FuncId} {e k n : Nat} {cs : List CV} {args rs : List TV} {R : List CV → Prop} (hrs : ∀ t ∈ rs, t.pure) (hpc : ∀ c ∈ cs, c.pure) (hpa : ∀ t ∈ args, t.pure) (hR : ∀ cs', R cs' → ∀ c ∈ cs', c.pure)
    (h : ∀ v, DCallsM P f (.one (.row 0 v) :: args) [(0, some (.row e k n v cs false))] (fun ts M' => ts = rs ∧ ∃ cs', mget M' 0 = some (.row e k n v cs' false) ∧ R cs')) : DCallsR P f e k n cs args rs R := by
  intro b v γ Pr w vs hpr hm hok hts
  have hb : BRep γ Pr w ⟨w, Pr, γ, [(b, some (.row e k n v cs false))]⟩ b (.row e k n v cs false) := hm.mem b _ (by rw [mget_cons, if_pos rfl])
  have hmay : ∀ q, Ctx.may ⟨w, Pr, γ, [(0, some (.row e k n v cs false))]⟩ q ↔ Ctx.may ⟨w, Pr, γ, [(b, some (.row e k n v cs false))]⟩ q := fun q => by rw [may_one, may_one]; exact Iff.rfl
  obtain ⟨ws, ho, hl, hg⟩ := hb
  refine (h v γ Pr w vs hpr ⟨fun y l hy => ?_, fun y l hy => ?_, fun y y' l l' hy hy' hne => ?_⟩ (fun t ht => ?_) ⟨hts.1, fun i t ht => ?_⟩).mono fun ex w' ⟨us, ts, γ', Pr', M', h1, h2, h3, h4, h5, h6, h7, h8, h9, h10, h11, cs', h12, h13⟩ => ?_
  · obtain ⟨rfl, hl'⟩ := mget_one hy
    obtain rfl := Option.some.inj hl'
    exact ⟨ws, ho, hl, fun g hgg => ⟨(hmay g).2 (hg g hgg).1, (hg g hgg).2⟩⟩
  · obtain ⟨rfl, hl'⟩ := mget_one hy
    obtain rfl := Option.some.inj hl'
    exact fun c hc => CV.pure_ok (hpc c hc)
  · obtain ⟨rfl, _⟩ := mget_one hy
    obtain ⟨rfl, _⟩ := mget_one hy'
    exact absurd rfl hne
  · rcases List.mem_cons.1 ht with rfl | ht
    · trivial
    · exact TV.pure_ok (hpa t ht)
  · cases i with
    | zero =>
      simp at ht; subst ht
      obtain ⟨u, hu, hr⟩ := hts.2 0 _ rfl
      exact ⟨u, hu, hr⟩
    | succ i => exact hts.2 (i + 1) t (by simpa using ht)
  · have hp' := hR cs' h13
    obtain ⟨ws', ho', hl', hg'⟩ := h6.mem 0 _ h12
    refine ⟨us, ts, γ, Pr', [(b, some (.row e k n v cs' false))], h1, ⟨h2.os, h2.tape, h2.output, h2.size, fun q hq => h2.block q fun hm => hq ((hmay q).1 hm)⟩, ⟨h3.sub, fun x o hx => (h3.new x o hx).imp id (hmay x).1⟩, h4, h5, ⟨fun y l hy => ?_, fun y l hy => ?_, fun y y' l l' hy hy' hne => ?_⟩, Cn.agree_refl _ _, fun y => ?_, h9.pure (by rw [h11]; exact hrs), fun t ht => TV.pure_ok (hrs t (by rw [← h11]; exact ht)), h11, cs', by rw [mget_cons, if_pos rfl], h13⟩
    · obtain ⟨rfl, hl2⟩ := mget_one hy
      obtain rfl := Option.some.inj hl2
      exact ⟨ws', ho', hl'.pure hp', fun g hgg => ⟨(hmay g).1 (hg' g hgg).1, (hg' g hgg).2⟩⟩
    · obtain ⟨rfl, hl2⟩ := mget_one hy
      obtain rfl := Option.some.inj hl2
      exact fun c hc => CV.pure_ok (hp' c hc)
    · obtain ⟨rfl, _⟩ := mget_one hy
      obtain ⟨rfl, _⟩ := mget_one hy'
      exact absurd rfl hne
    · unfold has
      rw [mget_cons, mget_cons]
      split <;> simp

theorem DOps.callRow {b e k n : Nat} {v : Value} {cl : Call} {f : FuncId} {fn : Func} {c : Code} {cs : List CV} {args rs : List TV} {R : List CV → Prop} (hg : gd ops env o = some true) (hd : dstOk N o = true) (ho : o.op = .call cl) (hcl : cl.callee = .value (.func f))
    (hf : P.funcs[f]? = some fn) (hb : fn.body = some c) (hn : (fn.name == "runtime.NumGoroutine") = false) (hx : opvs env cl.args.toList = some (.one (.row b v) :: args)) (hm : mget M b = some (.row e k n v cs false)) (hp : ∀ t ∈ args, t.pure) (hpc : ∀ c ∈ cs, c.pure)
    (hc : DCallsR P f e k n cs args rs R) (h : ∀ cs', R cs' → DOps P N M0 ops Q rest (putd o.dst (ret1 rs) env) ((b, some (.row e k n v cs' false)) :: M)) : DOps P N M0 ops Q (o :: rest) env M := by
  refine DOps.callM [(b, some (.row e k n v cs false))] hg hd ho hcl hf hb hn hx (fun y l hk => ?_) (fun _ _ _ _ _ _ y l hk => ?_) (fun _ _ _ _ _ _ t ht => ?_) (hc b v) (fun us M' hR hh Mn hMn => ?_) (fun M' hh => ?_)
  · obtain ⟨rfl, hk'⟩ := mget_one hk
    rw [hm, hk']
  · obtain ⟨_, hk'⟩ := mget_one hk
    obtain rfl := Option.some.inj hk'
    exact fun c hc => CV.pure_ok (hpc c hc)
  · rcases List.mem_cons.1 ht with rfl | ht
    · trivial
    · exact TV.pure_ok (hp t ht)
  · obtain ⟨rfl, cs', hM, hRc⟩ := hR
    refine DOps.weak (Wk.memo (fun i => .inr rfl) fun y => ?_) (h cs' hRc)
    rw [mget_cons, hMn y, mget_cons]
    by_cases e : b = y
    · subst e; simp [hM]
    · rw [if_neg e, if_neg e]; rfl
  · refine ⟨(b, mget M' b) :: M, fun y => ?_⟩
    rw [mget_cons, mget_cons]
    by_cases e : b = y
    · subst e; simp
    · rw [if_neg e, if_neg e]; rfl

theorem endQM.row {T : TypeId → Option TyI} {ex : Exit} (he : ex = .normal ∨ ex = .ret) {b e k n : Nat} {v : Value} {cs cs' : List CV} {rs rs' : List ResultVar} {ts : List TV} {R : List CV → Prop} (hrs : rs = rs') (h : ResTs T env M rs' ts) (hp : ∀ t ∈ ts, t.pure) (hM : mget M b = some (.row e k n v cs' false)) (hpc : ∀ c ∈ cs', c.pure) (hR : R cs') :
    endQM T rs [(b, some (.row e k n v cs false))] (fun ts' M' => ts' = ts ∧ ∃ cs', mget M' b = some (.row e k n v cs' false) ∧ R cs') ex env M := by
  subst hrs
  have g : mget [(b, some (Blk.row e k n v cs' false))] b = some (.row e k n v cs' false) := by rw [mget_cons, if_pos rfl]
  have : ∃ us M', ResTs T env M rs us ∧ (∀ y, mget M' y = none ∨ mget M' y = mget M y) ∧ (∀ y, has [(b, some (Blk.row e k n v cs false))] y ↔ has M' y) ∧ (∀ y k, mget M' y = some k → k.ok M') ∧ (∀ t ∈ us, t.ok M') ∧ (us = ts ∧ ∃ cs', mget M' b = some (.row e k n v cs' false) ∧ R cs') := by
    refine ⟨ts, [(b, some (.row e k n v cs' false))], h, fun y => ?_, fun y => ?_, fun y l hk => ?_, fun t ht => TV.pure_ok (hp t ht), rfl, cs', g, hR⟩
    · by_cases e : b = y
      · subst e; rw [g, hM]; exact .inr rfl
      · rw [mget_cons, if_neg e]; exact .inl rfl
    · unfold has
      rw [mget_cons, mget_cons]
      split <;> simp
    · obtain ⟨_, hk'⟩ := mget_one hk
      obtain rfl := Option.some.inj hk'
      exact fun c hc => CV.pure_ok (hpc c hc)
  rcases he with rfl | rfl
  · exact this
  · exact this
end
end Go.Proofs.YtejdeonbibbchaaGreatDoor.DL
set_option linter.unusedVariables false
set_option linter.unusedSimpArgs false
set_option linter.constructorNameAsVariable false
namespace Go.Proofs.YtejdeonbibbchaaGreatDoor.DL
open Go.RowKit

abbrev vT (l : List UInt8) : SV := .v (.one (.d (.sc (.string ⟨l.toArray⟩))))
abbrev tT (l : List UInt8) : TV := .one (.d (.sc (.string ⟨l.toArray⟩)))
def CV.isD : CV → Bool
  | .d _ => true
  | _ => false
theorem pure_aggB {cs : List CV} (h : cs.all CV.isD = true) : (TV.agg cs).pure := fun c hc => by
  have := List.all_eq_true.1 h c hc
  cases c <;> first | trivial | cases this
theorem ba_list (s : ByteArray) : (⟨s.data.toList.toArray⟩ : ByteArray) = s := by cases s; simp
theorem ba_toList (l : List UInt8) : (⟨l.toArray⟩ : ByteArray).toList = l := by rw [Lib.toList_data]

section
variable {P : Program} {N : Nat} {ops : Array Oper} {Q : DPost} {env : Env} {M M0 : Mem} {γ : Cn} {Pr : Prot} {x0 : Ctx} {w : World} {a : Act} {o : Oper} {rest : List Oper}

theorem opT (h : Rel γ Pr x0 N env M a w) {x : Operand} {l : List UInt8} (hx : opv env x = vT l) : a.eval x = .string ⟨l.toArray⟩ := by
  have h1 := h.opv x; rw [hx] at h1; exact h1.2

theorem ba_append (l m : List UInt8) : (⟨l.toArray⟩ : ByteArray) ++ ⟨m.toArray⟩ = ⟨(l ++ m).toArray⟩ := by
  apply ByteArray.ext
  simp

theorem OpVal.cat {t t' : TypeId} {x y : Operand} {l m : List UInt8} (ho : o.op = .binOp .add t x y t') (hx : opv env x = vT l) (hy : opv env y = vT m)
    (h : l.length + m.length ≤ 9223372036854775807) : OpVal P N env M o (vT (l ++ m)) :=
  OpVal.of_run (v := .string ⟨(l ++ m).toArray⟩) trivial fun γ Pr x0 a w hr => ⟨by
    have hs : ¬ ((((⟨l.toArray⟩ : ByteArray).size + (⟨m.toArray⟩ : ByteArray).size : Nat) : Int) > IntKind.i64.max) := by
      have e : IntKind.i64.max = 9223372036854775807 := by decide
      rw [e]; simp only [ByteArray.size, List.size_toArray]; omega
    simp only [execOp, ho, opT hr hx, opT hr hy, eqGuard_at_string, binOp, Op.stringOp, if_neg hs, ba_append, Sem.run_bind, Sem.run_pure, Result.andThen_ok], rfl, rfl⟩
theorem OpVal.eqlS {t t' : TypeId} {x y : Operand} {l m : List UInt8} (ho : o.op = .binOp .eql t x y t') (hx : opv env x = vT l) (hy : opv env y = vT m) : OpVal P N env M o (vB (decide (l = m))) :=
  OpVal.of_run (v := .bool (decide (l = m))) trivial fun γ Pr x0 a w h => ⟨by
    simp only [execOp, ho, opT h hx, opT h hy, eqGuard_at_string, binOp, Op.stringOp, ba_toList, Sem.run_bind, Sem.run_pure, Result.andThen_ok]
    by_cases e : l = m <;> simp [e], rfl, rfl⟩
theorem OpVal.neqS {t t' : TypeId} {x y : Operand} {l m : List UInt8} (ho : o.op = .binOp .neq t x y t') (hx : opv env x = vT l) (hy : opv env y = vT m) : OpVal P N env M o (vB (!decide (l = m))) :=
  OpVal.of_run (v := .bool (!decide (l = m))) trivial fun γ Pr x0 a w h => ⟨by
    simp only [execOp, ho, opT h hx, opT h hy, eqGuard_at_string, binOp, Op.stringOp, ba_toList, Sem.run_bind, Sem.run_pure, Result.andThen_ok]
    by_cases e : l = m <;> simp [e], rfl, rfl⟩

theorem OpVal.eqlST {t t' : TypeId} {x y : Operand} {l m : List UInt8} (ho : o.op = .binOp .eql t x y t') (hx : opv env x = vT l) (hy : opv env y = vT m) (h : l = m) : OpVal P N env M o (vB true) := by
  have := OpVal.eqlS (P := P) (N := N) (M := M) ho hx hy
  rwa [decide_eq_true h] at this
theorem OpVal.eqlSF {t t' : TypeId} {x y : Operand} {l m : List UInt8} (ho : o.op = .binOp .eql t x y t') (hx : opv env x = vT l) (hy : opv env y = vT m) (h : ¬ l = m) : OpVal P N env M o (vB false) := by
  have := OpVal.eqlS (P := P) (N := N) (M := M) ho hx hy
  rwa [decide_eq_false h] at this
theorem OpVal.neqST {t t' : TypeId} {x y : Operand} {l m : List UInt8} (ho : o.op = .binOp .neq t x y t') (hx : opv env x = vT l) (hy : opv env y = vT m) (h : ¬ l = m) : OpVal P N env M o (vB true) := by
  have := OpVal.neqS (P := P) (N := N) (M := M) ho hx hy
  rwa [decide_eq_false h] at this
theorem OpVal.neqSF {t t' : TypeId} {x y : Operand} {l m : List UInt8} (ho : o.op = .binOp .neq t x y t') (hx : opv env x = vT l) (hy : opv env y = vT m) (h : l = m) : OpVal P N env M o (vB false) := by
  have := OpVal.neqS (P := P) (N := N) (M := M) ho hx hy
  rwa [decide_eq_true h] at this
theorem OpVal.lenT {T : TypeId → Option TyI} (hT : TOk P T) {t : TypeId} {i : TyI} {x : Operand} {l : List UInt8} {cl : Call} (ho : o.op = .call cl) (hcl : cl.callee = .builtin .len) (hargs : cl.args = #[x]) (hty : cl.argTypes = #[t])
    (ht : T t = some i) (hd : i.desc = .string) (hx : opv env x = vT l) : OpVal P N env M o (vI .i64 l.length) := OpVal.lenS hT ho hcl hargs hty ht hd hx

theorem OpVal.idxT {T : TypeId → Option TyI} (hT : TOk P T) {t : TypeId} {i : TyI} {x y : Operand} {l : List UInt8} {kd : IntKind} {n : Int} {b : UInt8} (ho : o.op = .index t x y) (ht : T t = some i) (hd : i.desc = .string)
    (hx : opv env x = vT l) (hy : opv env y = vI kd n) (h0 : 0 ≤ n) (hb : l[n.toNat]? = some b) : OpVal P N env M o (vI .u8 b.toNat) :=
  OpVal.of_run (v := .int .u8 b.toNat) trivial fun γ Pr x0 a w h => by
    have hu := run_under (w := w) hT ht
    rw [hd] at hu
    obtain ⟨hlt, he⟩ := List.getElem?_eq_some_iff.1 hb
    refine ⟨?_, rfl, rfl⟩
    simp only [execOp, ho, opT h hx, opI h hy, Sem.run_bind, Instr.index, asIntOf, Sem.run_pure, Result.andThen_ok, hu, if_pos h0]
    have : (⟨l.toArray⟩ : ByteArray)[n.toNat]? = some b := by
      rw [ByteArray.getElem?_lt' _ _ (by simpa [ByteArray.size] using hlt)]
      show some ((l.toArray)[n.toNat]'_) = some b
      simp [he]
    rw [this]
    simp

theorem ba_extract (l : List UInt8) (i j : Nat) : (⟨l.toArray⟩ : ByteArray).extract i j = ⟨((l.take j).drop i).toArray⟩ := by
  apply ByteArray.ext
  apply Array.ext'
  simp [ByteArray.data_extract, List.extract_eq_take_drop, List.drop_take]

theorem OpVal.sliceT {T : TypeId → Option TyI} (hT : TOk P T) {t : TypeId} {i : TyI} {x : Operand} {lo hi : Option Operand} {l : List UInt8} {b e : Nat} (ho : o.op = .slice t x lo hi none) (ht : T t = some i) (hd : i.desc = .string)
    (hx : opv env x = vT l) (hlo : match lo with | none => b = 0 | some y => ∃ kd, opv env y = vI kd b) (hhi : match hi with | none => e = l.length | some y => ∃ kd, opv env y = vI kd e) (h1 : b ≤ e) (h2 : e ≤ l.length) :
    OpVal P N env M o (vT ((l.take e).drop b)) :=
  OpVal.of_run (v := .string ⟨((l.take e).drop b).toArray⟩) trivial fun γ Pr x0 a w hr => by
    have hu := run_under (w := w) hT ht
    rw [hd] at hu
    refine ⟨?_, rfl, rfl⟩
    have hsz : (⟨l.toArray⟩ : ByteArray).size = l.length := by simp [ByteArray.size]
    have hb : (Instr.sliceBounds false l.length l.length (lo.map a.eval) (hi.map a.eval) none).run P w = .ok (b, e, l.length) w := by
      unfold Instr.sliceBounds
      cases hi with
      | none =>
        subst hhi
        cases lo with
        | none => subst hlo; simp
        | some y =>
          obtain ⟨kd, hy⟩ := hlo
          simp only [Option.map_some, Option.map_none, opI hr hy]
          simp [Instr.sliceBound, asIntOf, h1]
      | some z =>
        obtain ⟨kd', hz⟩ := hhi
        cases lo with
        | none =>
          subst hlo
          simp only [Option.map_some, Option.map_none, opI hr hz]
          simp [Instr.sliceBound, asIntOf, h2]
        | some y =>
          obtain ⟨kd, hy⟩ := hlo
          simp only [Option.map_some, opI hr hy, opI hr hz]
          simp [Instr.sliceBound, asIntOf, h1, h2]
    simp only [execOp, ho, opT hr hx]
    simp only [Instr.sliceAt, Sem.run_bind, hu, Result.andThen_ok, Instr.slice, Option.map_none, hsz, hb, Sem.run_pure, Option.isSome_none, Bool.false_eq_true, if_false, ba_extract]

theorem OpVal.conv {T : TypeId → Option TyI} (hT : TOk P T) {t t' : TypeId} {i i' : TyI} {x : Operand} {k k' : IntKind} {n : Int} (ho : o.op = .convert t t' x) (ht : T t = some i) (hd : i.desc = .int k) (ht' : T t' = some i') (hd' : i'.desc = .int k')
    (hx : opv env x = vI k n) : OpVal P N env M o (vI k' (k'.wrap n)) :=
  OpVal.of_run (v := .int k' (k'.wrap n)) trivial fun γ Pr x0 a w h => ⟨by
    have hu := run_under (w := w) hT ht
    have hu' := run_under (w := w) hT ht'
    rw [hd] at hu
    rw [hd'] at hu'
    simp only [execOp, ho, opI h hx, convert, Sem.run_bind, hu, hu', Result.andThen_ok, Conv.intToInt, Sem.run_pure], rfl, rfl⟩

/-- A contract of the library's whose result is a scalar. -/
theorem DCalls.lib1 {f : FuncId} {args : List TV} {r : Value} (h1 : r.oneCell' = true)
    (h : ∀ Pr w vs, PV Pr w → TsRep γ0 Pr w args vs → Calls P f vs.toArray w fun e w' => e = .returned r ∧ Below w.heap.size w w') : DCalls P f args fun ts => ts = [.one (.d (.sc r))] := by
  intro Pr w vs hp hr
  refine (h Pr w vs hp hr).mono fun e w' ⟨he, hb⟩ => ⟨[r], _, Pr, he, hb, PExt.refl _ _, fun b o hx => Nat.lt_of_lt_of_le (hp b o hx) hb.size, ⟨rfl, fun i t ht => ?_⟩, ?_, rfl⟩
  · match i, ht with
    | 0, ht => simp at ht; subst ht; exact ⟨r, rfl, h1, rfl⟩
    | i + 1, ht => simp at ht
  · intro t ht
    simp at ht
    subst ht
    trivial

theorem TsRep.inv {t : TV} {ts : List TV} {vs : List Value} (h : TsRep γ Pr w (t :: ts) vs) : ∃ v us, vs = v :: us ∧ TRep γ Pr w t v ∧ TsRep γ Pr w ts us := by
  obtain ⟨hl, hh⟩ := h
  obtain ⟨u, hu, hr⟩ := hh 0 t rfl
  match vs, hl with
  | v :: us, hl => simp at hu; subst hu; exact ⟨v, us, rfl, hr, by simpa using hl, fun i t ht => hh (i + 1) t ht⟩
theorem TsRep.inv0 {vs : List Value} (h : TsRep γ Pr w [] vs) : vs = [] := List.eq_nil_of_length_eq_zero h.1
theorem TRep.sc {v u : Value} (h : TRep γ Pr w (.one (.d (.sc v))) u) : u = v := h.2

/-- A list of strings. -/
def elS (L : List (List UInt8)) : Nat → Nat → DV := fun i _ => .sc (.string ⟨(L.getD i []).toArray⟩)
abbrev lS (L : List (List UInt8)) : DV := .sl L.length 1 (elS L)
abbrev tL (L : List (List UInt8)) : TV := .one (.d (lS L))
abbrev dS (l : List UInt8) : DV := .sc (.string ⟨l.toArray⟩)
theorem OpVal.ldS {T : TypeId → Option TyI} (hT : TOk P T) {t s0 b0 n m : Nat} {z0 : Value} {d0 : TypeDesc} {x : Operand} {L : List (List UInt8)} (ho : o.op = .load t x) (ht : T t = some ⟨d0, s0, b0, z0⟩) (ha : aggD d0 = false) (hx : opv env x = .v (.one (.d (.pp 1 (elS L n))))) (hn : n = m) :
    OpVal P N env M o (vT (L.getD m [])) := by
  subst hn
  exact OpVal.ld hT ho ht ha hx (by omega) rfl
theorem strs_flat (L : List (List UInt8)) : ∀ p, p < L.length → ∀ q, q < 1 → (L.map dS)[p * 1 + q]? = some (elS L p q) := fun p hp q hq => by
  obtain rfl : q = 0 := by omega
  rw [Nat.mul_one, Nat.add_zero, List.getElem?_map, List.getElem?_eq_getElem hp]
  simp [elS, List.getD_eq_getElem?_getD, hp]
theorem strs_snoc (L : List (List UInt8)) (x : List UInt8) : (L.map dS).map CV.d ++ [dS x].map CV.d = ((L ++ [x]).map dS).map CV.d := by simp
theorem one_str (x : List UInt8) : ∀ p, p < 1 → ∀ q, q < 1 → ([dS x] : List DV)[p * 1 + q]? = some (dS x) := fun p hp q hq => by
  obtain rfl : q = 0 := by omega
  obtain rfl : p = 0 := by omega
  rfl
end
end Go.Proofs.YtejdeonbibbchaaGreatDoor.DL
set_option linter.unusedVariables false
set_option linter.unusedSimpArgs false
set_option linter.constructorNameAsVariable false
namespace Go.Proofs.YtejdeonbibbchaaGreatDoor.DL
open Go Go.RowKit Go.ChangeShapes Go.WideShapes Go.Deep

/-- All that was there at the begin is never written. -/
def inW (W : World) : Prot := fun b _ => b < W.heap.size
/-- Cells, as data. -/
def Cells (W : World) (ds : List DV) (cs : List Value) : Prop := cs.length = ds.length ∧ ∀ (i : Nat) d, ds[i]? = some d → ∃ u, cs[i]? = some u ∧ DRep (inW W) W d u
theorem Cells.nil (W : World) : Cells W [] [] := ⟨rfl, fun i d h => by simp at h⟩
theorem Cells.append {W : World} {a b : List DV} {x y : List Value} (h : Cells W a x) (k : Cells W b y) : Cells W (a ++ b) (x ++ y) := by
  refine ⟨by rw [List.length_append, List.length_append, h.1, k.1], fun i d hd => ?_⟩
  by_cases hi : i < a.length
  · rw [List.getElem?_append_left hi] at hd
    obtain ⟨u, hu, hr⟩ := h.2 i d hd
    exact ⟨u, by rw [List.getElem?_append_left (by rw [h.1]; exact hi)]; exact hu, hr⟩
  · rw [List.getElem?_append_right (by omega)] at hd
    obtain ⟨u, hu, hr⟩ := k.2 _ d hd
    exact ⟨u, by rw [List.getElem?_append_right (by rw [h.1]; omega), h.1]; exact hu, hr⟩

structure Opens (P : Program) (t : TypeId) (Γ : List DV → Prop) : Prop where
  op : ∀ {H : Type} (enc : TypeId × Value → H) (W : World) (fuel : Nat) (cs : List Value) (x : DataW H × List MemPlace), DataW.trod enc P W 0 (fun _ => true) true fuel t cs = some x → ∃ ds, Γ ds ∧ Cells W ds cs

section
variable {P : Program} {t e : TypeId} {Γ Γ' : List DV → Prop}
theorem Opens.mono (h : Opens P t Γ) (hg : ∀ ds, Γ ds → Γ' ds) : Opens P t Γ' := ⟨fun enc W fuel cs x hx =>
  let ⟨ds, h1, h2⟩ := h.op enc W fuel cs x hx
  ⟨ds, hg ds h1, h2⟩⟩
theorem Cells.one {W : World} {v : Value} (h : v.oneCell' = true) : Cells W [.sc v] [v] := by
  refine ⟨rfl, fun i d hd => ?_⟩
  match i, hd with
  | 0, hd => simp at hd; subst hd; exact ⟨v, rfl, h, rfl⟩
  | i + 1, hd => simp at hd
theorem Opens.int {k : IntKind} (ht : P.underlying t = some (.int k)) : Opens P t (fun ds => ∃ n, ds = [.sc (.int k n)] ∧ (Lit.int k n).wf = true) := .mk fun enc W fuel cs x hx => by
  obtain ⟨n, rfl, _, hw⟩ := DataW.trod_int ht hx
  exact ⟨_, ⟨n, rfl, hw⟩, Cells.one rfl⟩
theorem Opens.bool (ht : P.underlying t = some .bool) : Opens P t (fun ds => ∃ b, ds = [.sc (.bool b)]) := .mk fun enc W fuel cs x hx => by
  obtain ⟨b, rfl, _⟩ := DataW.trod_bool ht hx
  exact ⟨_, ⟨b, rfl⟩, Cells.one rfl⟩
theorem Opens.string (ht : P.underlying t = some .string) : Opens P t (fun ds => ∃ s : ByteArray, ds = [.sc (.string s)] ∧ s.size ≤ maxLen) := .mk fun enc W fuel cs x hx => by
  obtain ⟨s, rfl, _, hs⟩ := DataW.trod_string ht hx
  exact ⟨_, ⟨s, rfl, hs⟩, Cells.one rfl⟩

/-- Parts, one behind the other. -/
theorem cells_parts {W : World} : ∀ (sizes : List Nat) (cs : List Value) (Γ : Nat → List DV → Prop), cs.length = sizes.sum →
    (∀ (i s : Nat), sizes[i]? = some s → ∃ ds, Γ i ds ∧ Cells W ds ((cs.drop (sizes.take i).sum).take s)) →
    ∃ l : List (List DV), l.length = sizes.length ∧ (∀ (i : Nat) p, l[i]? = some p → Γ i p) ∧ Cells W l.flatten cs
  | [], cs, Γ, hl, _ => by
    obtain rfl : cs = [] := List.eq_nil_of_length_eq_zero (by simpa using hl)
    exact ⟨[], rfl, fun i p h => by simp at h, Cells.nil W⟩
  | s :: ss, cs, Γ, hl, h => by
    obtain ⟨d0, g0, c0⟩ := h 0 s rfl
    simp only [List.take_zero, List.sum_nil, List.drop_zero] at c0
    rw [List.sum_cons] at hl
    obtain ⟨l, l1, l2, l3⟩ := cells_parts ss (cs.drop s) (fun i => Γ (i + 1)) (by rw [List.length_drop]; omega) fun i q hq => by
      obtain ⟨ds, g, c⟩ := h (i + 1) q (by simpa using hq)
      refine ⟨ds, g, ?_⟩
      rw [List.take_succ_cons, List.sum_cons] at c
      rw [List.drop_drop]
      exact c
    refine ⟨d0 :: l, by simp [l1], fun i p hp => ?_, ?_⟩
    · match i, hp with
      | 0, hp => simp at hp; subst hp; exact g0
      | i + 1, hp => exact l2 i p (by simpa using hp)
    · rw [List.flatten_cons, ← List.take_append_drop s cs]
      exact Cells.append c0 l3

theorem sum_take_replicate (k : Nat) : ∀ (n i : Nat), i ≤ n → ((List.replicate n k).take i).sum = i * k := fun n i h => by
  rw [List.take_replicate, Nat.min_eq_left h, List.sum_replicate_nat]

theorem Opens.array {n k : Nat} (ht : P.underlying t = some (.array n e)) (hk : P.cellsOf e = k) (hs : P.cellsOf t = n * k) (h : Opens P e Γ) :
    Opens P t (fun ds => ∃ l : List (List DV), l.length = n ∧ (∀ p ∈ l, Γ p) ∧ ds = l.flatten) := .mk fun enc W fuel cs x hx => by
  cases fuel with
  | zero => simp [DataW.trod] at hx
  | succ m =>
    unfold DataW.trod at hx
    rw [ht] at hx
    have hx : (if cs.length = P.cellsOf t then ((List.range n).mapM fun i => DataW.trod enc P W 0 (fun _ => true) true m e ((cs.drop (i * P.cellsOf e)).take (P.cellsOf e))).map fun xs => (DataW.agg (xs.map (·.1)), xs.flatMap (·.2)) else none) = some x := by
      split at hx <;> simp_all
    split at hx
    · rename_i hl
      rw [Option.map_eq_some_iff] at hx
      obtain ⟨xs, hm, _⟩ := hx
      obtain ⟨l, l1, l2, l3⟩ := cells_parts (W := W) (List.replicate n k) cs (fun _ => Γ) (by rw [List.sum_replicate_nat, hl, hs]) fun i s hi => by
        obtain ⟨hin, rfl⟩ : i < n ∧ k = s := by
          rw [List.getElem?_replicate] at hi
          split at hi
          · rename_i h1; exact ⟨h1, by simpa using hi⟩
          · cases hi
        rw [sum_take_replicate k n i (by omega)]
        have hg := mapM_some_get hm i i (by simp [hin])
        have hlen : xs.length = n := by simpa using mapM_some_length hm
        rw [List.getElem?_eq_getElem (by omega), hk] at hg
        exact h.op enc W m _ _ hg
      refine ⟨l.flatten, ⟨l, by simpa using l1, fun p hp => ?_, rfl⟩, l3⟩
      obtain ⟨i, hi, rfl⟩ := List.getElem_of_mem hp
      exact l2 i _ (List.getElem?_eq_getElem hi)
    · cases hx

theorem Opens.struct {fs : Array Field} (ht : P.underlying t = some (.struct fs)) (sizes : List Nat) (hz : sizes = fs.toList.map fun f => P.cellsOf f.type) (ho : ∀ (i : Nat) f, fs[i]? = some f → f.offset = (sizes.take i).sum)
    (hs : P.cellsOf t = sizes.sum) (Γs : Nat → List DV → Prop) (h : ∀ (i : Nat) f, fs[i]? = some f → Opens P f.type (Γs i)) :
    Opens P t (fun ds => ∃ l : List (List DV), l.length = fs.size ∧ (∀ (i : Nat) p, l[i]? = some p → Γs i p) ∧ ds = l.flatten) := .mk fun enc W fuel cs x hx => by
  obtain ⟨xs, m, rfl, _, hl, hxl, hf⟩ := DataW.trod_struct ht hx
  obtain ⟨l, l1, l2, l3⟩ := cells_parts (W := W) sizes cs Γs (by rw [hl, hs]) fun i s hi => by
    rw [hz, List.getElem?_map, Option.map_eq_some_iff] at hi
    obtain ⟨f, hfi, rfl⟩ := hi
    have hfa : fs[i]? = some f := by rw [← hfi, Array.getElem?_toList]
    have hg := hf i f hfa
    have hil : i < fs.size := by
      rcases Nat.lt_or_ge i fs.size with h1 | h1
      · exact h1
      · rw [Array.getElem?_eq_none h1] at hfa; cases hfa
    rw [List.getElem?_eq_getElem (by omega), ho i f hfa] at hg
    exact (h i f hfa).op enc W m _ _ hg
  exact ⟨l.flatten, ⟨l, by rw [l1, hz]; simp, l2, rfl⟩, l3⟩

theorem Opens.slice {k : Nat} (ht : P.underlying t = some (.slice e)) (hk : P.cellsOf e = k) (h0 : 0 < k) (z : DV) (h : Opens P e Γ) :
    Opens P t (fun ds => ∃ l : List (List DV), l.length ≤ maxLen ∧ (∀ p ∈ l, Γ p ∧ p.length = k) ∧ ds = [.sl l.length k fun i j => (l.getD i []).getD j z]) := .mk fun enc W fuel cs x hx => by
  rcases open_slice ht hx with ⟨rfl, _⟩ | ⟨a, len, cap, m, n, D, Pl, rfl, _, hlc, hcm, hm, _, hel⟩
  · refine ⟨[.sl 0 k fun i j => (([] : List (List DV)).getD i []).getD j z], ⟨[], Nat.zero_le _, (fun p hp => by cases hp), rfl⟩, rfl, fun i d hd => ?_⟩
    match i, hd with
    | 0, hd =>
      simp at hd; subst hd
      exact ⟨_, rfl, none, 0, rfl, Nat.le_refl _, fun h => absurd h (Nat.lt_irrefl _)⟩
    | i + 1, hd => simp at hd
  · have hml : m = cap := by simpa using hm
    subst hml hk
    obtain ⟨F, hF⟩ := choose_lt (n := len) (p := fun i (q : List DV) => Γ q ∧ ∃ cs', W.cells? 0 (a.add (i * P.cellsOf e)) (P.cellsOf e) = some cs' ∧ Cells W q cs') fun i hi => by
      obtain ⟨cs', h1, h2⟩ := hel i (by omega)
      obtain ⟨ds, g, c⟩ := h.op enc W n cs' _ h2
      exact ⟨ds, g, cs', h1, c⟩
    have hFl : ∀ i, i < len → (F i).length = P.cellsOf e := fun i hi => by
      obtain ⟨_, cs', h1, h2⟩ := hF i hi
      rw [← h2.1]; exact (World.cells?_some h1).2.1
    refine ⟨_, ⟨(List.range len).map F, by simp; omega, fun p hp => ?_, rfl⟩, rfl, fun i d hd => ?_⟩
    · obtain ⟨i, hi, rfl⟩ := List.mem_map.1 hp
      exact ⟨(hF i (List.mem_range.1 hi)).1, hFl i (List.mem_range.1 hi)⟩
    · match i, hd with
      | i + 1, hd => simp at hd
      | 0, hd =>
        simp only [List.length_map, List.length_range, List.getElem?_cons_zero, Option.some.injEq] at hd
        subst hd
        refine ⟨_, rfl, some a, _, rfl, hlc, fun hlen => ?_⟩
        have hcell : ∀ i, i < len → ∀ j, j < P.cellsOf e → ∃ u, W.cell? (a.add (i * P.cellsOf e + j)) = some u ∧ DRep (inW W) W ((F i).getD j z) u := fun i hi j hj => by
          obtain ⟨_, cs', h1, h2⟩ := hF i hi
          obtain ⟨_, hcl, hc⟩ := World.cells?_some h1
          have hj' : j < (F i).length := by rw [hFl i hi]; exact hj
          obtain ⟨u, hu, hr⟩ := h2.2 j _ (List.getElem?_eq_getElem hj')
          refine ⟨u, by rw [← add_add, hc j hj, hu], ?_⟩
          rw [List.getD_eq_getElem?_getD, List.getElem?_eq_getElem hj', Option.getD_some]
          exact hr
        obtain ⟨u0, hu0, _⟩ := hcell 0 hlen 0 h0
        obtain ⟨b, o, spot⟩ := a
        have hspot : spot = none := by simpa [Addr.add] using World.cell?_spot hu0
        subst hspot
        refine ⟨b, o, rfl, fun i hi j hj => ?_⟩
        obtain ⟨u, hu, hr⟩ := hcell i hi j hj
        rw [add_plain] at hu
        refine ⟨?_, u, hu, ?_⟩
        · have := World.cells?_block (cells?_one (base := 0) (Nat.zero_le _) hu) (Nat.lt_succ_self 0)
          exact this
        · have : ((List.range len).map F).getD i [] = F i := by simp [List.getD_eq_getElem?_getD, hi]
          show DRep (inW W) W ((((List.range len).map F).getD i []).getD j z) u
          rw [this]; exact hr
end

/-! ### Arguments, and a law's call -/
section
variable {P : Program} {γ : Cn} {Pr : Prot} {W w : World}
theorem TsRep.nil : TsRep γ Pr w [] [] := ⟨rfl, fun i t h => by simp at h⟩
theorem TsRep.cons {t : TV} {u : Value} {ts : List TV} {us : List Value} (h : TRep γ Pr w t u) (k : TsRep γ Pr w ts us) : TsRep γ Pr w (t :: ts) (u :: us) := by
  refine ⟨by rw [List.length_cons, List.length_cons, k.1], fun i x hx => ?_⟩
  match i, hx with
  | 0, hx => simp at hx; subst hx; exact ⟨u, rfl, h⟩
  | i + 1, hx => exact k.2 i x (by simpa using hx)
theorem trep_agg {ds : List DV} {cs : Array Value} (h : Cells W ds cs.toList) : TRep γ (inW W) W (.agg (ds.map .d)) (.agg cs) := by
  refine ⟨cs.toList, rfl, by rw [List.length_map]; exact h.1, fun i c hc => ?_⟩
  rw [List.getElem?_map, Option.map_eq_some_iff] at hc
  obtain ⟨d, hd, rfl⟩ := hc
  exact h.2 i d hd
theorem trep_one {d : DV} {v : Value} (h : Cells W [d] [v]) : TRep γ (inW W) W (.one (.d d)) v := by
  obtain ⟨u, hu, hr⟩ := h.2 0 d rfl
  simp at hu; subst hu
  exact hr
/-- A law that answers true, as a walk. -/
theorem calls_of {f : FuncId} {args : List TV} {b : Bool} (h : DCalls P f args fun ts => ts = [bt b]) {vs : List Value} (hr : TsRep γ0 (inW W) W args vs) (hg : glbP (inW W) W) :
    Calls P f vs.toArray W fun e w' => e = .returned (.bool b) ∧ Below W.heap.size W w' :=
  (h (inW W) W vs ⟨fun b o hb => hb, hg⟩ hr).mono fun e w' ⟨us, ts, Pr', h1, h2, _, _, h5, _, h7⟩ => by
    subst h7
    obtain ⟨hl, hh⟩ := h5
    obtain ⟨u, hu, hr⟩ := hh 0 _ rfl
    match us, hl with
    | [u'], _ =>
      simp at hu; subst hu
      obtain ⟨_, rfl⟩ := hr
      exact ⟨h1, h2⟩
end
end Go.Proofs.YtejdeonbibbchaaGreatDoor.DL
set_option linter.unusedVariables false
set_option linter.unusedSimpArgs false
set_option linter.constructorNameAsVariable false
namespace Go.Proofs.YtejdeonbibbchaaGreatDoor.DL
open Go.RowKit

section
variable {P : Program} {N : Nat} {ops : Array Oper} {Q : DPost} {env : Env} {M M0 : Mem} {γ : Cn} {Pr : Prot} {x0 : Ctx} {w : World} {a : Act} {o : Oper} {rest : List Oper}

/-- An operation's value, its rule chosen later. -/
theorem DOps.valE {d : Nat} (hg : gd ops env o = some true) (hd : o.dst = some d) (hN : Nat.blt d N = true) (h : ∃ r, OpVal P N env M o r ∧ DOps P N M0 ops Q rest ((d, r) :: env) M) : DOps P N M0 ops Q (o :: rest) env M :=
  let ⟨_, h1, h2⟩ := h
  DOps.val hg hd hN h1 h2
theorem DDr.valE {k d : Nat} (hg : gd ops (restr env (o.looksAt ops)) o = some true) (hd : o.dst = some d) (hN : Nat.blt d N = true) (h : ∃ r, OpVal P N (restr env (o.looksAt ops)) M o r ∧ DDr P N M0 ops Q k rest ((d, r) :: env) M) : DDr P N M0 ops Q (k + 1) (o :: rest) env M :=
  let ⟨_, h1, h2⟩ := h
  DDr.val hg hd hN h1 h2
theorem DDr2.valE {l0 l : List Oper} {k0 k d : Nat} (hg : gd l0.toArray (restr env (o.looksAt l0.toArray)) o = some true) (hd : o.dst = some d) (hN : Nat.blt d N = true) (h : ∃ r, OpVal P N (restr env (o.looksAt l0.toArray)) M o r ∧ DDr2 P N M0 l0 Q k0 k l ((d, r) :: env) M) : DDr2 P N M0 l0 Q k0 (k + 1) (o :: l) env M :=
  let ⟨_, h1, h2⟩ := h
  DDr2.val hg hd hN h1 h2
theorem Sub.nil : Sub [] env := fun _ => .inl rfl
theorem DCode.keep {c : Code} (t : Env) (hs : Sub t env) (h : DCode P N M0 c Q t M) : DCode P N M0 c Q env M := DCode.weak (Wk.slots hs) h
theorem DOps.keep {l : List Oper} (t : Env) (hs : Sub t env) (h : DOps P N M0 ops Q l t M) : DOps P N M0 ops Q l env M := DOps.weak (Wk.slots hs) h

/-- A contract of the library. -/
theorem DCalls.libP {f : FuncId} {args : List TV} (ts : List TV)
    (h : ∀ Pr w vs, PV Pr w → TsRep γ0 Pr w args vs → Calls P f vs.toArray w fun e w' => ∃ us Pr', e = .returned (joined us) ∧ Below w.heap.size w w' ∧ PExt Pr Pr' (fun k => w.heap.size ≤ k) ∧ (∀ b o, Pr' b o → b < w'.heap.size) ∧ TsRep γ0 Pr' w' ts us)
    (hp : ∀ t ∈ ts, t.pure) : DCalls P f args fun us => us = ts := fun Pr w vs hpr hr =>
  (h Pr w vs hpr hr).mono fun _ _ ⟨us, Pr', h1, h2, h3, h4, h5⟩ => ⟨us, ts, Pr', h1, h2, h3, h4, h5, hp, rfl⟩
/-- Scalars. -/
theorem TsRep.scs (vs : List Value) (h : vs.all (·.oneCell') = true) : TsRep γ Pr w (vs.map fun v => .one (.d (.sc v))) vs := by
  refine ⟨by simp, fun i t ht => ?_⟩
  rw [List.getElem?_map, Option.map_eq_some_iff] at ht
  obtain ⟨v, hv, rfl⟩ := ht
  exact ⟨v, hv, List.all_eq_true.1 h v (List.mem_of_getElem? hv), rfl⟩

theorem OpVal.neNilT {T : TypeId → Option TyI} (hT : TOk P T) {t t' tx s0 b0 : Nat} {z0 : Value} {ms : Array (String × TypeId)} {x : Operand} {z : DV} (ho : o.op = .binOp .neq t x (.const .nilIface) t') (ht : T t = some ⟨.interface ms, s0, b0, z0⟩)
    (hx : opv env x = .v (.one (.d (.ifc tx z)))) : OpVal P N env M o (vB true) :=
  OpVal.of_run (v := .bool true) trivial fun γ Pr x0 a w h => ⟨by
    have h1 := h.opv x
    rw [hx] at h1
    obtain ⟨u, hu, _⟩ := h1
    have hm : P.underlying t = some (.interface (P.methodsAt t)) := by have := (hT _ _ ht).1; simp [Program.methodsAt, this]
    simp only [execOp, ho, hu, show a.eval (.const .nilIface) = Value.nilIface from rfl, eqGuard_at_iface, Sem.run_bind, Sem.run_pure, Result.andThen_ok, run_neq_held_nil w t tx u hm], rfl, rfl⟩
theorem OpVal.neNilF {T : TypeId → Option TyI} (hT : TOk P T) {t t' s0 b0 : Nat} {z0 : Value} {ms : Array (String × TypeId)} {x : Operand} (ho : o.op = .binOp .neq t x (.const .nilIface) t') (ht : T t = some ⟨.interface ms, s0, b0, z0⟩)
    (hx : opv env x = .v (.one (.d (.sc .nilIface)))) : OpVal P N env M o (vB false) :=
  OpVal.of_run (v := .bool false) trivial fun γ Pr x0 a w h => ⟨by
    have h1 := h.opv x
    rw [hx] at h1
    have hu := h1.2
    have hm : P.underlying t = some (.interface (P.methodsAt t)) := by have := (hT _ _ ht).1; simp [Program.methodsAt, this]
    simp only [execOp, ho, hu, show a.eval (.const .nilIface) = Value.nilIface from rfl, eqGuard_nil_constR, Sem.run_bind, Sem.run_pure, Result.andThen_ok, run_neq_nil_nil w t hm], rfl, rfl⟩
end
end Go.Proofs.YtejdeonbibbchaaGreatDoor.DL
set_option linter.unusedVariables false
set_option linter.unusedSimpArgs false
set_option linter.constructorNameAsVariable false
namespace Go.Proofs.YtejdeonbibbchaaGreatDoor.DL
open Go.RowKit

section
variable {P : Program} {N : Nat} {ops : Array Oper} {Q : DPost} {env : Env} {M M0 : Mem} {γ : Cn} {Pr : Prot} {x0 : Ctx} {w : World} {a : Act} {o : Oper} {rest : List Oper}

/-- Nothing is asked of a panic: there is none. -/
def NP (Q : DPost) : Prop := ∀ c env M, ¬ Q (.panic c) env M
theorem NP.thenQ {K : Env → Mem → Prop} (h : NP Q) : NP (thenQ K Q) := fun c env M hq => h c env M hq
theorem NP.seqQ {y : Code} (h : NP Q) : NP (seqQ P N M0 y Q) := fun c env M hq => h c env M hq
theorem NP.inBlockQ {id : Nat} (h : NP Q) : NP (inBlockQ id Q) := fun c env M hq => h c env M hq
theorem NP.endQ {T : TypeId → Option TyI} {rs : List ResultVar} {R : List TV → Prop} : NP (endQ T rs R) := fun _ _ _ hq => hq
theorem NP.endQM {T : TypeId → Option TyI} {rs : List ResultVar} {M1 : Mem} {R : List TV → Mem → Prop} : NP (endQM T rs M1 R) := fun _ _ _ hq => hq

/-- An operation's value, whatever the world. -/
def OpLz (P : Program) (N : Nat) (ops : Array Oper) (env : Env) (o : Oper) (r : SV) : Prop :=
  gd ops env o = some true ∧ ∀ γ Pr x0 a w M, Rel γ Pr x0 N env M a w → r.ok M ∧ ∃ v, (∀ w', (execOp a.eval o).run P w' = .ok (.value v) w') ∧ SRep γ Pr w r v

def noSel (o : Oper) : Bool := match o.op with | .select .. => false | _ => true
/-- Step by step: the first ones, of which the lazy ones' values hang on no world. -/
def DDr3 (P : Program) (N : Nat) (M0 : Mem) (l0 : List Oper) (Q : DPost) (k0 : Nat) (lz : List Nat) : Nat → Nat → List Oper → Env → Mem → Prop
  | _, 0, _, env, M => DAny P N M0 l0.toArray Q (l0.length - k0) (List.replicate k0 true ++ List.replicate (l0.length - k0) false).toArray env M
  | i, k + 1, o :: l, env, M => ∃ r d, o.dst = some d ∧ Nat.blt d N = true ∧ OpQ P N M0 l0.toArray (restr env (o.looksAt l0.toArray)) M o r ∧ (lz.contains i = true → OpLz P N l0.toArray (restr env (o.looksAt l0.toArray)) o r) ∧ DDr3 P N M0 l0 Q k0 lz (i + 1) k l ((d, r) :: env) M
  | _, _ + 1, [], _, _ => False

theorem DDr3.split {l0 : List Oper} {k0 : Nat} {lz : List Nat} : ∀ (k n : Nat) (l : List Oper) (env : Env), DDr3 P N M0 l0 Q k0 lz n k l env M → ∃ dr : List (Nat × SV), dr.length = k ∧ k ≤ l.length ∧
    (∀ (i d : Nat) (r : SV), dr[i]? = some (d, r) → ∃ o, l[i]? = some o ∧ o.dst = some d ∧ d < N ∧ OpQ P N M0 l0.toArray (restr ((dr.take i).reverse ++ env) (o.looksAt l0.toArray)) M o r ∧ (lz.contains (n + i) = true → OpLz P N l0.toArray (restr ((dr.take i).reverse ++ env) (o.looksAt l0.toArray)) o r)) ∧ DDr3 P N M0 l0 Q k0 lz (n + k) 0 [] (dr.reverse ++ env) M
  | 0, n, l, env, h => ⟨[], rfl, Nat.zero_le _, fun i d r hi => by simp at hi, h⟩
  | k + 1, n, [], env, h => h.elim
  | k + 1, n, o :: l, env, h => by
    obtain ⟨r, d, h1, h2, h3, hz, h4⟩ := h
    obtain ⟨dr, a1, a2, a3, a4⟩ := DDr3.split k (n + 1) l _ h4
    refine ⟨(d, r) :: dr, by simp [a1], by simpa using a2, fun i d' r' hi => ?_, by rw [show n + (k + 1) = n + 1 + k by omega]; simpa using a4⟩
    cases i with
    | zero =>
      simp at hi
      obtain ⟨rfl, rfl⟩ := hi
      exact ⟨o, rfl, h1, by simpa using h2, by simpa using h3, by simpa using hz⟩
    | succ i =>
      obtain ⟨o', b1, b2, b3, b4, b5⟩ := a3 i d' r' (by simpa using hi)
      exact ⟨o', by simpa using b1, b2, b3, by simpa using b4, by rw [show n + (i + 1) = n + 1 + i by omega]; simpa using b5⟩

section
variable {l0 l : List Oper} {k0 i k d : Nat} {lz : List Nat} {r : SV}
theorem DDr3.val (hz : lz.contains i = false) (hg : gd l0.toArray (restr env (o.looksAt l0.toArray)) o = some true) (hd : o.dst = some d) (hN : Nat.blt d N = true) (hv : OpVal P N (restr env (o.looksAt l0.toArray)) M o r) (h : DDr3 P N M0 l0 Q k0 lz (i + 1) k l ((d, r) :: env) M) :
    DDr3 P N M0 l0 Q k0 lz i (k + 1) (o :: l) env M := by
  refine ⟨r, d, hd, hN, .inr ⟨hg, fun γ Pr x0 a w Q' hx hr hf => ?_⟩, fun e => (by rw [hz] at e; cases e), h⟩
  obtain ⟨hok, v, hrun, hrep⟩ := hv γ Pr x0 a w hr
  unfold Oper.wp
  rw [hrun, Oper.upon_value]
  exact ⟨v, Pr, rfl, hrep, hok, fun e2 h2 => ⟨h2, hf⟩⟩
theorem DDr3.valE (hz : lz.contains i = false) (hg : gd l0.toArray (restr env (o.looksAt l0.toArray)) o = some true) (hd : o.dst = some d) (hN : Nat.blt d N = true) (h : ∃ r, OpVal P N (restr env (o.looksAt l0.toArray)) M o r ∧ DDr3 P N M0 l0 Q k0 lz (i + 1) k l ((d, r) :: env) M) : DDr3 P N M0 l0 Q k0 lz i (k + 1) (o :: l) env M :=
  let ⟨_, h1, h2⟩ := h
  DDr3.val hz hg hd hN h1 h2
theorem DDr3.off (hz : lz.contains i = false) (hg : gd l0.toArray (restr env (o.looksAt l0.toArray)) o = some false) (hd : o.dst = some d) (hN : Nat.blt d N = true) (h : DDr3 P N M0 l0 Q k0 lz (i + 1) k l ((d, .tup []) :: env) M) : DDr3 P N M0 l0 Q k0 lz i (k + 1) (o :: l) env M :=
  ⟨.tup [], d, hd, hN, .inl ⟨hg, rfl⟩, fun e => (by rw [hz] at e; cases e), h⟩
theorem DDr3.call {cl : Call} {f : FuncId} {fn : Func} {c : Code} {ts rs : List TV} (hz : lz.contains i = false) (hg : gd l0.toArray (restr env (o.looksAt l0.toArray)) o = some true) (hd : o.dst = some d) (hN : Nat.blt d N = true) (ho : o.op = .call cl) (hcl : cl.callee = .value (.func f))
    (hf : P.funcs[f]? = some fn) (hb : fn.body = some c) (hn : (fn.name == "runtime.NumGoroutine") = false) (hx : opvs (restr env (o.looksAt l0.toArray)) cl.args.toList = some ts) (hp : ∀ t ∈ ts, t.pure) (hc : DCalls P f ts (· = rs))
    (h : DDr3 P N M0 l0 Q k0 lz (i + 1) k l ((d, ret1 rs) :: env) M) : DDr3 P N M0 l0 Q k0 lz i (k + 1) (o :: l) env M := by
  refine ⟨ret1 rs, d, hd, hN, .inr ⟨hg, fun γ Pr x0 a w Q' _ hr hfr => ?_⟩, fun e => (by rw [hz] at e; cases e), h⟩
  unfold Oper.wp
  rw [run_call ho hcl hf hb hn a.eval rfl, Oper.upon_enter]
  have hargs : cl.args.map a.eval = (cl.args.toList.map a.eval).toArray := by apply Array.ext'; rw [Array.toList_map]
  rw [hargs]
  refine (hc Pr w _ hr.prot ((opvs_rep hr _ _ hx).pure hp)).mono fun e w' ⟨us, rs', Pr', he, hB, hE, hV, hR, hP, hQ⟩ => ?_
  subst he
  subst hQ
  exact ⟨_, Pr', rfl, SRep.ret1 (hR.pure hP), ret1_ok hP, fun e2 h2 => ⟨h2.called hB hE hV, hfr.called hr hB hE⟩⟩
theorem DDr3.done {L : List Bool} (n : Nat) (hn : l0.length - k0 = n) (hL : List.replicate k0 true ++ List.replicate (l0.length - k0) false = L) (h : DAny P N M0 l0.toArray Q n L.toArray env M) : DDr3 P N M0 l0 Q k0 lz i 0 l env M := by
  subst hn hL
  exact h
/-- A lazy one: its value hangs on no world. -/
theorem DDr3.lazy (hd : o.dst = some d) (hN : Nat.blt d N = true) (hz : OpLz P N l0.toArray (restr env (o.looksAt l0.toArray)) o r) (h : DDr3 P N M0 l0 Q k0 lz (i + 1) k l ((d, r) :: env) M) : DDr3 P N M0 l0 Q k0 lz i (k + 1) (o :: l) env M := by
  refine ⟨r, d, hd, hN, .inr ⟨hz.1, fun γ Pr x0 a w Q' hx hr hf => ?_⟩, fun _ => hz, h⟩
  obtain ⟨hok, v, hrun, hrep⟩ := hz.2 γ Pr x0 a w M hr
  unfold Oper.wp
  rw [hrun w, Oper.upon_value]
  exact ⟨v, Pr, rfl, hrep, hok, fun e2 h2 => ⟨h2, hf⟩⟩
def SV.free : SV → Bool
  | .v (.one (.d _)) | .v (.one (.row _ _)) | .v (.one (.rp _ _ _)) | .v (.agg []) => true
  | _ => false
theorem SV.free_ok {r : SV} (h : r.free = true) (M : Mem) : r.ok M := by
  unfold SV.free at h
  split at h
  · trivial
  · trivial
  · trivial
  · intro c hc; cases hc
  · cases h
theorem OpLz.move {x : Operand} (hg : gd ops env o = some true) (ho : o.op = .move x) (hx : opv env x = r) (hf : r.free = true) : OpLz P N ops env o r := by
  refine ⟨hg, fun γ Pr x0 a w M h => ⟨SV.free_ok hf M, a.eval x, fun w' => ?_, ?_⟩⟩
  · simp [execOp, ho]
  · have := h.opv x
    rwa [hx] at this
end
end
end Go.Proofs.YtejdeonbibbchaaGreatDoor.DL
set_option linter.unusedVariables false
set_option linter.unusedSimpArgs false
set_option linter.constructorNameAsVariable false
namespace Go.Proofs.YtejdeonbibbchaaGreatDoor.DL
open Go.RowKit

section
variable {P : Program} {N : Nat} {ops : Array Oper} {Q : DPost} {env : Env} {M M0 : Mem} {γ : Cn} {Pr : Prot} {x0 : Ctx} {w : World} {a : Act} {o : Oper} {rest : List Oper}

abbrev nilB (e : TypeId) (k : Nat) : Blk := .row e k 0 (.slice none 0 0) [] false
theorem endQM.own {T : TypeId → Option TyI} {ex : Exit} (he : ex = .normal ∨ ex = .ret) {b e k n : Nat} {v : Value} {cs : List CV} {rs : List ResultVar} (h : ResTs T env M rs [.one (.row b v)]) (hM : mget M b = some (.row e k n v cs false)) (hpc : ∀ c ∈ cs, c.pure) :
    endQM T rs [(b, some (nilB e k))] (fun ts M' => ∃ v, ts = [.one (.row b v)] ∧ mget M' b = some (.row e k n v cs false)) ex env M := by
  have g : mget [(b, some (Blk.row e k n v cs false))] b = some (.row e k n v cs false) := by rw [mget_cons, if_pos rfl]
  have : ∃ us M', ResTs T env M rs us ∧ (∀ y, mget M' y = none ∨ mget M' y = mget M y) ∧ (∀ y, has [(b, some (nilB e k))] y ↔ has M' y) ∧ (∀ y k, mget M' y = some k → k.ok M') ∧ (∀ t ∈ us, t.ok M') ∧ (∃ v, us = [.one (.row b v)] ∧ mget M' b = some (.row e k n v cs false)) := by
    refine ⟨[.one (.row b v)], [(b, some (.row e k n v cs false))], h, fun y => ?_, fun y => ?_, fun y l hk => ?_, fun t ht => ?_, v, rfl, g⟩
    · by_cases e : b = y
      · subst e; rw [g, hM]; exact .inr rfl
      · rw [mget_cons, if_neg e]; exact .inl rfl
    · unfold has
      rw [mget_cons, mget_cons]
      split <;> simp
    · obtain ⟨_, hk'⟩ := mget_one hk
      obtain rfl := Option.some.inj hk'
      exact fun c hc => CV.pure_ok (hpc c hc)
    · simp at ht; subst ht; trivial
  rcases he with rfl | rfl
  · exact this
  · exact this

end
end Go.Proofs.YtejdeonbibbchaaGreatDoor.DL
set_option linter.unusedVariables false
set_option linter.unusedSimpArgs false
set_option linter.constructorNameAsVariable false
namespace Go.Proofs.YtejdeonbibbchaaGreatDoor.DL
open Go.RowKit

section
variable {P : Program} {N : Nat} {ops : Array Oper} {Q : DPost} {env : Env} {M M0 : Mem} {γ : Cn} {Pr : Prot} {x0 : Ctx} {w : World} {a : Act} {o : Oper} {rest : List Oper}

theorem OpLz.iaD {T : TypeId → Option TyI} (hT : TOk P T) {t e s0 b0 s1 b1 : Nat} {z0 z1 : Value} {d1 : TypeDesc} {x y : Operand} {m k : Nat} {el : Nat → Nat → DV} {kd : IntKind} {n : Int} (hg : gd ops env o = some true) (ho : o.op = .indexAddr t x y) (ht : T t = some ⟨.slice e, s0, b0, z0⟩) (hj : T e = some ⟨d1, s1, b1, z1⟩)
    (hk : s1 = k) (hx : opv env x = .v (.one (.d (.sl m k el)))) (hy : opv env y = vI kd n) (h0 : 0 ≤ n) (h1 : n < m) : OpLz P N ops env o (.v (.one (.d (.pp k (el n.toNat))))) := by
  refine ⟨hg, fun γ Pr x0 a w M h => ?_⟩
  have h2 := h.opv x; have h4 := opI h hy
  rw [hx] at h2
  obtain ⟨A, c, he, hc, hh⟩ := h2
  obtain ⟨b, q, rfl, hcell⟩ := hh (by omega)
  refine ⟨trivial, .pointer (some ⟨b, q + n.toNat * k, none⟩), fun w' => ?_, b, q + n.toNat * k, rfl, fun r hr => ?_⟩
  · have hu := run_under (w := w') hT ht
    simp only [] at hu
    simp only [execOp, ho, he, h4, Instr.indexAt, asIntOf, Sem.run_bind, Sem.run_pure, Result.andThen_ok, hu]
    simp [h0, h1, run_sizeOf hT hj, hk, Addr.add_mid]
  · have := hcell n.toNat (by omega) r hr
    rw [← Nat.add_assoc] at this
    exact this

def noSels (l : List Oper) : Bool := l.all noSel
def freeOk (l : List Oper) (L : List Bool) (i : Nat) (o : Oper) : Bool :=
  noSels l && !L.getD i true && (ons o).all (fun j => L.getD j false) && (List.range l.length).all fun j => j == i || L.getD j true || match l[j]? with
    | none => true
    | some p => (ons p).contains i || o.apart l.toArray p

/-- What is left of a statement whose order is open. -/
def DW (P : Program) (N : Nat) (M0 : Mem) (l : List Oper) (Q : DPost) (f : Nat) (L : List Bool) (env : Env) (M : Mem) : Prop :=
  ∀ x0 a w, x0.M0 = M0 → At x0 N env M a w → wpAny P .any l.toArray (up x0 N Q) f L.toArray a w

section
variable {l : List Oper} {f : Nat} {L : List Bool}
theorem DW.any (h : DAny P N M0 l.toArray Q f L.toArray env M) : DW P N M0 l Q f L env M := fun x0 a w hx hat => DAny.wp f _ env M h x0 a w hx hat
theorem DW.take (i : Nat) {d : Nat} {r : SV} {L' : List Bool} (ho : l[i]? = some o) (np : NP Q) (hfr : freeOk l L i o = true) (hd : o.dst = some d) (hN : Nat.blt d N = true) (hz : OpLz P N l.toArray env o r) (hL : L.set i true = L') (h : DW P N M0 l Q f L' ((d, r) :: env) M) : DW P N M0 l Q (f + 1) L env M := by
  subst hL
  intro x0 a w hx ⟨γ, Pr, hr, hf⟩
  obtain ⟨hg, hq⟩ := hz
  obtain ⟨hok, v, hrun, hrep⟩ := hq γ Pr x0 a w M hr
  rw [freeOk, Bool.and_eq_true, Bool.and_eq_true, Bool.and_eq_true] at hfr
  obtain ⟨⟨⟨f1, f2⟩, f3⟩, f4⟩ := hfr
  have g : ∀ (j : Nat) b, L.toArray.getD j b = L.getD j b := fun j b => by simp [Array.getD_eq_getD_getElem?, List.getD_eq_getElem?_getD]
  have hon : l.toArray[i]? = some o := by simpa using ho
  have hsel : ∀ (j : Nat) (p : Oper) cs b, l.toArray[j]? = some p → p.op ≠ .select cs b := fun j p cs b hj e => by
    have := List.all_eq_true.1 f1 p (List.mem_of_getElem? (by simpa using hj))
    rw [noSel, e] at this
    cases this
  refine wpAny_first (oi := o) (v := v) hon hsel (fun c a w hp => ?_) f L.toArray a w (fun j oj hj hne hlj hno => ?_) ?_ (.inl ⟨gd_wanted (ops := l.toArray) hr hg, hrun⟩) ?_
  · obtain ⟨env', M', _, hp⟩ := hp
    exact absurd hp (np c env' M')
  · have hj' : l[j]? = some oj := by simpa using hj
    have h2 := List.all_eq_true.1 f4 j (List.mem_range.2 (List.getElem?_eq_some_iff.1 hj').1)
    rw [hj'] at h2
    simp only [] at h2
    rw [Bool.or_eq_true, Bool.or_eq_true, Bool.or_eq_true] at h2
    rcases h2 with (h2 | h2) | h2 | h2
    · exact absurd (by simpa using h2) hne
    · rw [g] at hlj; rw [hlj] at h2; cases h2
    · obtain ⟨e, he, hb, hon⟩ := mem_ons.1 h2
      exact absurd hon (hno e (by simpa using he) hb)
    · exact h2
  · refine ready_of (by simpa using (List.getElem?_eq_some_iff.1 ho).1) (by rw [g]; simpa using f2) hon fun e he hb => ?_
    rw [g]
    exact List.all_eq_true.1 f3 e.on (by simp only [ons, List.mem_map, List.mem_filter]; exact ⟨e, ⟨he, hb⟩, rfl⟩)
  · have hput : a.put o.dst v = a.put (some d) v := by rw [hd]
    rw [List.setIfInBounds_toArray, hput]
    exact h x0 _ w hx ⟨γ, Pr, hr.put (dst := some d) (fun d' h => by injection h with h; rw [← h]; exact Nat.le_of_ble_eq_true hN) hrep hok, hf⟩
end
end
end Go.Proofs.YtejdeonbibbchaaGreatDoor.DL
set_option linter.unusedVariables false
set_option linter.unusedSimpArgs false
set_option linter.constructorNameAsVariable false
namespace Go.Proofs.YtejdeonbibbchaaGreatDoor.DL
open Go.RowKit

section
variable {P : Program} {N : Nat} {ops : Array Oper} {Q : DPost} {env : Env} {M M0 : Mem} {γ : Cn} {Pr : Prot} {x0 : Ctx} {w : World} {a : Act} {o : Oper} {rest : List Oper}
variable {l : List Oper} {f : Nat} {L : List Bool}

def DWAlts (P : Program) (N : Nat) (M0 : Mem) (l : List Oper) (Q : DPost) (f : Nat) (L : List Bool) (env : Env) (M : Mem) : List Nat → Prop
  | [] => True
  | i :: r => (∃ o, l[i]? = some o ∧ DOps P N M0 l.toArray (thenQ (DW P N M0 l Q f (L.set i true)) Q) [o] env M) ∧ DWAlts P N M0 l Q f L env M r
theorem DWAlts.all : ∀ {is : List Nat}, DWAlts P N M0 l Q f L env M is → ∀ i ∈ is, ∀ o, l[i]? = some o → DOps P N M0 l.toArray (thenQ (DW P N M0 l Q f (L.set i true)) Q) [o] env M
  | [], _, i, hi, _, _ => by cases hi
  | j :: r, ⟨⟨o', h1, h2⟩, h3⟩, i, hi, o, ho => by
    rcases List.mem_cons.1 hi with rfl | hi
    · rw [h1] at ho
      obtain rfl := Option.some.inj ho
      exact h2
    · exact h3.all i hi o ho
theorem DWAlts.cons {i : Nat} {r : List Nat} (ho : l[i]? = some o) (h : DOps P N M0 l.toArray (thenQ (DW P N M0 l Q f (L.set i true)) Q) [o] env M) (hr : DWAlts P N M0 l Q f L env M r) : DWAlts P N M0 l Q f L env M (i :: r) := ⟨⟨o, ho, h⟩, hr⟩
theorem DWAlts.nil : DWAlts P N M0 l Q f L env M [] := trivial

theorem DW.intro (i : Nat) (is : List Nat) (hr : readyL l L = i :: is) (h : DWAlts P N M0 l Q f L env M (i :: is)) : DW P N M0 l Q (f + 1) L env M := fun x0 a w hx hat => by
  have e : Region.ready .any l.toArray L.toArray = i :: is := by rw [readyL_eq, hr]
  refine ⟨fun e' => (by rw [e] at e'; cases e'), fun j hj => ?_⟩
  rw [e] at hj
  have K : ∀ a' w', wpList P l.toArray (up x0 N (thenQ (DW P N M0 l Q f (L.set j true)) Q)) [] a' w' → wpAny P .any l.toArray (up x0 N Q) f (L.toArray.setIfInBounds j true) a' w' := fun a' w' ⟨env', M', hat', hq⟩ => by
    rw [List.setIfInBounds_toArray]
    exact hq x0 a' w' hx hat'
  have hQ : ∀ e a w, e ≠ .normal → up x0 N (thenQ (DW P N M0 l Q f (L.set j true)) Q) e a w → up x0 N Q e a w := fun e a w hne ⟨env', M', hat', hq⟩ => ⟨env', M', hat', by cases e <;> first | exact absurd rfl hne | exact hq⟩
  unfold wpOp
  cases ho : l.toArray[j]? with
  | none =>
    have hj' : j ∈ Region.ready .any l.toArray L.toArray := by rw [e]; exact hj
    simp only [Region.ready, List.mem_filter, ho] at hj'
    simp at hj'
  | some o =>
    have h1 := h.all j hj o (by simpa using ho) x0 a w hx hat
    unfold wpList at h1
    simp only
    split
    · rename_i hw
      rw [if_pos hw] at h1
      exact h1.imp (wp_exits K hQ) fun ⟨h2, a2, _, h3⟩ => ⟨h2, a2, _, hQ _ _ _ (by simp) h3⟩
    · rename_i hw
      rw [if_neg hw] at h1
      exact K _ _ h1
theorem DW.fin (hr : readyL l L = []) (h : Q .normal env M) : DW P N M0 l Q f L env M := fun x0 a w hx hat => by
  have e : Region.ready .any l.toArray L.toArray = [] := by rw [readyL_eq, hr]
  exact wpAny_done e ⟨env, M, hat, h⟩ f
theorem DW.weak {env' : Env} {M' : Mem} (k : Wk N M0 env M env' M') (h : DW P N M0 l Q f L env' M') : DW P N M0 l Q f L env M := fun x0 a w hx hat => h x0 a w hx (k x0 a w hx hat)

theorem OpLz.extract {x : Operand} {k : Nat} {ts : List TV} {t : TV} (hg : gd ops env o = some true) (ho : o.op = .extract x k) (hx : opv env x = .tup ts) (ht : ts[k]? = some t) (hf : t.pure) : OpLz P N ops env o (.v t) := by
  refine ⟨hg, fun γ Pr x0 a w M h => ?_⟩
  have h1 := h.opv x
  rw [hx] at h1
  obtain ⟨vs, hv, hl, hh⟩ := h1
  obtain ⟨y, hy, hr⟩ := hh k t ht
  exact ⟨TV.pure_ok hf, y, fun w' => by simp [execOp, ho, hv, Instr.extract, hy], hr⟩
theorem OpLz.moveT {x : Operand} {ts : List TV} (hg : gd ops env o = some true) (ho : o.op = .move x) (hx : opv env x = .tup ts) (hf : ∀ t ∈ ts, t.pure) : OpLz P N ops env o (.tup ts) := by
  refine ⟨hg, fun γ Pr x0 a w M h => ⟨fun t ht => TV.pure_ok (hf t ht), a.eval x, fun w' => ?_, ?_⟩⟩
  · simp [execOp, ho]
  · have := h.opv x
    rwa [hx] at this
theorem OpLz.arith {op : BinOp} {t t' : TypeId} {x y : Operand} {k : IntKind} {m n r : Int} (hg : gd ops env o = some true) (ho : o.op = .binOp op t x y t') (hx : opv env x = vI k m) (hy : opv env y = vI k n)
    (hr : DL.arith op k m n = some r) : OpLz P N ops env o (vI k r) :=
  ⟨hg, fun γ Pr x0 a w M h => ⟨trivial, .int k r, fun w' => by
    cases op <;> simp [DL.arith] at hr <;> simp [execOp, ho, opI h hx, opI h hy, eqGuard_at_int, binOp, Op.intArith, hr], rfl, rfl⟩⟩
theorem OpLz.add {t t' : TypeId} {x y : Operand} {m n : Int} (hg : gd ops env o = some true) (ho : o.op = .binOp .add t x y t') (hx : opv env x = vI .i64 m) (hy : opv env y = vI .i64 n)
    (h0 : -9223372036854775808 ≤ m + n) (h1 : m + n ≤ 9223372036854775807) : OpLz P N ops env o (vI .i64 (m + n)) :=
  OpLz.arith hg ho hx hy (by simp [DL.arith, wrap_in64 h0 h1])
theorem OpLz.mul {t t' : TypeId} {x y : Operand} {m n : Int} (hg : gd ops env o = some true) (ho : o.op = .binOp .mul t x y t') (hx : opv env x = vI .i64 m) (hy : opv env y = vI .i64 n)
    (h0 : -9223372036854775808 ≤ m * n) (h1 : m * n ≤ 9223372036854775807) : OpLz P N ops env o (vI .i64 (m * n)) :=
  OpLz.arith hg ho hx hy (by simp [DL.arith, wrap_in64 h0 h1])
theorem OpLz.gtr {t t' : TypeId} {x y : Operand} {k : IntKind} {m n : Int} (hg : gd ops env o = some true) (ho : o.op = .binOp .gtr t x y t') (hx : opv env x = vI k m) (hy : opv env y = vI k n) : OpLz P N ops env o (vB (decide (m > n))) :=
  ⟨hg, fun γ Pr x0 a w M h => ⟨trivial, .bool (decide (m > n)), fun w' => by simp [execOp, ho, opI h hx, opI h hy, eqGuard_at_int, binOp, Op.intCmp], rfl, rfl⟩⟩
end
end Go.Proofs.YtejdeonbibbchaaGreatDoor.DL
set_option linter.unusedVariables false
set_option linter.unusedSimpArgs false
set_option linter.constructorNameAsVariable false
namespace Go.Proofs.YtejdeonbibbchaaGreatDoor.DL
open Go.RowKit

section
variable {P : Program} {N : Nat} {ops : Array Oper} {Q : DPost} {env : Env} {M M0 : Mem} {γ : Cn} {Pr : Prot} {x0 : Ctx} {w : World} {a : Act} {o : Oper} {rest : List Oper}

theorem run_append_zero (base : Nat) (t ty e : TypeId) (i : TypeInfo) (size : Nat) (ht : P.underlying t = some (.slice e)) (hi : P.info? e = some i)
    (v : Value) (n : Nat) (xs : List Value) (hown : w.ownsRow base e size v n xs) (A : Option Addr) (c : Nat) :
    (Builtin.append_ #[t, t] ty #[v, .slice A 0 c]).run P w = .ok v w := by
  rcases hown.2 with ⟨rfl, rfl⟩ | ⟨g, cap, cur, rfl, _, _, hnc, _⟩
  · cases A <;> simp [Builtin.append_, run_underlying ht, sizeOf, typeInfo, hi, Builtin.lenOf, Builtin.firstCells, loadCells, loadCellsFrom]
  · cases A <;> simp [Builtin.append_, run_underlying ht, sizeOf, typeInfo, hi, Builtin.lenOf, Builtin.firstCells, hnc, storeCells, loadCells, loadCellsFrom]

theorem OpVal.append0 {T : TypeId → Option TyI} (hT : TOk P T) {t e : TypeId} {i j : TyI} {s x : Operand} {b k k' n : Nat} {v : Value} {cs : List CV} {fz : Bool} {el : Nat → Nat → DV}
    (ho : o.op = .call { callee := .builtin .append, args := #[s, x], argTypes := #[t, t] }) (ht : T t = some i) (hde : i.desc = .slice e) (hj : T e = some j)
    (hs : opv env s = .v (.one (.row b v))) (hm : mget M b = some (.row e k n v cs fz)) (hx : opv env x = .v (.one (.d (.sl 0 k' el)))) : OpVal P N env M o (.v (.one (.row b v))) := fun γ Pr x0 a w h => by
  have h1 := h.opv s; have h2 := h.opv x
  rw [hs] at h1; rw [hx] at h2
  obtain ⟨A, c, hv, _, _⟩ := h2
  obtain ⟨vs, hown, _, _⟩ := h.mem b _ hm
  obtain ⟨hu, info, hi1, hi2, hi3, hi4⟩ := hT _ _ ht
  obtain ⟨_, info', hj1, hj2, hj3, hj4⟩ := hT _ _ hj
  rw [hde] at hu
  have he : a.eval s = v := h1.1
  refine ⟨trivial, v, ?_, rfl, by rw [← he]; exact h1.2⟩
  have hrun := run_append_zero (P := P) (w := w) 0 t o.type e info' k hu hj1 v n vs hown A c
  simp [execOp, ho, resolve, invoke, builtin, he, hv, hrun, Result.andThen]
end
end Go.Proofs.YtejdeonbibbchaaGreatDoor.DL
set_option linter.unusedVariables false
set_option linter.unusedSimpArgs false
set_option linter.constructorNameAsVariable false
namespace Go.Proofs.YtejdeonbibbchaaGreatDoor.DL
open Go.RowKit

section
variable {P : Program} {N : Nat} {ops : Array Oper} {Q : DPost} {env : Env} {M M0 : Mem} {γ : Cn} {Pr : Prot} {x0 : Ctx} {w : World} {a : Act} {o : Oper} {rest : List Oper}
variable {l : List Oper} {f : Nat} {L : List Bool}

/-- A memoryless operation, whose value may hang on what blocks there are. -/
def OpLzM (P : Program) (N : Nat) (ops : Array Oper) (env : Env) (M : Mem) (o : Oper) (r : SV) : Prop :=
  gd ops env o = some true ∧ ∀ γ Pr x0 a w, Rel γ Pr x0 N env M a w → r.ok M ∧ ∃ v, (∀ w', (execOp a.eval o).run P w' = .ok (.value v) w') ∧ SRep γ Pr w r v
theorem OpLzM.iaA {T : TypeId → Option TyI} (hT : TOk P T) {t e : Nat} {x y : Operand} {b k len s0 b0 s1 b1 : Nat} {z0 z1 : Value} {d1 : TypeDesc} {kd : IntKind} {n : Int} (hg : gd ops env o = some true) (ho : o.op = .indexAddr t x y) (ht : T t = some ⟨.array len e, s0, b0, z0⟩) (hj : T e = some ⟨d1, s1, b1, z1⟩)
    (hx : opv env x = .v (.one (.ptr b k))) (hy : opv env y = vI kd n) (h0 : 0 ≤ n) (h1 : n < len) : OpLzM P N ops env M o (.v (.one (.ptr b (k + n.toNat * s1)))) := by
  refine ⟨hg, fun γ Pr x0 a w h => ?_⟩
  have h2 := h.opv x; have h3 := opv_ok h.slotB x; have h4 := opI h hy
  rw [hx] at h2 h3
  have he : a.eval x = .pointer (some ⟨γ.blk b, k, none⟩) := h2
  refine ⟨h3, .pointer (some ⟨γ.blk b, k + n.toNat * s1, none⟩), fun w' => ?_, rfl⟩
  have hu := run_under (w := w') hT ht
  simp only [] at hu
  simp only [execOp, ho, he, h4, Instr.indexAt, asIntOf, Sem.run_bind, Sem.run_pure, Result.andThen_ok, hu]
  simp [Instr.sureAddr, hu, h0, h1, run_sizeOf hT hj, Addr.add_mid]
abbrev WState : Type := Nat × List Bool × Env × Mem
/-- Operation j may be run at s, and leads to t. -/
def WOne (P : Program) (N : Nat) (M0 : Mem) (l : List Oper) (ds : List Nat) (env : Env) (M : Mem) (S : List WState) (s : WState) (j : Nat) : Prop :=
  ∃ o t, l[j]? = some o ∧ t ∈ S ∧ s.1 = t.1 + 1 ∧ s.2.1.set j true = t.2.1 ∧
    DOps P N M0 l.toArray (fun e E' M' => e = .normal ∧ Sub (t.2.2.1 ++ junks ds env) E' ∧ MSubX [] (t.2.2.2 ++ M) M') [o] (s.2.2.1 ++ junks ds env) (s.2.2.2 ++ M)
def WAlts (P : Program) (N : Nat) (M0 : Mem) (l : List Oper) (ds : List Nat) (env : Env) (M : Mem) (S : List WState) (s : WState) : List Nat → Prop
  | [] => True
  | j :: r => WOne P N M0 l ds env M S s j ∧ WAlts P N M0 l ds env M S s r
def WebN (P : Program) (N : Nat) (M0 : Mem) (l : List Oper) (ds : List Nat) (env : Env) (M : Mem) (ue : Env) (me : Mem) (S : List WState) : List WState → Prop
  | [] => True
  | s :: r => (okE (s.2.2.2 ++ M) s.2.2.1 ∧ okM (s.2.2.2 ++ M) s.2.2.2 ∧ (readyL l s.2.1 = [] → s.1 = 0 ∧ s.2.2 = (ue, me)) ∧ WAlts P N M0 l ds env M S s (readyL l s.2.1)) ∧ WebN P N M0 l ds env M ue me S r
section
variable {ds : List Nat} {S : List WState} {s : WState} {ue : Env} {me : Mem}
theorem WAlts.all : ∀ {is : List Nat}, WAlts P N M0 l ds env M S s is → ∀ i ∈ is, WOne P N M0 l ds env M S s i
  | [], _, i, hi => by cases hi
  | j :: r, ⟨h1, h3⟩, i, hi => by
    rcases List.mem_cons.1 hi with rfl | hi
    · exact h1
    · exact h3.all i hi
theorem WebN.all : ∀ {R : List WState}, WebN P N M0 l ds env M ue me S R → ∀ s ∈ R, okE (s.2.2.2 ++ M) s.2.2.1 ∧ okM (s.2.2.2 ++ M) s.2.2.2 ∧ (readyL l s.2.1 = [] → s.1 = 0 ∧ s.2.2 = (ue, me)) ∧ WAlts P N M0 l ds env M S s (readyL l s.2.1)
  | [], _, i, hi => by cases hi
  | j :: r, ⟨h1, h3⟩, i, hi => by
    rcases List.mem_cons.1 hi with rfl | hi
    · exact h1
    · exact h3.all i hi
theorem WAlts.nil : WAlts P N M0 l ds env M S s [] := trivial
theorem WAlts.cons {j : Nat} {r : List Nat} {f f' : Nat} {L L' : List Bool} {u u' : Env} {m m' : Mem} (t : Nat) (ho : l[j]? = some o) (ht : S[t]? = some (f', L', u', m')) (hf : f = f' + 1) (hL : L.set j true = L')
    (h : DOps P N M0 l.toArray (fun e E' M' => e = .normal ∧ Sub (u' ++ junks ds env) E' ∧ MSubX [] (m' ++ M) M') [o] (u ++ junks ds env) (m ++ M)) (hr : WAlts P N M0 l ds env M S (f, L, u, m) r) : WAlts P N M0 l ds env M S (f, L, u, m) (j :: r) :=
  ⟨⟨o, (f', L', u', m'), ho, List.mem_of_getElem? ht, hf, hL, h⟩, hr⟩
theorem WebN.nil : WebN P N M0 l ds env M ue me S [] := trivial
theorem WebN.cons {R : List WState} {j : Nat} {js : List Nat} {f : Nat} {L : List Bool} {u : Env} {m : Mem} (hr : readyL l L = j :: js) (h1 : okE (m ++ M) u) (h2 : okM (m ++ M) m) (h3 : WAlts P N M0 l ds env M S (f, L, u, m) (j :: js)) (h4 : WebN P N M0 l ds env M ue me S R) : WebN P N M0 l ds env M ue me S ((f, L, u, m) :: R) :=
  ⟨⟨h1, h2, (fun e => by rw [hr] at e; cases e), (by rw [hr]; exact h3)⟩, h4⟩
theorem WebN.last {R : List WState} {L : List Bool} (hr : readyL l L = []) (h1 : okE (me ++ M) ue) (h2 : okM (me ++ M) me) (h4 : WebN P N M0 l ds env M ue me S R) : WebN P N M0 l ds env M ue me S ((0, L, ue, me) :: R) :=
  ⟨⟨h1, h2, fun _ => ⟨rfl, rfl⟩, (by rw [hr]; exact WAlts.nil)⟩, h4⟩

end
end
end Go.Proofs.YtejdeonbibbchaaGreatDoor.DL
set_option linter.unusedVariables false
set_option linter.unusedSimpArgs false
set_option linter.constructorNameAsVariable false
namespace Go.Proofs.YtejdeonbibbchaaGreatDoor.DL
open Go.RowKit

/-- A block of which all but its cells is known. -/
def Blk.like (xs : List CV) : Blk → Blk
  | .box t _ => .box t xs
  | .row e k n v _ fz => .row e k n v xs fz
def Blk.cellsOf : Blk → List CV
  | .box _ cs => cs
  | .row _ _ _ _ cs _ => cs
def Blk.frm (k : Blk) : Blk := k.like []
theorem Blk.like_of {k k' : Blk} (h : k.frm = k'.frm) : k.like k'.cellsOf = k' := by
  cases k <;> cases k' <;> simp_all [Blk.frm, Blk.like, Blk.cellsOf]

/-- Memory of which some blocks are not known (the first ones), or not their cells (the others). -/
def genM (un : List Nat × List Nat) (xs : Nat → List CV) (ys : Nat → Option Blk) (M : Mem) : Mem :=
  un.1.map (fun b => (b, ys b)) ++ (un.2.map (fun b => (b, (mget M b).map (Blk.like (xs b)))) ++ M)
theorem mget_map_append (f : Nat → Option Blk) (R : Mem) (b : Nat) : ∀ l : List Nat, mget (l.map (fun b => (b, f b)) ++ R) b = if b ∈ l then f b else mget R b
  | [] => by simp
  | c :: l => by
    rw [List.map_cons, List.cons_append, mget_cons, mget_map_append f R b l]
    by_cases h : c = b
    · subst h; simp
    · rw [if_neg h]
      have : (b ∈ c :: l) = (b ∈ l) := by simp [Ne.symm h]
      simp only [this]

def muM : Option (Nat × Blk) → Mem → Mem
  | none, M => M
  | some (b, k), M => (b, some k) :: M
/-- Which operation writes which block: 0: its cells; 1: it makes it; 2: it may become another one. -/
def wsAt : List (Nat × Nat × Nat) → Nat → Option (Nat × Nat)
  | [], _ => none
  | (j, b, f) :: r, i => bif Nat.beq j i then some (b, f) else wsAt r i
def muOk (ws : List (Nat × Nat × Nat)) (i : Nat) (mu : Option (Nat × Blk)) (M : Mem) : Prop :=
  match mu with
  | none => wsAt ws i = none
  | some (b, k) => (wsAt ws i = some (b, 0) ∧ ∃ k0, mget M b = some k0 ∧ k0.frm = k.frm) ∨ (wsAt ws i = some (b, 1) ∧ mget M b = none) ∨ wsAt ws i = some (b, 2)

def relM (ms : List Nat) (i j : Nat) : Bool := (ms.getD i 0).testBit j || (ms.getD j 0).testBit i
def noChg (ws : List (Nat × Nat × Nat)) (b : Nat) : Bool := ws.all fun x => x.2.1 != b || x.2.2 != 2
def confOk1 (l : List Oper) (ws : List (Nat × Nat × Nat)) (un : List (List Nat × List Nat)) (ms : List Nat) : Bool :=
  (List.range l.length).all fun i => match l[i]? with
    | none => false
    | some o => (ons o).all (fun j => Nat.blt j i) &&
      ((o.looksAt l.toArray).all fun t => (List.range l.length).all fun j => match l[j]? with
        | none => false
        | some p => p.dst != some t || j == i || relM ms i j) &&
      ((List.range l.length).all fun j => match l[j]? with
        | none => false
        | some p => p.dst == none || p.dst != o.dst || j == i || relM ms i j) &&
      ((List.range l.length).all fun j => j == i || relM ms i j || match wsAt ws j with
        | none => true
        | some (b, f) => (match wsAt ws i with
            | none => true
            | some (b', _) => b' != b) &&
          ((un.getD i ([], [])).1.contains b || (f == 0 && noChg ws b && (un.getD i ([], [])).2.contains b)))
def confOk (l : List Oper) (ws : List (Nat × Nat × Nat)) (un : List (List Nat × List Nat)) : Bool := confOk1 l ws un (masks l)

structure CfF (l : List Oper) (ws : List (Nat × Nat × Nat)) (un : List (List Nat × List Nat)) : Prop where
  on : ∀ (i : Nat) o, l[i]? = some o → ∀ j ∈ ons o, j < i
  look : ∀ (i : Nat) o, l[i]? = some o → ∀ t ∈ o.looksAt l.toArray, ∀ (j : Nat) p, l[j]? = some p → p.dst = some t → j ≠ i → Reach l i j ∨ Reach l j i
  ord : ∀ (i j : Nat) o p t, l[i]? = some o → l[j]? = some p → o.dst = some t → p.dst = some t → j ≠ i → Reach l i j ∨ Reach l j i
  mem : ∀ (i j b f : Nat), i < l.length → j < l.length → wsAt ws j = some (b, f) → j ≠ i → Reach l i j ∨ Reach l j i ∨ ((∀ f', wsAt ws i ≠ some (b, f')) ∧ (b ∈ (un.getD i ([], [])).1 ∨ (f = 0 ∧ noChg ws b = true ∧ b ∈ (un.getD i ([], [])).2)))

theorem relM_reach {l : List Oper} {i j : Nat} (h : relM (masks l) i j = true) : Reach l i j ∨ Reach l j i := by
  rw [relM, Bool.or_eq_true] at h
  exact h.imp (masks_reach l i j) (masks_reach l j i)

theorem confOk_facts {l : List Oper} {ws : List (Nat × Nat × Nat)} {un : List (List Nat × List Nat)} (h : confOk l ws un = true) : CfF l ws un := by
  rw [confOk, confOk1, List.all_eq_true] at h
  have H : ∀ (i : Nat) o, l[i]? = some o → ((ons o).all (fun j => Nat.blt j i) = true ∧
      ((o.looksAt l.toArray).all fun t => (List.range l.length).all fun j => match l[j]? with
        | none => false
        | some p => p.dst != some t || j == i || relM (masks l) i j) = true) ∧
      ((List.range l.length).all fun j => match l[j]? with
        | none => false
        | some p => p.dst == none || p.dst != o.dst || j == i || relM (masks l) i j) = true ∧
      ((List.range l.length).all fun j => j == i || relM (masks l) i j || match wsAt ws j with
        | none => true
        | some (b, f) => (match wsAt ws i with
            | none => true
            | some (b', _) => b' != b) &&
          ((un.getD i ([], [])).1.contains b || (f == 0 && noChg ws b && (un.getD i ([], [])).2.contains b))) = true := fun i o ho => by
    have := h i (List.mem_range.2 (List.getElem?_eq_some_iff.1 ho).1)
    rw [ho] at this
    simp only [Bool.and_eq_true] at this
    exact ⟨this.1.1, this.1.2, this.2⟩
  have lt : ∀ {i : Nat} {o}, l[i]? = some o → i < l.length := fun ho => (List.getElem?_eq_some_iff.1 ho).1
  refine ⟨fun i o ho j hj => ?_, fun i o ho t ht j p hp hd hne => ?_, fun i j o p t ho hp h1 h2 hne => ?_, fun i j b f hi hj hw hne => ?_⟩
  · have := List.all_eq_true.1 (H i o ho).1.1 j hj
    simpa using this
  · have := List.all_eq_true.1 (List.all_eq_true.1 (H i o ho).1.2 t ht) j (List.mem_range.2 (lt hp))
    rw [hp] at this
    simp only [Bool.or_eq_true] at this
    rcases this with (h | h) | h
    · rw [hd] at h; simp at h
    · exact absurd (by simpa using h) hne
    · exact relM_reach h
  · have := List.all_eq_true.1 (H i o ho).2.1 j (List.mem_range.2 (lt hp))
    rw [hp] at this
    simp only [Bool.or_eq_true] at this
    rcases this with ((h | h) | h) | h
    · rw [h2] at h; simp at h
    · rw [h1, h2] at h; simp at h
    · exact absurd (by simpa using h) hne
    · exact relM_reach h
  · have ho : l[i]? = some l[i] := List.getElem?_eq_getElem hi
    have := List.all_eq_true.1 (H i _ ho).2.2 j (List.mem_range.2 hj)
    simp only [Bool.or_eq_true] at this
    rcases this with (h | h) | h
    · exact absurd (by simpa using h) hne
    · exact (relM_reach h).imp id .inl
    · rw [hw] at h
      simp only [Bool.and_eq_true, Bool.or_eq_true] at h
      refine .inr (.inr ⟨fun f' e => ?_, ?_⟩)
      · have := h.1
        rw [e] at this
        simp at this
      · refine h.2.imp (fun h => by simpa using h) fun h => ⟨by simpa using h.1.1, h.1.2, by simpa using h.2⟩

/-- Slots, memory behind some of the operations: told in the text's order. -/
def envC (S : Nat → Bool) : Nat → List (Option Tmp × SV) → Env → Env
  | _, [], env => env
  | j, p :: l, env => envC S (j + 1) l (bif S j then putd p.1 p.2 env else env)
def memC (S : Nat → Bool) : Nat → List (Option (Nat × Blk)) → Mem → Mem
  | _, [], M => M
  | j, p :: l, M => memC S (j + 1) l (bif S j then muM p M else M)

theorem lk_putd (d : Option Tmp) (r : SV) (env : Env) (t : Nat) : lk (putd d r env) t = if d = some t then r else lk env t := by
  cases d with
  | none => simp [putd]
  | some d =>
    rw [putd, lk_cons]
    by_cases h : d = t
    · subst h; simp
    · rw [if_neg h, if_neg (fun e => h (by injection e))]
theorem mget_muM (p : Option (Nat × Blk)) (M : Mem) (b : Nat) : mget (muM p M) b = match p with | some (c, k) => if c = b then some k else mget M b | none => mget M b := by
  cases p with
  | none => rfl
  | some p => rw [muM, mget_cons]

theorem envC_congr {S S' : Nat → Bool} {t : Nat} : ∀ (l : List (Option Tmp × SV)) (j : Nat) (env env' : Env), (∀ (i : Nat) r, l[i]? = some (some t, r) → S (j + i) = S' (j + i)) → lk env t = lk env' t →
    lk (envC S j l env) t = lk (envC S' j l env') t
  | [], _, _, _, _, h => h
  | p :: l, j, env, env', hs, h => by
    rw [envC, envC]
    refine envC_congr l (j + 1) _ _ (fun i r hi => by rw [show j + 1 + i = j + (i + 1) by omega]; exact hs (i + 1) r (by simpa using hi)) ?_
    obtain ⟨d, r⟩ := p
    by_cases hd : d = some t
    · subst hd
      have h0 : S j = S' j := hs 0 r rfl
      rw [h0]
      cases S' j <;> simp [lk_putd, h]
    · have e : ∀ (b : Bool) (e : Env), lk (bif b then putd d r e else e) t = lk e t := fun b e => by cases b <;> simp [lk_putd, hd]
      rw [e, e, h]
theorem memC_congr {S S' : Nat → Bool} {b : Nat} : ∀ (l : List (Option (Nat × Blk))) (j : Nat) (M M' : Mem), (∀ (i : Nat) k, l[i]? = some (some (b, k)) → S (j + i) = S' (j + i)) → mget M b = mget M' b →
    mget (memC S j l M) b = mget (memC S' j l M') b
  | [], _, _, _, _, h => h
  | p :: l, j, M, M', hs, h => by
    rw [memC, memC]
    refine memC_congr l (j + 1) _ _ (fun i r hi => by rw [show j + 1 + i = j + (i + 1) by omega]; exact hs (i + 1) r (by simpa using hi)) ?_
    by_cases hd : ∃ k, p = some (b, k)
    · obtain ⟨k, rfl⟩ := hd
      have h0 : S j = S' j := hs 0 k rfl
      rw [h0]
      cases S' j <;> simp [mget_muM, h]
    · have e : ∀ (q : Bool) (e : Mem), mget (bif q then muM p e else e) b = mget e b := fun q e => by
        cases q with
        | false => rfl
        | true =>
          show mget (muM p e) b = _
          rw [mget_muM]
          cases p with
          | none => rfl
          | some p => exact if_neg fun h => hd ⟨p.2, by rw [← h]⟩
      rw [e, e, h]
theorem envC_last {S : Nat → Bool} {t : Nat} {r : SV} : ∀ (l : List (Option Tmp × SV)) (j i : Nat) (env : Env), l[i]? = some (some t, r) → S (j + i) = true → (∀ (i' : Nat) r', i < i' → l[i']? = some (some t, r') → S (j + i') = false) →
    lk (envC S j l env) t = r
  | [], _, i, _, h, _, _ => by simp at h
  | p :: l, j, 0, env, h, hs, hl => by
    rw [envC]
    have hs : S j = true := hs
    obtain rfl : p = (some t, r) := by simpa using h
    rw [hs]
    show lk (envC S (j + 1) l ((t, r) :: env)) t = r
    rw [envC_congr (S' := fun _ => false) l (j + 1) _ ((t, r) :: env) (fun i' r' hi => ?_) rfl]
    · have : ∀ (l : List (Option Tmp × SV)) (j : Nat) (e : Env), envC (fun _ => false) j l e = e := fun l => by
        induction l with
        | nil => intro _ _; rfl
        | cons p l ih => intro j e; rw [envC]; exact ih _ _
      rw [this]
      show lk ((t, r) :: env) t = r
      rw [lk_cons, if_pos rfl]
    · rw [show j + 1 + i' = j + (i' + 1) by omega]
      exact hl (i' + 1) r' (by omega) (by simpa using hi)
  | p :: l, j, i + 1, env, h, hs, hl => by
    rw [envC]
    exact envC_last l (j + 1) i _ (by simpa using h) (by rw [show j + 1 + i = j + (i + 1) by omega]; exact hs) fun i' r' hi hr => by
      rw [show j + 1 + i' = j + (i' + 1) by omega]; exact hl (i' + 1) r' (by omega) (by simpa using hr)
theorem memC_none : ∀ (l : List (Option (Nat × Blk))) (j : Nat) (M : Mem), memC (fun _ => false) j l M = M
  | [], _, _ => rfl
  | p :: l, j, M => by rw [memC]; exact memC_none l _ _
theorem memC_last {S : Nat → Bool} {b : Nat} {k : Blk} : ∀ (l : List (Option (Nat × Blk))) (j i : Nat) (M : Mem), l[i]? = some (some (b, k)) → S (j + i) = true → (∀ (i' : Nat) k', i < i' → l[i']? = some (some (b, k')) → S (j + i') = false) →
    mget (memC S j l M) b = some k
  | [], _, i, _, h, _, _ => by simp at h
  | p :: l, j, 0, M, h, hs, hl => by
    rw [memC]
    have hs : S j = true := hs
    obtain rfl : p = some (b, k) := by simpa using h
    rw [hs]
    show mget (memC S (j + 1) l ((b, some k) :: M)) b = some k
    rw [memC_congr (S' := fun _ => false) l (j + 1) _ ((b, some k) :: M) (fun i' r' hi => ?_) rfl]
    · rw [memC_none, mget_cons, if_pos rfl]
    · rw [show j + 1 + i' = j + (i' + 1) by omega]
      exact hl (i' + 1) r' (by omega) (by simpa using hi)
  | p :: l, j, i + 1, M, h, hs, hl => by
    rw [memC]
    exact memC_last l (j + 1) i _ (by simpa using h) (by rw [show j + 1 + i = j + (i + 1) by omega]; exact hs) fun i' r' hi hr => by
      rw [show j + 1 + i' = j + (i' + 1) by omega]; exact hl (i' + 1) r' (by omega) (by simpa using hr)
/-- What a block holds comes from the last operation that wrote it. -/
theorem memC_from {S : Nat → Bool} {b : Nat} : ∀ (l : List (Option (Nat × Blk))) (j : Nat) (M : Mem), (mget (memC S j l M) b = mget M b ∧ ∀ (i : Nat) k, l[i]? = some (some (b, k)) → S (j + i) = false) ∨
    ∃ (i : Nat) (k : Blk), l[i]? = some (some (b, k)) ∧ S (j + i) = true ∧ mget (memC S j l M) b = some k ∧ ∀ (i' : Nat) k', i < i' → l[i']? = some (some (b, k')) → S (j + i') = false
  | [], _, _ => .inl ⟨rfl, fun i k h => by simp at h⟩
  | p :: l, j, M => by
    rw [memC]
    rcases memC_from (S := S) (b := b) l (j + 1) (bif S j then muM p M else M) with ⟨h1, h2⟩ | ⟨i, k, h1, h2, h3, h4⟩
    · by_cases hp : (∃ k, p = some (b, k)) ∧ S j = true
      · obtain ⟨⟨k, rfl⟩, hs⟩ := hp
        refine .inr ⟨0, k, rfl, hs, ?_, fun i' k' hi hk => ?_⟩
        · rw [h1, hs]; show mget ((b, some k) :: M) b = _; rw [mget_cons, if_pos rfl]
        · obtain ⟨i', rfl⟩ : ∃ n, i' = n + 1 := ⟨i' - 1, by omega⟩
          rw [show j + (i' + 1) = j + 1 + i' by omega]
          exact h2 i' k' (by simpa using hk)
      · refine .inl ⟨?_, fun i k hk => ?_⟩
        · rw [h1]
          cases hs : S j with
          | false => rfl
          | true =>
            show mget (muM p M) b = _
            rw [mget_muM]
            cases p with
            | none => rfl
            | some p => exact if_neg fun h => hp ⟨⟨p.2, by rw [← h]⟩, hs⟩
        · cases i with
          | zero =>
            obtain rfl : p = some (b, k) := by simpa using hk
            cases hs : S (j + 0) with
            | false => rfl
            | true => exact absurd ⟨⟨k, rfl⟩, hs⟩ hp
          | succ i => rw [show j + (i + 1) = j + 1 + i by omega]; exact h2 i k (by simpa using hk)
    · refine .inr ⟨i + 1, k, by simpa using h1, by rw [show j + (i + 1) = j + 1 + i by omega]; exact h2, h3, fun i' k' hi hk => ?_⟩
      obtain ⟨i', rfl⟩ : ∃ n, i' = n + 1 := ⟨i' - 1, by omega⟩
      rw [show j + (i' + 1) = j + 1 + i' by omega]
      exact h4 i' k' (by omega) (by simpa using hk)

section
variable {P : Program} {N : Nat} {Q : DPost} {env : Env} {M M0 : Mem} {o : Oper} {rest : List Oper}
variable {l : List Oper} {ws : List (Nat × Nat × Nat)} {un : List (List Nat × List Nat)}

/-- What one operation does, whatever the operations did that it does not wait for. -/
def OpAt (P : Program) (N : Nat) (M0 : Mem) (l : List Oper) (un : List Nat × List Nat) (o : Oper) (env : Env) (M : Mem) (r : SV) (mu : Option (Nat × Blk)) : Prop :=
  ∀ (E : Env) (xs : Nat → List CV) (ys : Nat → Option Blk), DOps P N M0 l.toArray (fun e E' M' => e = .normal ∧ E' = putd o.dst r (restr env (o.looksAt l.toArray) ++ E) ∧ M' = muM mu (genM un xs ys M)) [o] (restr env (o.looksAt l.toArray) ++ E) (genM un xs ys M)

def DCf (P : Program) (N : Nat) (M0 : Mem) (l : List Oper) (Q : DPost) (ws : List (Nat × Nat × Nat)) (un : List (List Nat × List Nat)) : Nat → List Oper → Env → Mem → Prop
  | _, [], env, M => Q .normal env M
  | i, o :: rest, env, M => ∃ r mu, muOk ws i mu M ∧ OpAt P N M0 l (un.getD i ([], [])) o env M r mu ∧ DCf P N M0 l Q ws un (i + 1) rest (putd o.dst r env) (muM mu M)

theorem DCf.done {i : Nat} (h : Q .normal env M) : DCf P N M0 l Q ws un i [] env M := h
theorem DCf.pure {i d : Nat} {r : SV} (hd : o.dst = some d) (hw : wsAt ws i = none)
    (h1 : ∀ (E : Env) (xs : Nat → List CV) (ys : Nat → Option Blk), DOps P N M0 l.toArray (fun e E' M' => e = .normal ∧ E' = (d, r) :: (restr env (o.looksAt l.toArray) ++ E) ∧ M' = genM (un.getD i ([], [])) xs ys M) [o] (restr env (o.looksAt l.toArray) ++ E) (genM (un.getD i ([], [])) xs ys M))
    (h2 : DCf P N M0 l Q ws un (i + 1) rest ((d, r) :: env) M) : DCf P N M0 l Q ws un i (o :: rest) env M := by
  refine ⟨r, none, hw, ?_, ?_⟩
  · unfold OpAt
    rw [hd]
    exact h1
  · rw [hd]; exact h2
theorem DCf.make {i d b : Nat} {r : SV} {k : Blk} (hd : o.dst = some d) (hw : wsAt ws i = some (b, 1)) (hb : mget M b = none)
    (h1 : ∀ (E : Env) (xs : Nat → List CV) (ys : Nat → Option Blk), DOps P N M0 l.toArray (fun e E' M' => e = .normal ∧ E' = (d, r) :: (restr env (o.looksAt l.toArray) ++ E) ∧ M' = (b, some k) :: genM (un.getD i ([], [])) xs ys M) [o] (restr env (o.looksAt l.toArray) ++ E) (genM (un.getD i ([], [])) xs ys M))
    (h2 : DCf P N M0 l Q ws un (i + 1) rest ((d, r) :: env) ((b, some k) :: M)) : DCf P N M0 l Q ws un i (o :: rest) env M := by
  refine ⟨r, some (b, k), .inr (.inl ⟨hw, hb⟩), ?_, ?_⟩
  · unfold OpAt
    rw [hd]
    exact h1
  · rw [hd]; exact h2
theorem DCf.upd {i b : Nat} {k k0 : Blk} (hd : o.dst = none) (hw : wsAt ws i = some (b, 0)) (hb : mget M b = some k0)
    (h1 : ∀ (E : Env) (xs : Nat → List CV) (ys : Nat → Option Blk), DOps P N M0 l.toArray (fun e E' M' => e = .normal ∧ E' = restr env (o.looksAt l.toArray) ++ E ∧ M' = (b, some k) :: genM (un.getD i ([], [])) xs ys M) [o] (restr env (o.looksAt l.toArray) ++ E) (genM (un.getD i ([], [])) xs ys M))
    (hk : k0.frm = k.frm) (h2 : DCf P N M0 l Q ws un (i + 1) rest env ((b, some k) :: M)) : DCf P N M0 l Q ws un i (o :: rest) env M := by
  refine ⟨.junk, some (b, k), .inl ⟨hw, k0, hb, hk⟩, ?_, ?_⟩
  · unfold OpAt
    rw [hd]
    exact h1
  · rw [hd]; exact h2

theorem DCf.split : ∀ (rest : List Oper) (i : Nat) (env : Env) (M : Mem), DCf P N M0 l Q ws un i rest env M → ∃ (dr : List (Option Tmp × SV)) (us : List (Option (Nat × Blk))), dr.length = rest.length ∧ us.length = rest.length ∧
    (∀ (j : Nat) o, rest[j]? = some o → ∃ r mu, dr[j]? = some (o.dst, r) ∧ us[j]? = some mu ∧ muOk ws (i + j) mu (memC (fun n => decide (n < i + j)) i us M) ∧
      OpAt P N M0 l (un.getD (i + j) ([], [])) o (envC (fun n => decide (n < i + j)) i dr env) (memC (fun n => decide (n < i + j)) i us M) r mu) ∧
    Q .normal (envC (fun _ => true) i dr env) (memC (fun _ => true) i us M)
  | [], i, env, M, h => ⟨[], [], rfl, rfl, fun j o h => by simp at h, h⟩
  | o :: rest, i, env, M, ⟨r, mu, h1, h2, h3⟩ => by
    obtain ⟨dr, us, a1, a2, a3, a4⟩ := DCf.split rest (i + 1) _ _ h3
    have nm : ∀ (us : List (Option (Nat × Blk))) (j : Nat) (M : Mem), i ≤ j → memC (fun n => decide (n < i)) j us M = M := fun us => by
      induction us with
      | nil => intro _ _ _; rfl
      | cons p us ih => intro j M hj; rw [memC, show decide (j < i) = false from decide_eq_false (by omega)]; exact ih _ _ (by omega)
    have ne : ∀ (us : List (Option Tmp × SV)) (j : Nat) (M : Env), i ≤ j → envC (fun n => decide (n < i)) j us M = M := fun us => by
      induction us with
      | nil => intro _ _ _; rfl
      | cons p us ih => intro j M hj; rw [envC, show decide (j < i) = false from decide_eq_false (by omega)]; exact ih _ _ (by omega)
    refine ⟨(o.dst, r) :: dr, mu :: us, by simp [a1], by simp [a2], fun j p hp => ?_, a4⟩
    cases j with
    | zero =>
      obtain rfl : o = p := by simpa using hp
      refine ⟨r, mu, rfl, rfl, ?_⟩
      rw [Nat.add_zero, nm _ _ _ (Nat.le_refl _), ne _ _ _ (Nat.le_refl _)]
      exact ⟨h1, h2⟩
    | succ j =>
      obtain ⟨r', mu', b1, b2, b3⟩ := a3 j p (by simpa using hp)
      refine ⟨r', mu', by simpa using b1, by simpa using b2, ?_⟩
      rw [show i + (j + 1) = i + 1 + j by omega, memC, envC, show decide (i < i + 1 + j) = true from decide_eq_true (by omega)]
      exact b3
end
end Go.Proofs.YtejdeonbibbchaaGreatDoor.DL
set_option linter.unusedVariables false
set_option linter.unusedSimpArgs false
set_option linter.constructorNameAsVariable false
namespace Go.Proofs.YtejdeonbibbchaaGreatDoor.DL
open Go.RowKit

section
variable {P : Program} {N : Nat} {Q : DPost} {env : Env} {M M0 : Mem} {o : Oper} {rest : List Oper}
variable {l : List Oper} {ws : List (Nat × Nat × Nat)} {un : List (List Nat × List Nat)}
variable {dr : List (Option Tmp × SV)} {us : List (Option (Nat × Blk))}

/-- What is known of an operation's effect on memory. -/
def UsOk (ws : List (Nat × Nat × Nat)) (us : List (Option (Nat × Blk))) (M : Mem) : Prop :=
  ∀ (j : Nat) mu, us[j]? = some mu → muOk ws j mu (memC (fun n => decide (n < j)) 0 us M)

theorem UsOk.at (h : UsOk ws us M) {j b : Nat} {k : Blk} (hj : us[j]? = some (some (b, k))) : ∃ f, wsAt ws j = some (b, f) ∧
    ((f = 0 ∧ ∃ k0, mget (memC (fun n => decide (n < j)) 0 us M) b = some k0 ∧ k0.frm = k.frm) ∨ (f = 1 ∧ mget (memC (fun n => decide (n < j)) 0 us M) b = none) ∨ f = 2) := by
  rcases h j _ hj with ⟨h1, h2⟩ | ⟨h1, h2⟩ | h1
  · exact ⟨0, h1, .inl ⟨rfl, h2⟩⟩
  · exact ⟨1, h1, .inr (.inl ⟨rfl, h2⟩)⟩
  · exact ⟨2, h1, .inr (.inr rfl)⟩

theorem noChg_at {b j f : Nat} : ∀ {ws : List (Nat × Nat × Nat)}, noChg ws b = true → wsAt ws j = some (b, f) → f ≠ 2
  | [], _, h => by simp [wsAt] at h
  | (i, c, g) :: r, hn, h => by
    rw [noChg, List.all_cons, Bool.and_eq_true] at hn
    rw [wsAt] at h
    cases hb : Nat.beq i j with
    | true =>
      rw [hb] at h
      simp only [cond_true, Option.some.injEq, Prod.mk.injEq] at h
      obtain ⟨rfl, rfl⟩ := h
      have := hn.1
      simpa using this
    | false =>
      rw [hb] at h
      exact noChg_at hn.2 h

theorem muM_far {mu : Option (Nat × Blk)} {M : Mem} {b : Nat} (h : ¬ ∃ k, mu = some (b, k)) : mget (muM mu M) b = mget M b := by
  cases mu with
  | none => rfl
  | some p =>
    rw [muM, mget_cons, if_neg]
    exact fun e => h ⟨p.2, by rw [← e]⟩
theorem pre_succ (us : List (Option (Nat × Blk))) (M : Mem) (b m : Nat) (mu : Option (Nat × Blk)) (h : us[m]? = some mu) :
    mget (memC (fun n => decide (n < m + 1)) 0 us M) b = mget (muM mu (memC (fun n => decide (n < m)) 0 us M)) b := by
  by_cases hb : ∃ k, mu = some (b, k)
  · obtain ⟨k, rfl⟩ := hb
    rw [memC_last us 0 m M h (by simp) (fun i' k' hi _ => by simp; omega)]
    show _ = mget ((b, some k) :: _) b
    rw [mget_cons, if_pos rfl]
  · rw [muM_far hb]
    refine memC_congr us 0 M M (fun i k hi => ?_) rfl
    have : i ≠ m := fun e => hb ⟨k, by subst e; rw [h] at hi; injection hi⟩
    simp only [Nat.zero_add]
    by_cases h1 : i < m
    · rw [decide_eq_true h1, decide_eq_true (by omega : i < m + 1)]
    · rw [decide_eq_false h1, decide_eq_false (by omega : ¬ i < m + 1)]
theorem pre_out (us : List (Option (Nat × Blk))) (M : Mem) (b m : Nat) (h : us.length ≤ m) :
    mget (memC (fun n => decide (n < m + 1)) 0 us M) b = mget (memC (fun n => decide (n < m)) 0 us M) b := by
  refine memC_congr us 0 M M (fun i k hi => ?_) rfl
  have := (List.getElem?_eq_some_iff.1 hi).1
  simp only [Nat.zero_add]
  rw [decide_eq_true (by omega : i < m), decide_eq_true (by omega : i < m + 1)]
theorem pre_zero (us : List (Option (Nat × Blk))) (M : Mem) (b : Nat) : mget (memC (fun n => decide (n < 0)) 0 us M) b = mget M b := by
  rw [memC_congr (S' := fun _ => false) us 0 M M (fun i k hi => by simp) rfl, memC_none]

/-- A block that stays what it is keeps its frame. -/
theorem frm_keep (hu : UsOk ws us M) {b : Nat} (hn : noChg ws b = true) {m : Nat} {k0 : Blk} (h0 : mget (memC (fun n => decide (n < m)) 0 us M) b = some k0) :
    ∀ d, ∃ k1, mget (memC (fun n => decide (n < m + d)) 0 us M) b = some k1 ∧ k1.frm = k0.frm := by
  intro d
  induction d with
  | zero => exact ⟨k0, h0, rfl⟩
  | succ d ih =>
    obtain ⟨k1, h1, h2⟩ := ih
    rw [← Nat.add_assoc]
    cases hj : us[m + d]? with
    | none => exact ⟨k1, by rw [pre_out _ _ _ _ (List.getElem?_eq_none_iff.1 hj)]; exact h1, h2⟩
    | some mu =>
      rw [pre_succ _ _ _ _ mu hj]
      by_cases hb : ∃ k, mu = some (b, k)
      · obtain ⟨k, rfl⟩ := hb
        obtain ⟨f, hw, hf⟩ := hu.at hj
        refine ⟨k, by show mget ((b, some k) :: _) b = _; rw [mget_cons, if_pos rfl], ?_⟩
        rcases hf with ⟨_, k2, h3, h4⟩ | ⟨_, h3⟩ | h3
        · rw [h1] at h3
          injection h3 with h3
          rw [← h4, ← h3, h2]
        · rw [h1] at h3; cases h3
        · exact absurd h3 (noChg_at hn hw)
      · refine ⟨k1, ?_, h2⟩
        rw [muM_far hb]
        exact h1
theorem frm_any (S : Nat → Bool) {b : Nat} {k : Blk} (h : mget (memC S 0 us M) b = some k) : ∃ m, mget (memC (fun n => decide (n < m)) 0 us M) b = some k := by
  rcases memC_from (S := S) (b := b) us 0 M with ⟨h1, _⟩ | ⟨i, k', h1, _, h3, _⟩
  · exact ⟨0, by rw [pre_zero, ← h1]; exact h⟩
  · rw [h] at h3
    obtain rfl := Option.some.inj h3
    exact ⟨i + 1, by rw [pre_succ _ _ _ _ _ h1]; show mget ((b, some k) :: _) b = _; rw [mget_cons, if_pos rfl]⟩
theorem frm_eq (hu : UsOk ws us M) {b : Nat} (hn : noChg ws b = true) {S S' : Nat → Bool} {k k' : Blk} (h : mget (memC S 0 us M) b = some k) (h' : mget (memC S' 0 us M) b = some k') : k.frm = k'.frm := by
  obtain ⟨m, h1⟩ := frm_any S h
  obtain ⟨m', h1'⟩ := frm_any S' h'
  obtain ⟨k1, a1, a2⟩ := frm_keep hu hn h1 m'
  obtain ⟨k2, b1, b2⟩ := frm_keep hu hn h1' m
  rw [Nat.add_comm] at b1
  rw [a1] at b1
  obtain rfl := Option.some.inj b1
  rw [← a2, b2]

/-- The first operation that writes a block which is not there makes it. -/
theorem first_makes (hu : UsOk ws us M) {b : Nat} (hn : noChg ws b = true) (h0 : mget M b = none) : ∀ (n j : Nat) (k : Blk), j < n → us[j]? = some (some (b, k)) → ∃ j' k', j' ≤ j ∧ us[j']? = some (some (b, k')) ∧ wsAt ws j' = some (b, 1)
  | 0, j, k, hj, _ => absurd hj (Nat.not_lt_zero _)
  | n + 1, j, k, hj, h => by
    obtain ⟨f, hw, hf⟩ := hu.at h
    rcases hf with ⟨_, k0, h1, _⟩ | ⟨rfl, _⟩ | h1
    · rcases memC_from (S := fun n => decide (n < j)) (b := b) us 0 M with ⟨e, _⟩ | ⟨i, k', e1, e2, _, _⟩
      · rw [e, h0] at h1; cases h1
      · have hi : i < j := by simpa using e2
        obtain ⟨j', k2, a1, a2, a3⟩ := first_makes hu hn h0 n i k' (by omega) e1
        exact ⟨j', k2, by omega, a2, a3⟩
    · exact ⟨j, k, Nat.le_refl _, h, hw⟩
    · exact absurd h1 (noChg_at hn hw)

theorem Reach.lt (F : CfF l ws un) {i j : Nat} (h : Reach l i j) : j < i := by
  induction h with
  | one ho h => exact F.on _ _ ho _ h
  | more ho h r ih => exact Nat.lt_trans ih (F.on _ _ ho _ h)
theorem Reach.trans {i m j : Nat} (h : Reach l i m) (k : Reach l m j) : Reach l i j := by
  induction h with
  | one ho h => exact .more ho h k
  | more ho h _ ih => exact .more ho h (ih k)
theorem Reach.len {i j : Nat} (h : Reach l i j) : i < l.length := by
  cases h with
  | one ho _ => exact (List.getElem?_eq_some_iff.1 ho).1
  | more ho _ _ => exact (List.getElem?_eq_some_iff.1 ho).1

/-- Memory where an operation comes up, told as that operation is shown it. -/
theorem gen_at (F : CfF l ws un) (hu : UsOk ws us M) (hlen : us.length = l.length) {S : Nat → Bool} {i : Nat} (hi : i < l.length) (hS : S i = false) (hup : ∀ j, Reach l i j → S j = true) (hdn : ∀ j, Reach l j i → S j = false) :
    ∃ xs ys, ∀ b, mget (genM (un.getD i ([], [])) xs ys (memC (fun n => decide (n < i)) 0 us M)) b = mget (memC S 0 us M) b := by
  refine ⟨fun b => ((mget (memC S 0 us M) b).map Blk.cellsOf).getD [], fun b => mget (memC S 0 us M) b, fun b => ?_⟩
  unfold genM
  rw [mget_map_append, mget_map_append]
  have same : (∀ j k, us[j]? = some (some (b, k)) → j = i ∨ Reach l i j ∨ Reach l j i) → mget (memC (fun n => decide (n < i)) 0 us M) b = mget (memC S 0 us M) b := fun h => by
    refine memC_congr us 0 M M (fun j k hj => ?_) rfl
    simp only [Nat.zero_add]
    rcases h j k hj with rfl | h | h
    · rw [hS]; simp
    · rw [hup j h, decide_eq_true (h.lt F)]
    · rw [hdn j h, decide_eq_false]
      have := h.lt F
      omega
  split
  · rfl
  · rename_i hg
    split
    · rename_i hf
      by_cases hall : ∀ j k, us[j]? = some (some (b, k)) → j = i ∨ Reach l i j ∨ Reach l j i
      · rw [same hall]
        cases h0 : mget (memC S 0 us M) b with
        | none => rfl
        | some k =>
          refine congrArg some ?_
          simp only [h0]
          exact Blk.like_of rfl
      · obtain ⟨j, k, hj, hne, hn1, hn2⟩ : ∃ j k, us[j]? = some (some (b, k)) ∧ j ≠ i ∧ ¬ Reach l i j ∧ ¬ Reach l j i := by
          refine Classical.byContradiction fun hno => hall fun j k hj => ?_
          by_cases h1 : j = i
          · exact .inl h1
          · by_cases h2 : Reach l i j
            · exact .inr (.inl h2)
            · exact .inr (.inr (Classical.byContradiction fun h3 => hno ⟨j, k, hj, h1, h2, h3⟩))
        have lenj : ∀ {j k}, us[j]? = some (some (b, k)) → j < l.length := fun h => by rw [← hlen]; exact (List.getElem?_eq_some_iff.1 h).1
        -- an operation that writes b and is not bound to i
        have free : ∀ j k, us[j]? = some (some (b, k)) → j ≠ i → ¬ Reach l i j → ¬ Reach l j i → wsAt ws j = some (b, 0) ∧ noChg ws b = true ∧ (∀ f', wsAt ws i ≠ some (b, f')) := fun j k hj hne h1 h2 => by
          obtain ⟨f, hw, _⟩ := hu.at hj
          rcases F.mem i j b f hi (lenj hj) hw hne with h | h | ⟨h3, h4⟩
          · exact absurd h h1
          · exact absurd h h2
          · rcases h4 with h4 | ⟨rfl, h5, _⟩
            · exact absurd h4 hg
            · exact ⟨hw, h5, h3⟩
        obtain ⟨_, hno, hi0⟩ := free j k hj hne hn1 hn2
        have makes : ∀ j0 k0, us[j0]? = some (some (b, k0)) → wsAt ws j0 = some (b, 1) → Reach l i j0 ∨ Reach l j0 i := fun j0 k0 h1 h2 => by
          have hne0 : j0 ≠ i := fun e => hi0 1 (by rw [← e]; exact h2)
          refine Classical.byContradiction fun hno2 => ?_
          obtain ⟨h3, _, _⟩ := free j0 k0 h1 hne0 (fun h => hno2 (.inl h)) (fun h => hno2 (.inr h))
          rw [h2] at h3
          simp at h3
        have both : ∀ j j' k k', us[j]? = some (some (b, k)) → us[j']? = some (some (b, k')) → j' < j → Reach l j j' := fun j j' k k' h1 h2 hlt => by
          obtain ⟨f, hw, _⟩ := hu.at h2
          obtain ⟨f', hw', _⟩ := hu.at h1
          rcases F.mem j j' b f (lenj h1) (lenj h2) hw (by omega) with h | h | ⟨h, _⟩
          · exact h
          · have := h.lt F; omega
          · exact absurd hw' (h f')
        cases h1 : mget (memC (fun n => decide (n < i)) 0 us M) b with
        | some k1 =>
          cases h2 : mget (memC S 0 us M) b with
          | some k2 =>
            refine congrArg some ?_
            simp only [h2]
            exact Blk.like_of (frm_eq hu hno h1 h2)
          | none =>
            exfalso
            rcases memC_from (S := S) (b := b) us 0 M with ⟨e, es⟩ | ⟨_, _, _, _, e, _⟩
            · rw [h2] at e
              rcases memC_from (S := fun n => decide (n < i)) (b := b) us 0 M with ⟨e', _⟩ | ⟨a, ka, e1, e2, _, _⟩
              · rw [h1, ← e] at e'; cases e'
              · obtain ⟨j0, k0, g1, g2, g3⟩ := first_makes hu hno e.symm _ a ka (Nat.lt_succ_self _) e1
                have hai : a < i := by simpa using e2
                rcases makes j0 k0 g2 g3 with h | h
                · have := es j0 k0 g2
                  rw [Nat.zero_add, hup j0 h] at this
                  cases this
                · have := h.lt F
                  omega
            · rw [h2] at e; cases e
        | none =>
          cases h2 : mget (memC S 0 us M) b with
          | none => rfl
          | some k2 =>
            exfalso
            rcases memC_from (S := fun n => decide (n < i)) (b := b) us 0 M with ⟨e, es⟩ | ⟨_, _, _, _, e, _⟩
            · rw [h1] at e
              rcases memC_from (S := S) (b := b) us 0 M with ⟨e', _⟩ | ⟨a, ka, e1, e2, _, _⟩
              · rw [h2, ← e] at e'; cases e'
              · rw [Nat.zero_add] at e2
                obtain ⟨j0, k0, g1, g2, g3⟩ := first_makes hu hno e.symm _ a ka (Nat.lt_succ_self _) e1
                rcases makes j0 k0 g2 g3 with h | h
                · have := es j0 k0 g2
                  have hlt := h.lt F
                  simp at this
                  omega
                · have ha : Reach l a i := by
                    by_cases hj0 : j0 = a
                    · rw [← hj0]; exact h
                    · exact (both a j0 ka k0 e1 g2 (by omega)).trans h
                  rw [hdn a ha] at e2
                  cases e2
            · rw [h1] at e; cases e
    · rename_i hf
      refine same fun j k hj => ?_
      obtain ⟨f, hw, _⟩ := hu.at hj
      by_cases hne : j = i
      · exact .inl hne
      · rcases F.mem i j b f hi (by rw [← hlen]; exact (List.getElem?_eq_some_iff.1 hj).1) hw hne with h | h | ⟨_, h | ⟨_, _, h⟩⟩
        · exact .inr (.inl h)
        · exact .inr (.inr h)
        · exact absurd h hg
        · exact absurd h hf

theorem wpAny_conf (F : CfF l ws un) (hd : dr.length = l.length) (hlen : us.length = l.length) (hu : UsOk ws us M)
    (hop : ∀ (j : Nat) o, l[j]? = some o → ∃ r mu, dr[j]? = some (o.dst, r) ∧ us[j]? = some mu ∧ OpAt P N M0 l (un.getD j ([], [])) o (envC (fun n => decide (n < j)) 0 dr env) (memC (fun n => decide (n < j)) 0 us M) r mu)
    (hend : Q .normal (envC (fun _ => true) 0 dr env) (memC (fun _ => true) 0 us M)) {x0 : Ctx} (hx : x0.M0 = M0) : ∀ (fuel : Nat) (listed : Array Bool) (a : Act) (w : World),
    ((List.range l.length).countP fun j => !listed.getD j true) ≤ fuel → listed.size = l.length → (∀ i o, l[i]? = some o → listed.getD i false = true → ∀ j ∈ ons o, listed.getD j false = true) →
    At x0 N (envC (fun j => listed.getD j false) 0 dr env) (memC (fun j => listed.getD j false) 0 us M) a w → wpAny P .any l.toArray (up x0 N Q) fuel listed a w := by
  have fin : ∀ (listed : Array Bool) (a : Act) (w : World), (∀ j, j < l.length → listed.getD j false = true) →
      At x0 N (envC (fun j => listed.getD j false) 0 dr env) (memC (fun j => listed.getD j false) 0 us M) a w → up x0 N Q .normal a w := fun listed a w hall hat => by
    refine ⟨_, _, ?_, hend⟩
    refine Wk.memo (M0 := M0) (fun t => .inr ?_) (fun b => ?_) x0 a w hx hat
    · refine envC_congr dr 0 env env (fun i r hi => ?_) rfl
      rw [Nat.zero_add, hall i (by rw [← hd]; exact (List.getElem?_eq_some_iff.1 hi).1)]
    · refine memC_congr us 0 M M (fun i r hi => ?_) rfl
      rw [Nat.zero_add, hall i (by rw [← hlen]; exact (List.getElem?_eq_some_iff.1 hi).1)]
  have none_ready : ∀ (listed : Array Bool), listed.size = l.length → Region.ready .any l.toArray listed = [] → ∀ j, j < l.length → listed.getD j false = true := fun listed hs h0 => by
    have gd2 : ∀ j, j < l.length → listed.getD j false = listed.getD j true := fun j hj => by
      rw [Array.getD_eq_getD_getElem?, Array.getD_eq_getD_getElem?, Array.getElem?_eq_getElem (by omega)]; rfl
    intro j
    induction j using Nat.strongRecOn with
    | _ j ih =>
      intro hj
      refine Classical.byContradiction fun hn => ?_
      have hjl : listed.getD j true = false := by
        rw [← gd2 j hj]
        simpa using hn
      have hmem : j ∈ Region.ready .any l.toArray listed := ready_of (by simpa using hj) hjl (o := l[j]) (by simp [hj]) fun e he hb => by
        have hlt := F.on j _ (List.getElem?_eq_getElem hj) e.on (by simp only [ons, List.mem_map, List.mem_filter]; exact ⟨e, ⟨he, hb⟩, rfl⟩)
        exact ih _ hlt (by omega)
      rw [h0] at hmem
      cases hmem
  intro fuel
  induction fuel with
  | zero =>
    intro listed a w hc hs hcl hat
    have hall : ∀ j, j < l.length → listed.getD j false = true := fun j hj => by
      have := List.countP_eq_zero.1 (Nat.le_zero.1 hc) j (List.mem_range.2 hj)
      rw [Array.getD_eq_getD_getElem?, Array.getElem?_eq_getElem (by omega)] at this ⊢
      simpa using this
    refine ⟨List.eq_nil_iff_forall_not_mem.2 fun i hi => ?_, fin listed a w hall hat⟩
    obtain ⟨h1, h2, _⟩ := mem_ready hi
    have h1' : i < l.length := by simpa using h1
    have := hall i h1'
    rw [Array.getD_eq_getD_getElem?, Array.getElem?_eq_getElem (by omega)] at this h2
    simp at this h2
    rw [h2] at this
    cases this
  | succ fuel ih =>
    intro listed a w hc hs hcl hat
    refine ⟨fun h0 => fin listed a w (none_ready listed hs h0) hat, fun i hi => ?_⟩
    obtain ⟨h1, h2, o, ho', h3⟩ := mem_ready hi
    have hil : i < l.length := by simpa using h1
    have ho : l[i]? = some o := by simpa using ho'
    have gd2 : listed.getD i false = false := by
      rw [Array.getD_eq_getD_getElem?, Array.getElem?_eq_getElem (by omega)] at h2 ⊢
      simpa using h2
    have hons : ∀ j ∈ ons o, listed.getD j false = true := fun j hj => by
      simp only [ons, List.mem_map, List.mem_filter] at hj
      obtain ⟨e, ⟨he, hb⟩, rfl⟩ := hj
      exact h3 e he hb
    have hup : ∀ j, Reach l i j → listed.getD j false = true := fun j hj => reach_listed (S := fun j => listed.getD j false) hcl hj fun o2 ho2 k hk => by
      rw [ho] at ho2
      obtain rfl := Option.some.inj ho2
      exact hons k hk
    have hdn : ∀ j, Reach l j i → listed.getD j false = false := fun j hj => by
      cases hb : listed.getD j false with
      | false => rfl
      | true =>
        have := reach_listed (S := fun j => listed.getD j false) hcl hj fun o2 ho2 k hk => hcl j o2 ho2 hb k hk
        rw [gd2] at this
        cases this
    obtain ⟨r, mu, hdr, hus, hopi⟩ := hop i o ho
    obtain ⟨xs, ys, hgen⟩ := gen_at F hu hlen hil gd2 hup hdn
    have hlook : ∀ t ∈ o.looksAt l.toArray, lk (envC (fun n => decide (n < i)) 0 dr env) t = lk (envC (fun j => listed.getD j false) 0 dr env) t := fun t ht => by
      refine envC_congr dr 0 env env (fun j r' hj => ?_) rfl
      rw [Nat.zero_add]
      have hjl : j < l.length := by rw [← hd]; exact (List.getElem?_eq_some_iff.1 hj).1
      obtain ⟨r2, _, hj2, _⟩ := hop j _ (List.getElem?_eq_getElem hjl)
      rw [hj] at hj2
      have hdst : l[j].dst = some t := by
        injection hj2 with hj2
        injection hj2 with hj2 _
        exact hj2.symm
      by_cases hne : j = i
      · subst hne; rw [gd2]; simp
      · rcases F.look i o ho t ht j _ (List.getElem?_eq_getElem hjl) hdst hne with h | h
        · rw [hup j h, decide_eq_true (h.lt F)]
        · have := h.lt F
          rw [hdn j h, decide_eq_false (by omega)]
    generalize hE : envC (fun j => listed.getD j false) 0 dr env = eS at hat hlook
    have hat2 : At x0 N (restr (envC (fun n => decide (n < i)) 0 dr env) (o.looksAt l.toArray) ++ eS) (genM (un.getD i ([], [])) xs ys (memC (fun n => decide (n < i)) 0 us M)) a w := by
      refine Wk.memo (M0 := M0) (fun t => .inr ?_) hgen x0 a w hx hat
      have key : ∀ (ts : List Tmp), (∀ t ∈ ts, lk (envC (fun n => decide (n < i)) 0 dr env) t = lk eS t) → lk (restr (envC (fun n => decide (n < i)) 0 dr env) ts ++ eS) t = lk eS t := by
        intro ts
        induction ts with
        | nil => intro _; rfl
        | cons u ts ih2 =>
          intro hts
          show lk ((u, lk _ u) :: (restr _ ts ++ eS)) t = _
          rw [lk_cons, ih2 fun t ht => hts t (List.mem_cons_of_mem _ ht)]
          split
          · rename_i e
            rw [hts u (by simp), e]
          · rfl
      exact key _ hlook
    have hlk : ∀ t, lk (restr (envC (fun n => decide (n < i)) 0 dr env) (o.looksAt l.toArray) ++ eS) t = lk eS t := fun t => by
      have key : ∀ (ts : List Tmp), (∀ t ∈ ts, lk (envC (fun n => decide (n < i)) 0 dr env) t = lk eS t) → lk (restr (envC (fun n => decide (n < i)) 0 dr env) ts ++ eS) t = lk eS t := by
        intro ts
        induction ts with
        | nil => intro _; rfl
        | cons u ts ih2 =>
          intro hts
          show lk ((u, lk _ u) :: (restr _ ts ++ eS)) t = _
          rw [lk_cons, ih2 fun t ht => hts t (List.mem_cons_of_mem _ ht)]
          split
          · rename_i e
            rw [hts u (by simp), e]
          · rfl
      exact key _ hlook
    have hrun := hopi eS xs ys x0 a w hx hat2
    have K : ∀ a' w', wpList P l.toArray (up x0 N fun e E' M' => e = .normal ∧ E' = putd o.dst r (restr (envC (fun n => decide (n < i)) 0 dr env) (o.looksAt l.toArray) ++ eS) ∧ M' = muM mu (genM (un.getD i ([], [])) xs ys (memC (fun n => decide (n < i)) 0 us M))) [] a' w' →
        wpAny P .any l.toArray (up x0 N Q) fuel (listed.setIfInBounds i true) a' w' := fun a' w' ⟨E', M', hat', _, hE', hM'⟩ => by
      subst hE' hM'
      have gset : ∀ j, (listed.setIfInBounds i true).getD j false = if j = i then true else listed.getD j false := fun j => by
        by_cases hj : j = i
        · subst hj
          rw [if_pos rfl]
          simp [Array.getD_eq_getD_getElem?, hs, hil]
        · rw [if_neg hj, Array.getD_eq_getD_getElem?, Array.getElem?_setIfInBounds_ne (Ne.symm hj), ← Array.getD_eq_getD_getElem?]
      refine ih _ a' w' ?_ (by simpa using hs) (fun j p hp hj k hk => ?_) (Wk.memo (M0 := M0) (fun t => .inr ?_) (fun b => ?_) x0 a' w' hx hat')
      · have := unl_lt hil h2
        omega
      · rw [gset] at hj ⊢
        by_cases hji : j = i
        · subst hji
          rw [ho] at hp
          obtain rfl := Option.some.inj hp
          rw [hons k hk]
          simp
        · rw [if_neg hji] at hj
          rw [hcl j p hp hj k hk]
          simp
      · rw [lk_putd, hlk]
        by_cases hdt : o.dst = some t
        · rw [if_pos hdt]
          rw [hdt] at hdr
          refine envC_last dr 0 i env hdr (by simp only [Nat.zero_add]; rw [gset, if_pos rfl]) fun j r' hij hj => ?_
          simp only [Nat.zero_add]
          rw [gset, if_neg (by omega)]
          have hjl : j < l.length := by rw [← hd]; exact (List.getElem?_eq_some_iff.1 hj).1
          obtain ⟨r2, _, hj2, _⟩ := hop j _ (List.getElem?_eq_getElem hjl)
          rw [hj] at hj2
          have hdst : l[j].dst = some t := by
            injection hj2 with hj2
            injection hj2 with hj2 _
            exact hj2.symm
          rcases F.ord i j o _ t ho (List.getElem?_eq_getElem hjl) hdt hdst (by omega) with h | h
          · have := h.lt F; omega
          · exact hdn j h
        · rw [if_neg hdt, ← hE]
          refine envC_congr dr 0 env env (fun j r' hj => ?_) rfl
          simp only [Nat.zero_add]
          rw [gset, if_neg fun e => ?_]
          subst e
          rw [hdr] at hj
          injection hj with hj
          injection hj with hj _
          exact hdt hj
      · by_cases hb : ∃ k, mu = some (b, k)
        · obtain ⟨k, rfl⟩ := hb
          rw [memC_last us 0 i M hus (by simp only [Nat.zero_add]; rw [gset, if_pos rfl]) fun j k' hij hj => ?_]
          · show some k = mget ((b, some k) :: _) b
            rw [mget_cons, if_pos rfl]
          · simp only [Nat.zero_add]
            rw [gset, if_neg (by omega)]
            obtain ⟨f, hw, _⟩ := hu.at hj
            obtain ⟨f', hw', _⟩ := hu.at hus
            rcases F.mem i j b f hil (by rw [← hlen]; exact (List.getElem?_eq_some_iff.1 hj).1) hw (by omega) with h | h | ⟨h, _⟩
            · have := h.lt F; omega
            · exact hdn j h
            · exact absurd hw' (h f')
        · rw [muM_far hb, hgen]
          refine memC_congr us 0 M M (fun j k hj => ?_) rfl
          simp only [Nat.zero_add]
          rw [gset, if_neg fun e => ?_]
          subst e
          rw [hus] at hj
          injection hj with hj
          exact hb ⟨k, hj⟩
    unfold wpOp
    simp only [ho']
    unfold wpList at hrun
    split
    · rename_i hw
      rw [if_pos hw] at hrun
      exact hrun.imp (wp_exits K fun e a w hne ⟨_, _, _, he, _⟩ => absurd he hne) fun ⟨_, _, _, _, _, _, he, _⟩ => by cases he
    · rename_i hw
      rw [if_neg hw] at hrun
      exact K _ _ hrun

/-- A statement whose order is open, walked once in the text's order. -/
theorem DCode.conf {id : Nat} (ws : List (Nat × Nat × Nat)) (un : List (List Nat × List Nat)) (hm : P.follows .mixedOrders = true) (hok : confOk l ws un = true) (h : DCf P N M0 l Q ws un 0 l env M) : DCode P N M0 (.region id l.toArray true) Q env M := by
  intro x0 a w hx hat
  have F := confOk_facts hok
  obtain ⟨dr, us, hd, hlen, hop, hend⟩ := DCf.split l 0 env M h
  refine wp_region_any hm ?_
  have hz : ∀ j : Nat, (Array.replicate l.toArray.size false).getD j false = false := fun j => by
    rw [Array.getD_eq_getD_getElem?, Array.getElem?_replicate]
    split <;> rfl
  have hu : UsOk ws us M := fun j mu hj => by
    have hjl : j < l.length := by rw [← hlen]; exact (List.getElem?_eq_some_iff.1 hj).1
    obtain ⟨r, mu', _, h2, h3, _⟩ := hop j _ (List.getElem?_eq_getElem hjl)
    rw [hj] at h2
    obtain rfl := Option.some.inj h2
    rw [Nat.zero_add] at h3
    exact h3
  refine wpAny_conf F hd hlen hu (fun j o ho => ?_) hend hx _ _ a _ ?_ (by simp) (fun i o _ hi => ?_) ?_
  · obtain ⟨r, mu, h1, h2, _, h4⟩ := hop j o ho
    rw [Nat.zero_add] at h4
    exact ⟨r, mu, h1, h2, h4⟩
  · refine Nat.le_trans (List.countP_le_length) ?_
    simp
  · rw [hz] at hi; cases hi
  · refine Wk.memo (M0 := M0) (fun t => .inr ?_) (fun b => ?_) x0 a _ hx hat.drew
    · rw [envC_congr (S' := fun _ => false) dr 0 env env (fun i r _ => by simp only [hz]) rfl]
      have : ∀ (l : List (Option Tmp × SV)) (j : Nat) (e : Env), envC (fun _ => false) j l e = e := fun l => by
        induction l with
        | nil => intro _ _; rfl
        | cons p l ih => intro j e; rw [envC]; exact ih _ _
      rw [this]
    · rw [memC_congr (S' := fun _ => false) us 0 M M (fun i r _ => by simp only [hz]) rfl, memC_none]
end
end Go.Proofs.YtejdeonbibbchaaGreatDoor.DL
set_option linter.unusedVariables false
set_option linter.unusedSimpArgs false
set_option linter.constructorNameAsVariable false
namespace Go.Proofs.YtejdeonbibbchaaGreatDoor.DL
open Go.RowKit

/-- An operation's kind. -/
def opK : Op → Nat
  | .move _ => 0
  | .assign _ => 1
  | .pick .. => 2
  | .load .. => 3
  | .binOp .add .. => 10
  | .binOp .sub .. => 11
  | .binOp .eql .. => 12
  | .binOp .neq .. => 13
  | .binOp .lss .. => 14
  | .binOp .leq .. => 14
  | .binOp .gtr .. => 14
  | .binOp .geq .. => 14
  | .binOp .. => 15
  | .unOp .. => 16
  | .call .. => 17
  | .fieldAddr .. => 18
  | .indexAddr .. => 19
  | .field .. => 20
  | .index .. => 21
  | .slice .. => 22
  | .extract .. => 23
  | .nilCheck .. => 24
  | .build .. => 25
  | .convert .. => 26
  | .makeFunc .. => 27
  | .buildSlice .. => 28
  | .alloc .. => 29
  | .box .. => 30
  | .store .. => 31
  | .makeInterface .. => 32
  | .makeSlice .. => 33
  | _ => 99

/-- Slots told one by one, but for some of them. -/
def KSub (ds : List Nat) : Env → Env → Prop
  | [], _ => True
  | (d, x) :: r, env => (ds.contains d = true ∨ lk env d = x) ∧ KSub ds r env
theorem KSub.nil {ds : List Nat} {env : Env} : KSub ds [] env := trivial
theorem KSub.skip {ds : List Nat} {d : Nat} {x : SV} {r env : Env} (hd : ds.contains d = true) (h : KSub ds r env) : KSub ds ((d, x) :: r) env := ⟨.inl hd, h⟩
theorem KSub.cons {ds : List Nat} {d : Nat} {x : SV} {r env : Env} (hx : lk env d = x) (h : KSub ds r env) : KSub ds ((d, x) :: r) env := ⟨.inr hx, h⟩
theorem KSub.get {ds : List Nat} {env : Env} {i : Nat} (hi : ds.contains i = false) : ∀ {K : Env}, KSub ds K env → lk K i = .junk ∨ lk K i = lk env i
  | [], _ => .inl rfl
  | (d, x) :: r, h => by
    rw [lk_cons]
    by_cases hd : d = i
    · subst hd
      rw [if_pos rfl]
      rcases h.1 with h1 | h1
      · rw [hi] at h1; cases h1
      · exact .inr h1.symm
    · rw [if_neg hd]
      exact KSub.get hi h.2
theorem Sub.keep {ds : List Nat} {K env : Env} (h : KSub ds K env) : Sub (junks ds K) env := fun i => by
  rw [lk_junks]
  cases hi : ds.contains i with
  | true => exact .inl rfl
  | false => exact KSub.get hi h

section
variable {P : Program} {N : Nat} {ops : Array Oper} {Q : DPost} {env : Env} {M M0 : Mem} {o : Oper} {rest : List Oper}
theorem DOps.valK (n : Nat) {d : Nat} (_ : opK o.op = n) (hg : gd ops env o = some true) (hd : o.dst = some d) (hN : Nat.blt d N = true) (h : ∃ r, OpVal P N env M o r ∧ DOps P N M0 ops Q rest ((d, r) :: env) M) : DOps P N M0 ops Q (o :: rest) env M :=
  let ⟨_, h1, h2⟩ := h
  DOps.val hg hd hN h1 h2
theorem DOps.k (n : Nat) (_ : opK o.op = n) (h : DOps P N M0 ops Q (o :: rest) env M) : DOps P N M0 ops Q (o :: rest) env M := h

variable {l : List Oper} {ws : List (Nat × Nat × Nat)} {un : List (List Nat × List Nat)} {i : Nat}
theorem DCf.k (n : Nat) (_ : opK o.op = n) (h : DCf P N M0 l Q ws un i (o :: rest) env M) : DCf P N M0 l Q ws un i (o :: rest) env M := h
theorem DCf.valK (n : Nat) {d : Nat} (_ : opK o.op = n) (hw : wsAt ws i = none) (hg : ∀ E, gd l.toArray (restr env (o.looksAt l.toArray) ++ E) o = some true) (hd : o.dst = some d) (hN : Nat.blt d N = true)
    (h : ∃ r, (∀ E xs ys, OpVal P N (restr env (o.looksAt l.toArray) ++ E) (genM (un.getD i ([], [])) xs ys M) o r) ∧ DCf P N M0 l Q ws un (i + 1) rest ((d, r) :: env) M) : DCf P N M0 l Q ws un i (o :: rest) env M :=
  let ⟨_, h1, h2⟩ := h
  DCf.pure hd hw (fun E xs ys => DOps.val (hg E) hd hN (h1 E xs ys) (DOps.nil ⟨rfl, rfl, rfl⟩)) h2
theorem DCf.new {d : Nat} {r : SV} (hw : wsAt ws i = none) (hg : ∀ E, gd l.toArray (restr env (o.looksAt l.toArray) ++ E) o = some true) (hd : o.dst = some d) (hN : Nat.blt d N = true)
    (hv : ∀ E xs ys, OpNew P N (restr env (o.looksAt l.toArray) ++ E) (genM (un.getD i ([], [])) xs ys M) o r) (h : DCf P N M0 l Q ws un (i + 1) rest ((d, r) :: env) M) : DCf P N M0 l Q ws un i (o :: rest) env M :=
  DCf.pure hd hw (fun E xs ys => DOps.new (hg E) hd hN (hv E xs ys) (DOps.nil ⟨rfl, rfl, rfl⟩)) h
theorem DCf.off {d : Nat} (hw : wsAt ws i = none) (hg : ∀ E, gd l.toArray (restr env (o.looksAt l.toArray) ++ E) o = some false) (hd : o.dst = some d) (hN : Nat.blt d N = true) (h : DCf P N M0 l Q ws un (i + 1) rest ((d, .tup []) :: env) M) :
    DCf P N M0 l Q ws un i (o :: rest) env M :=
  DCf.pure hd hw (fun E _ _ => DOps.off (hg E) hd hN (DOps.nil ⟨rfl, rfl, rfl⟩)) h
theorem DCf.call {d : Nat} {cl : Call} {f : FuncId} {fn : Func} {c : Code} {ts rs : List TV} (hw : wsAt ws i = none) (hg : ∀ E, gd l.toArray (restr env (o.looksAt l.toArray) ++ E) o = some true) (hd : o.dst = some d) (hN : Nat.blt d N = true) (ho : o.op = .call cl) (hcl : cl.callee = .value (.func f))
    (hf : P.funcs[f]? = some fn) (hb : fn.body = some c) (hn : (fn.name == "runtime.NumGoroutine") = false) (hx : ∀ E, opvs (restr env (o.looksAt l.toArray) ++ E) cl.args.toList = some ts) (hp : ∀ t ∈ ts, t.pure) (hc : DCalls P f ts (fun us => us = rs))
    (h : DCf P N M0 l Q ws un (i + 1) rest ((d, ret1 rs) :: env) M) : DCf P N M0 l Q ws un i (o :: rest) env M :=
  DCf.pure hd hw (fun E _ _ => DOps.call1 (hg E) hd hN ho hcl hf hb hn (hx E) hp hc (DOps.nil ⟨rfl, rfl, rfl⟩)) h
theorem DCf.callV {cl : Call} {x : Operand} {f : FuncId} {n : Nat} {cap : Nat → DV} {fn : Func} {c : Code} {ts rs : List TV} {d : Nat} (hw : wsAt ws i = none) (hg : ∀ E, gd l.toArray (restr env (o.looksAt l.toArray) ++ E) o = some true) (hd : o.dst = some d) (hN : Nat.blt d N = true) (ho : o.op = .call cl) (hcl : cl.callee = .value x)
    (hv : ∀ E, opv (restr env (o.looksAt l.toArray) ++ E) x = .v (.one (.d (.fn f n cap)))) (hf : P.funcs[f]? = some fn) (hb : fn.body = some c) (hn : (fn.name == "runtime.NumGoroutine") = false) (hx : ∀ E, opvs (restr env (o.looksAt l.toArray) ++ E) cl.args.toList = some ts) (hp : ∀ t ∈ ts, t.pure)
    (hc : DCalls P f (ts ++ capTs n cap) (fun us => us = rs)) (h : DCf P N M0 l Q ws un (i + 1) rest ((d, ret1 rs) :: env) M) : DCf P N M0 l Q ws un i (o :: rest) env M :=
  DCf.pure hd hw (fun E _ _ => DOps.callV (hg E) hd hN ho hcl (hv E) hf hb hn (hx E) hp hc (DOps.nil ⟨rfl, rfl, rfl⟩)) h
theorem DCf.alS {T : TypeId → Option TyI} (hT : TOk P T) {t s0 b0 d : Nat} {z0 : Value} {d0 : TypeDesc} (hw : wsAt ws i = some (d, 1)) (hg : ∀ E, gd l.toArray (restr env (o.looksAt l.toArray) ++ E) o = some true) (hd : o.dst = some d) (hN : Nat.blt d N = true) (ho : o.op = .alloc t) (ht : T t = some ⟨d0, s0, b0, z0⟩)
    (hz1 : z0.cells.toList.all (·.oneCell') = true) (hb : mget M d = none) (hb' : ∀ xs ys, mget (genM (un.getD i ([], [])) xs ys M) d = none) (h : DCf P N M0 l Q ws un (i + 1) rest ((d, .v (.one (.ptr d 0))) :: env) ((d, some (.box t (dvs z0))) :: M)) : DCf P N M0 l Q ws un i (o :: rest) env M :=
  DCf.make hd hw hb (fun E xs ys => DOps.alS hT (hg E) hd hN ho ht hz1 (hb' xs ys) (DOps.nil ⟨rfl, rfl, rfl⟩)) h
theorem DCf.boxS {T : TypeId} {x : Operand} {t : TV} {d : Nat} (hw : wsAt ws i = some (d, 1)) (hg : ∀ E, gd l.toArray (restr env (o.looksAt l.toArray) ++ E) o = some true) (hd : o.dst = some d) (hN : Nat.blt d N = true) (ho : o.op = .box T x) (hx : ∀ E, opv (restr env (o.looksAt l.toArray) ++ E) x = .v t)
    (hb : mget M d = none) (hb' : ∀ xs ys, mget (genM (un.getD i ([], [])) xs ys M) d = none) (h : DCf P N M0 l Q ws un (i + 1) rest ((d, .v (.one (.ptr d 0))) :: env) ((d, some (.box T t.cells)) :: M)) : DCf P N M0 l Q ws un i (o :: rest) env M :=
  DCf.make hd hw hb (fun E xs ys => DOps.boxS (hg E) hd hN ho (hx E) (hb' xs ys) (DOps.nil ⟨rfl, rfl, rfl⟩)) h
theorem DCf.store {T : TypeId → Option TyI} (hT : TOk P T) {t : TypeId} {j : TyI} {x y : Operand} {b k : Nat} {tb : TypeId} {cs cs' : List CV} {tv : TV} (hd : o.dst = none) (ho : o.op = .store t x y) (hg : ∀ E, gd l.toArray (restr env (o.looksAt l.toArray) ++ E) o = some true) 
    (ht : T t = some j) (hx : ∀ E, opv (restr env (o.looksAt l.toArray) ++ E) x = .v (.one (.ptr b k))) (hy : ∀ E, opv (restr env (o.looksAt l.toArray) ++ E) y = .v tv) (hw : wsAt ws i = some (b, 0)) (hm : mget M b = some (.box tb cs)) (hm' : ∀ xs ys, mget (genM (un.getD i ([], [])) xs ys M) b = some (.box tb cs))
    (hs : tv.cells.length = j.size) (hk : k + tv.cells.length ≤ cs.length) (hc : DL.splice cs k tv.cells = cs') (h : DCf P N M0 l Q ws un (i + 1) rest env ((b, some (.box tb cs')) :: M)) : DCf P N M0 l Q ws un i (o :: rest) env M :=
  DCf.upd hd hw hm (fun E xs ys => DOps.store hT (hg E) hd ho ht (hx E) (hy E) (hm' xs ys) hs hk hc (DOps.nil ⟨rfl, rfl, rfl⟩)) rfl h
theorem OpVal.toU {T : TypeId → Option TyI} (hT : TOk P T) {t t' : TypeId} {s b s' b' : Nat} {z z' : Value} {x : Operand} {n : Int} (ho : o.op = .convert t t' x) (ht : T t = some ⟨.int .i64, s, b, z⟩) (ht' : T t' = some ⟨.int .u64, s', b', z'⟩) (hx : opv env x = vI .i64 n) (h0 : 0 ≤ n) (h1 : n ≤ 9223372036854775807) :
    OpVal P N env M o (vI .u64 n) := OpVal.cast (OpVal.conv hT ho ht rfl ht' rfl hx) (vI_congr (IntWalk.u64_in n ⟨h0, by omega⟩))
theorem OpVal.toI {T : TypeId → Option TyI} (hT : TOk P T) {t t' : TypeId} {s b s' b' : Nat} {z z' : Value} {x : Operand} {n : Int} (ho : o.op = .convert t t' x) (ht : T t = some ⟨.int .u64, s, b, z⟩) (ht' : T t' = some ⟨.int .i64, s', b', z'⟩) (hx : opv env x = vI .u64 n) (h0 : 0 ≤ n) (h1 : n ≤ 9223372036854775807) :
    OpVal P N env M o (vI .i64 n) := OpVal.cast (OpVal.conv hT ho ht rfl ht' rfl hx) (vI_congr (wrap_in64 (by omega) h1))
theorem OpVal.half {t t' : TypeId} {x y : Operand} {k2 : IntKind} {n : Int} (ho : o.op = .binOp .shr t x y t') (hx : opv env x = vI .u64 n) (hy : opv env y = vI k2 1) : OpVal P N env M o (vI .u64 (n / 2)) :=
  OpVal.of_run (v := .int .u64 (n / 2)) trivial fun γ Pr x0 a w h => ⟨by
    have : n.fdiv 2 = n / 2 := Int.fdiv_eq_ediv_of_nonneg n (by omega)
    simp [execOp, ho, opI h hx, opI h hy, eqGuard_at_int, binOp, Op.shift, IntKind.bits, this], rfl, rfl⟩
end
end Go.Proofs.YtejdeonbibbchaaGreatDoor.DL
set_option linter.unusedVariables false
set_option linter.unusedSimpArgs false
set_option linter.constructorNameAsVariable false
namespace Go.Proofs.YtejdeonbibbchaaGreatDoor.DL
open Go.RowKit

section
variable {P : Program} {N : Nat} {ops : Array Oper} {Q : DPost} {env : Env} {M M0 : Mem} {γ : Cn} {Pr : Prot} {x0 : Ctx} {w : World} {a : Act} {o : Oper} {rest : List Oper}

/-- A function that was handed one block ends, whatever has become of it. -/
theorem endQM.one {T : TypeId → Option TyI} {ex : Exit} (he : ex = .normal ∨ ex = .ret) {b e k n : Nat} {v : Value} {cs : List CV} {fz : Bool} {k0 : Blk} {rs rs' : List ResultVar} {ts : List TV} (hrs : rs = rs') (h : ResTs T env M rs' ts) (hp : ∀ t ∈ ts, t.pure) (hM : mget M b = some (.row e k n v cs fz)) (hpc : ∀ c ∈ cs, c.pure) :
    endQM T rs [(b, some k0)] (fun ts' _ => ts' = ts) ex env M := by
  subst hrs
  have g : mget [(b, some (Blk.row e k n v cs fz))] b = some (.row e k n v cs fz) := by rw [mget_cons, if_pos rfl]
  have : ∃ us M', ResTs T env M rs us ∧ (∀ y, mget M' y = none ∨ mget M' y = mget M y) ∧ (∀ y, has [(b, some k0)] y ↔ has M' y) ∧ (∀ y k, mget M' y = some k → k.ok M') ∧ (∀ t ∈ us, t.ok M') ∧ us = ts := by
    refine ⟨ts, [(b, some (.row e k n v cs fz))], h, fun y => ?_, fun y => ?_, fun y l hk => ?_, fun t ht => TV.pure_ok (hp t ht), rfl⟩
    · by_cases e : b = y
      · subst e; rw [g, hM]; exact .inr rfl
      · rw [mget_cons, if_neg e]; exact .inl rfl
    · unfold has
      rw [mget_cons, mget_cons]
      split <;> simp
    · obtain ⟨_, hk'⟩ := mget_one hk
      obtain rfl := Option.some.inj hk'
      exact fun c hc => CV.pure_ok (hpc c hc)
  rcases he with rfl | rfl
  · exact this
  · exact this

/-- Any number of numbers is appended to a row of numbers. -/
theorem DOps.appendI {T : TypeId → Option TyI} (hT : TOk P T) {t e s0 b0 d b n n' m : Nat} {z0 : Value} {s x : Operand} {v : Value} {xs ys zs : List Int} {el : Nat → Nat → DV} (hg : gd ops env o = some true) (hd : o.dst = some d) (hN : Nat.blt d N = true)
    (ho : o.op = .call { callee := .builtin .append, args := #[s, x], argTypes := #[t, t] }) (ht : T t = some ⟨.slice e, s0, b0, z0⟩) (hj : T e = some ⟨.int .i64, 1, 8, .int .i64 0⟩)
    (hs : opv env s = .v (.one (.row b v))) (hm : mget M b = some (.row e 1 n v (xs.map fun m => .d (.sc (.int .i64 m))) false)) (hx : opv env x = .v (.one (.d (.sl m 1 el)))) (hel : ∀ q, q < m → el q 0 = .sc (.int .i64 (ys.getD q 0))) (hy : ys.length = m) (hmax : n + m ≤ 8388608)
    (hn' : n + m = n') (hz : xs ++ ys = zs) (h : ∀ v', DOps P N M0 ops Q rest ((d, .v (.one (.row b v'))) :: env) ((b, some (.row e 1 n' v' (zs.map fun m => .d (.sc (.int .i64 m))) false)) :: M)) : DOps P N M0 ops Q (o :: rest) env M := by
  subst hz hn'
  by_cases h0 : m = 0
  · subst h0
    obtain rfl := List.eq_nil_of_length_eq_zero hy
    refine DOps.val hg hd hN (OpVal.append0 hT ho ht rfl hj hs hm hx) (DOps.weak (Wk.memo (fun _ => .inr rfl) fun b' => ?_) (h v))
    rw [mget_cons]
    split
    · rename_i e1
      rw [← e1, hm, List.append_nil]; rfl
    · rfl
  · refine DOps.append (n' := n + m) (cs' := (xs ++ ys).map fun m => .d (.sc (.int .i64 m))) hT (ys.map fun m => .sc (.int .i64 m)) hg hd hN ho ht rfl hj rfl rfl rfl hs hm hx (by omega) (by show (n + m) * 8 ≤ 140737488355328; omega) (by show n + m ≤ maxLen; simp [maxLen]; omega) (by simp [hy]) (fun p hp q hq => ?_) rfl (by simp) h
    have hq : q < 1 := hq
    obtain rfl : q = 0 := by omega
    show (ys.map fun m => DV.sc (.int .i64 m))[p * 1 + 0]? = _
    rw [hel p hp, Nat.mul_one, Nat.add_zero, List.getElem?_map, List.getElem?_eq_getElem (by omega), List.getD_eq_getElem?_getD, List.getElem?_eq_getElem (by omega)]
    rfl
end
end Go.Proofs.YtejdeonbibbchaaGreatDoor.DL
set_option linter.unusedVariables false
set_option linter.unusedSimpArgs false
set_option linter.constructorNameAsVariable false
namespace Go.Proofs.YtejdeonbibbchaaGreatDoor.DL
open Go.RowKit

section
variable {P : Program} {N : Nat} {ops : Array Oper} {Q : DPost} {env : Env} {M M0 : Mem} {γ : Cn} {Pr : Prot} {x0 : Ctx} {w : World} {a : Act} {o : Oper} {rest : List Oper}

/-- The nil pointer is nil. -/
theorem OpVal.eqlPN {T : TypeId → Option TyI} (hT : TOk P T) {t t' e s0 b0 : Nat} {z0 : Value} {x : Operand} (ho : o.op = .binOp .eql t x (.const (.pointer none)) t') (ht : T t = some ⟨.pointer e, s0, b0, z0⟩)
    (hx : opv env x = .v (.one (.d (.sc (.pointer none))))) : OpVal P N env M o (vB true) :=
  OpVal.of_run (v := .bool true) trivial fun γ Pr x0 a w h => ⟨by
    have h1 := h.opv x
    rw [hx] at h1
    have hu : a.eval x = .pointer none := h1.2
    have hp : P.underlying t = some (.pointer e) := (hT _ _ ht).1
    have h2 : ∀ d : Nat, (Op.equalIn (d + 1) t (.pointer none) (.pointer none)).run P w = .ok true w := fun d => by
      simp [Op.equalIn, run_underlying hp]
    simp only [execOp, ho, hu, show a.eval (.const (.pointer none)) = Value.pointer none from rfl, eqGuard, binOp]
    simp [Op.equal, Op.maxDepth, h2 9999], rfl, rfl⟩
/-- A pointer to memory of one's own is not nil. -/
theorem OpVal.eqlPF {T : TypeId → Option TyI} (hT : TOk P T) {t t' e s0 b0 b k : Nat} {z0 : Value} {x : Operand} (ho : o.op = .binOp .eql t x (.const (.pointer none)) t') (ht : T t = some ⟨.pointer e, s0, b0, z0⟩)
    (hx : opv env x = .v (.one (.ptr b k))) : OpVal P N env M o (vB false) :=
  OpVal.of_run (v := .bool false) trivial fun γ Pr x0 a w h => ⟨by
    have h1 := h.opv x
    rw [hx] at h1
    have hu : a.eval x = .pointer (some ⟨γ.blk b, k, none⟩) := h1
    have hp : P.underlying t = some (.pointer e) := (hT _ _ ht).1
    have h2 : ∀ d : Nat, (Op.equalIn (d + 1) t (.pointer (some ⟨γ.blk b, k, none⟩)) (.pointer none)).run P w = .ok false w := fun d => by
      simp [Op.equalIn, run_underlying hp]
    simp only [execOp, ho, hu, show a.eval (.const (.pointer none)) = Value.pointer none from rfl, eqGuard, binOp]
    simp [Op.equal, Op.maxDepth, h2 9999], rfl, rfl⟩
/-- A pointer is itself. -/
theorem OpVal.neqPP {T : TypeId → Option TyI} (hT : TOk P T) {t t' e s0 b0 s1 b1 b k : Nat} {z0 z1 : Value} {d1 : TypeDesc} {x y : Operand} (ho : o.op = .binOp .neq t x y t') (ht : T t = some ⟨.pointer e, s0, b0, z0⟩) (hj : T e = some ⟨d1, s1, b1, z1⟩)
    (hx : opv env x = .v (.one (.ptr b k))) (hy : opv env y = .v (.one (.ptr b k))) : OpVal P N env M o (vB false) :=
  OpVal.of_run (v := .bool false) trivial fun γ Pr x0 a w h => ⟨by
    have h1 := h.opv x; have h2 := h.opv y
    rw [hx] at h1; rw [hy] at h2
    have hu : a.eval x = .pointer (some ⟨γ.blk b, k, none⟩) := h1
    have hv : a.eval y = .pointer (some ⟨γ.blk b, k, none⟩) := h2
    have hp : P.underlying t = some (.pointer e) := (hT _ _ ht).1
    obtain ⟨_, j, hj1, _⟩ := hT _ _ hj
    have := Lib.run_neq_ptr_same w ⟨γ.blk b, k, none⟩ hp hj1
    simp only [execOp, ho, hu, hv, eqGuard]
    simp [this], rfl, rfl⟩
theorem box_shape {γ : Cn} {Pr : Prot} {w : World} {c : Ctx} {b t : Nat} {cs : List CV} (h : BRep γ Pr w c b (.box t cs)) : w.shape? (γ.blk b) = some (t, cs.length) := by
  obtain ⟨_, ⟨vs, hv, hl⟩, _⟩ := h
  simp [World.shape?, hv, hl.1]
/-- A pointer, seen as an unsafe one. -/
theorem OpVal.toUns {T : TypeId → Option TyI} (hT : TOk P T) {t t' e s0 b0 s1 b1 b tb : Nat} {z0 z1 : Value} {d1 : TypeDesc} {x : Operand} {cs : List CV} (ho : o.op = .convert t t' x) (ht : T t = some ⟨.pointer e, s0, b0, z0⟩) (hj : T e = some ⟨d1, s1, b1, z1⟩) (ht' : P.underlying t' = some .unsafePointer)
    (hx : opv env x = .v (.one (.ptr b 0))) (hm : mget M b = some (.box tb cs)) (hs1 : s1 ≠ 0) (h0 : 0 < cs.length) : OpVal P N env M o (.v (.one (.ptr b 0))) := fun γ Pr x0 a w h => by
  have h1 := h.opv x
  have hb := opv_ok h.slotB x
  rw [hx] at h1 hb
  refine ⟨hb, .pointer (some ⟨γ.blk b, 0, none⟩), ?_, rfl⟩
  have hu : a.eval x = .pointer (some ⟨γ.blk b, 0, none⟩) := h1
  obtain ⟨_, j, hj1, hj2, _⟩ := hT _ _ hj
  have := Lib.run_to_unsafe w (P := P) (src := t) (dst := t') ⟨γ.blk b, 0, none⟩ (hT _ _ ht).1 ht' hj1 (by rw [hj2]; exact hs1) (box_shape (h.mem b _ hm)) h0
  simp only [execOp, ho, hu]
  simp [this]
/-- An unsafe pointer, seen as a pointer. -/
theorem OpVal.ofUns {T : TypeId → Option TyI} (hT : TOk P T) {t t' e s0 b0 s1 b1 b tb : Nat} {z0 z1 : Value} {d1 : TypeDesc} {x : Operand} {cs : List CV} (ho : o.op = .convert t' t x) (ht : T t = some ⟨.pointer e, s0, b0, z0⟩) (hj : T e = some ⟨d1, s1, b1, z1⟩) (ht' : P.underlying t' = some .unsafePointer)
    (hx : opv env x = .v (.one (.ptr b 0))) (hm : mget M b = some (.box tb cs)) (hl : liesAt P P.depth tb (cs.length / P.cellsOf tb) 0 e 1 = true) : OpVal P N env M o (.v (.one (.ptr b 0))) := fun γ Pr x0 a w h => by
  have h1 := h.opv x
  have hb := opv_ok h.slotB x
  rw [hx] at h1 hb
  refine ⟨hb, .pointer (some ⟨γ.blk b, 0, none⟩), ?_, rfl⟩
  have hu : a.eval x = .pointer (some ⟨γ.blk b, 0, none⟩) := h1
  obtain ⟨_, j, hj1, hj2, _⟩ := hT _ _ hj
  have := Lib.run_from_unsafe w (P := P) (src := t') (dst := t) ⟨γ.blk b, 0, none⟩ ht' (hT _ _ ht).1 hj1 (box_shape (h.mem b _ hm)) hl
  simp only [execOp, ho, hu]
  simp [this]
/-- A call of a function without a body that hands back what it is handed. -/
theorem OpVal.same {t : TV} {cl : Call} {x : Operand} {f : FuncId} {fn : Func} (ho : o.op = .call cl) (hcl : cl.callee = .value (.func f)) (ha : cl.args = #[x]) (hf : P.funcs[f]? = some fn) (hname : (fn.name == "runtime.NumGoroutine") = false) (hb : fn.body.isNone = true)
    (hn : Extern.findNext fn = none) (he : Extern.find fn = some Extern.AbiNoEscape.same) (hx : opv env x = .v t) : OpVal P N env M o (.v t) := fun γ Pr x0 a w h => by
  have h1 := h.opv x
  have hb1 := opv_ok h.slotB x
  rw [hx] at h1 hb1
  refine ⟨hb1, a.eval x, ?_, h1⟩
  have := run_callFunc_extern (P := P) hf hname hb hn he #[a.eval x] w
  rw [Lib.run_noEscape] at this
  simp only [execOp, ho, resolve, hcl, ha]
  simp [Deferred.ofValue, invoke, show a.eval (.func f) = Value.func (.func f) #[] #[] from rfl, this]
/-- A string appended: where the new slice lies. -/
theorem run_append_string_at (w : World) (t u ty e : TypeId) (i : TypeInfo) (ht : P.underlying t = some (.slice e)) (hu : P.underlying u = some .string) (hi : P.info? e = some i) (hz : i.zero = some (.int .u8 0)) (hsize : i.size = 1) (hby : i.bytes = 1)
    (v : Value) (n : Nat) (xs : List Value) (hown : w.ownsRow 0 e 1 v n xs) (s : ByteArray) (h63 : n + s.size ≤ maxLen) (hbytes : n + s.size ≤ 140737488355328) :
    ∃ v' w', (Builtin.append_ #[t, u] ty #[v, .string s]).run P w = .ok v' w' ∧ w'.ownsRow 0 e 1 v' (n + s.size) (xs ++ Lib.strCells s) ∧ w.grownBy w' v.ownBlock ∧ (v'.ownBlock = v.ownBlock ∨ v'.ownBlock = some w.heap.size) := by
  obtain ⟨v', w', hr, h2, h3, h4⟩ := Lib.run_append_own_string (P := P) w 0 t u ty e i ht hu hi hz hsize hby v n xs hown s h63 hbytes (Nat.zero_le _)
  refine ⟨v', w', hr, h2, h3, ?_⟩
  have hxl : xs.length = n := by simpa using hown.1
  have h9 : n + s.size ≤ 9223372036854775807 := by simp only [maxLen] at h63; omega
  rcases hown.2 with ⟨rfl, rfl⟩ | ⟨g, cap, cur, rfl, _, hg, hnc, _, hcs, _⟩
  · by_cases hm : s.size = 0
    · exact .inl (by rw [h4.2 ⟨rfl, hm⟩])
    · rw [run_append_nil_string (P := P) w t u ty e i (.int .u8 0) ht hu hi hz s (by omega) (by omega) (by rw [hby]; omega)] at hr
      injection hr with e1 _
      exact .inr (by rw [← e1]; rfl)
  · by_cases hroom : n + s.size ≤ cap
    · have hcs' : cur.size = cap := by simpa using hcs
      rw [Lib.run_append_room_string (P := P) w t u ty e i ht hu hi hsize g n cap cur hg s hroom (by omega)] at hr
      injection hr with e1 _
      exact .inl (by rw [← e1]; rfl)
    · have holds : ∀ j u, xs[j]? = some u → w.cell? ((⟨g, 0, none⟩ : Addr).add j) = some u := hown.cells (g := g) rfl
      rw [Lib.run_append_grow_string (P := P) w t u ty e i (.int .u8 0) ht hu hi hz ⟨g, 0, none⟩ n cap xs (by rw [hsize]; simpa using hxl) holds s (by omega) (by omega) (by rw [hby]; exact growslice_fits (by omega) (by omega))] at hr
      injection hr with e1 _
      exact .inr (by rw [← e1]; rfl)
/-- Bytes, as a row's cells. -/
abbrev bc (l : List UInt8) : List CV := l.map fun b => .d (.sc (.int .u8 b.toNat))
theorem bc_rep (γ : Cn) (Pr : Prot) (w : World) (l : List UInt8) : LRep γ Pr w (bc l) (Lib.strCells ⟨l.toArray⟩) := by
  refine ⟨by simp [Lib.strCells], fun q c hc => ?_⟩
  rw [List.getElem?_map, Option.map_eq_some_iff] at hc
  obtain ⟨y, hy, rfl⟩ := hc
  exact ⟨.int .u8 y.toNat, by simp [Lib.strCells, hy], rfl, rfl⟩
/-- A string, appended onto a row of bytes of one's own. -/
theorem DOps.appendS {T : TypeId → Option TyI} (hT : TOk P T) {t u e s0 b0 s1 b1 : Nat} {z0 z1 : Value} {s x : Operand} {b n n' d : Nat} {v : Value} {cs cs' : List CV} {l : List UInt8} (hg : gd ops env o = some true) (hd : o.dst = some d) (hN : Nat.blt d N = true)
    (ho : o.op = .call { callee := .builtin .append, args := #[s, x], argTypes := #[t, u] }) (ht : T t = some ⟨.slice e, s0, b0, z0⟩) (hu0 : T u = some ⟨.string, s1, b1, z1⟩) (hj : T e = some ⟨.int .u8, 1, 1, .int .u8 0⟩)
    (hs : opv env s = .v (.one (.row b v))) (hm : mget M b = some (.row e 1 n v cs false)) (hx : opv env x = .v (.one (.d (.sc (.string ⟨l.toArray⟩))))) (hmax : n + l.length ≤ 140737488355328)
    (hn' : n + l.length = n') (hcs' : cs ++ bc l = cs') (h : ∀ v', DOps P N M0 ops Q rest ((d, .v (.one (.row b v'))) :: env) ((b, some (.row e 1 n' v' cs' false)) :: M)) : DOps P N M0 ops Q (o :: rest) env M := by
  subst hn' hcs'
  intro x0 a w hx0 ⟨γ, Pr, hr, hf⟩
  have hw := gd_wanted (ops := ops) hr hg
  unfold wpList
  rw [if_pos hw]
  refine .inl ?_
  have h1 := hr.opv s; have h2 := hr.opv x
  rw [hs] at h1; rw [hx] at h2
  obtain ⟨vs, hown, hl1, hg1⟩ := hr.mem b _ hm
  have hv2 : a.eval x = .string ⟨l.toArray⟩ := h2.2
  have hu := (hT _ _ ht).1
  have hu1 := (hT _ _ hu0).1
  obtain ⟨_, info', hj1, hj2, hj3, hj4⟩ := hT _ _ hj
  simp only [] at hu hu1 hj2 hj3 hj4
  have h1e : a.eval s = v := h1.1
  have hsz : (⟨l.toArray⟩ : ByteArray).size = l.length := by simp [ByteArray.size]
  obtain ⟨v', w', hrun, hown', hgrow, hat⟩ := run_append_string_at (P := P) w t u o.type e info' hu hu1 hj1 hj4 hj2 hj3 v n vs hown ⟨l.toArray⟩ (by rw [hsz]; simp only [maxLen]; omega) (by rw [hsz]; exact hmax)
  rw [hsz] at hown'
  have hnr : LRep γ Pr w (bc l) (Lib.strCells ⟨l.toArray⟩) := bc_rep γ Pr w l
  have hpg : ∀ g o, Pr g o → some g ≠ v.ownBlock := fun g o hp e => (hg1 g e.symm).2.2 rfl o hp
  have K : Kept Pr w Pr w' := ⟨fun _ _ x => x, fun g o hp => heap_cell (hgrow.block g (hr.prot g o hp) (hpg g o hp)) o⟩
  have hsim : Sim x0 w' := ⟨hgrow.os.trans hr.below.os, hgrow.tape.trans hr.below.tape, hgrow.output.trans hr.below.output, Nat.le_trans hr.below.size hgrow.size, fun q hq =>
    (hgrow.block q (Nat.lt_of_lt_of_le (may_lt hq) hr.below.size) (fun e => hq (hg1 q e.symm).1)).trans (hr.below.block q hq)⟩
  have G := Cn.agree_refl M γ
  have hrow : BRep γ Pr w' x0 b (.row e 1 (n + l.length) v' (cs ++ bc l) false) := by
    refine ⟨vs ++ Lib.strCells ⟨l.toArray⟩, hown', ?_, fun g hgg => ?_⟩
    · have l1 := LRep.move (M := M) G K (hr.memB b _ hm) hl1
      have l2 := bc_rep γ Pr w' l
      refine ⟨by rw [List.length_append, List.length_append, l1.1, l2.1], fun q c hc => ?_⟩
      by_cases hq : q < cs.length
      · rw [List.getElem?_append_left hq] at hc
        obtain ⟨u, hu, hr⟩ := l1.2 q c hc
        exact ⟨u, by rw [List.getElem?_append_left (by rw [l1.1]; exact hq)]; exact hu, hr⟩
      · rw [List.getElem?_append_right (by omega)] at hc
        obtain ⟨u, hu, hr⟩ := l2.2 _ c hc
        exact ⟨u, by rw [List.getElem?_append_right (by rw [l1.1]; omega), l1.1]; exact hu, hr⟩
    · rcases hat with e | e
      · rw [e] at hgg
        obtain ⟨a1, a2, a3⟩ := hg1 g hgg
        exact ⟨a1, fun o ho => a3 rfl o, fun _ => a3 rfl⟩
      · rw [e] at hgg
        obtain rfl := Option.some.inj hgg
        have np : ∀ o, ¬ Pr w.heap.size o := fun o hp => absurd (hr.prot _ o hp) (Nat.lt_irrefl _)
        exact ⟨.inl hr.below.size, fun o _ => np o, fun _ => np⟩
  have hok : (Blk.row e 1 (n + l.length) v' (cs ++ bc l) false).ok M := fun c hc => by
    rcases List.mem_append.1 hc with hc | hc
    · exact hr.memB b _ hm c hc
    · obtain ⟨d, _, rfl⟩ := List.mem_map.1 hc
      trivial
  have hrel := hr.setB hsim hgrow.size K hrow hok fun x l g hxb hmx hbx => by
    have hne : some g ≠ v.ownBlock := fun e => hr.apart b x _ l hm hmx (Ne.symm hxb) g e.symm hbx
    have hlt := ((hr.mem x l hmx).lt g hbx).2
    refine ⟨hgrow.block g hlt hne, ?_⟩
    show v'.ownBlock ≠ some g
    rcases hat with e | e
    · rw [e]; exact Ne.symm hne
    · rw [e]; intro e2; exact absurd hlt (by have := Option.some.inj e2; omega)
  unfold Oper.wp execOp
  simp only [ho, resolve, invoke, builtin, Sem.run_bind, Sem.run_pure, Result.andThen_ok, List.map_toArray, List.map_cons, List.map_nil, h1e, hv2, hrun, Oper.upon_value]
  have hone : v'.oneCell' = true := by
    rcases hown'.2 with ⟨e, _⟩ | ⟨g, cap, cur, e, _⟩ <;> rw [e] <;> rfl
  have hdd := dstOk_of hd hN
  have he : putd o.dst (.v (.one (.row b v'))) env = (d, .v (.one (.row b v'))) :: env := by rw [hd]; rfl
  refine h v' x0 _ w' hx0 ⟨γ, Pr, ?_, hf.setB K b _⟩
  rw [← he]
  exact hrel.put (dstOk_spec hdd) ⟨rfl, hone⟩ trivial
end
end Go.Proofs.YtejdeonbibbchaaGreatDoor.DL
set_option linter.unusedVariables false
set_option linter.unusedSimpArgs false
set_option linter.constructorNameAsVariable false
namespace Go.Proofs.YtejdeonbibbchaaGreatDoor.DL
open Go.RowKit

section
variable {P : Program} {N : Nat} {ops : Array Oper} {Q : DPost} {env : Env} {M M0 : Mem} {γ : Cn} {Pr : Prot} {x0 : Ctx} {w : World} {a : Act} {o : Oper} {rest : List Oper}

/-- A method on one block, whatever its cells lead to. -/
theorem DOps.callK {b : Nat} {cl : Call} {f : FuncId} {fn : Func} {c : Code} {t : TypeId} {cs cs' : List CV} {args rs : List TV} (hg : gd ops env o = some true) (hd : dstOk N o = true) (ho : o.op = .call cl) (hcl : cl.callee = .value (.func f))
    (hf : P.funcs[f]? = some fn) (hb : fn.body = some c) (hn : (fn.name == "runtime.NumGoroutine") = false) (hx : opvs env cl.args.toList = some (.one (.ptr b 0) :: args)) (hm : mget M b = some (.box t cs)) (hp : ∀ t ∈ args, t.pure) (hpc : ∀ c ∈ cs, c.ok [(b, some (.box t cs))])
    (hc : DCallsM P f (.one (.ptr b 0) :: args) [(b, some (.box t cs))] (fun ts M' => ts = rs ∧ mget M' b = some (.box t cs'))) (h : DOps P N M0 ops Q rest (putd o.dst (ret1 rs) env) ((b, some (.box t cs')) :: M)) : DOps P N M0 ops Q (o :: rest) env M := by
  have hhas : has [(b, some (Blk.box t cs))] b := by rw [has, mget_cons, if_pos rfl]; simp
  refine DOps.callM [(b, some (.box t cs))] hg hd ho hcl hf hb hn hx (fun y k hk => ?_) (fun _ _ _ _ _ _ y k hk => ?_) (fun _ _ _ _ _ _ t ht => ?_) hc (fun us M' hR hh Mn hMn => ?_) (fun M' hh => ?_)
  · obtain ⟨rfl, hk'⟩ := mget_one hk
    rw [hm, hk']
  · obtain ⟨_, hk'⟩ := mget_one hk
    obtain rfl := Option.some.inj hk'
    exact fun c hc => hpc c hc
  · rcases List.mem_cons.1 ht with rfl | ht
    · exact hhas
    · exact TV.pure_ok (hp t ht)
  · obtain ⟨rfl, hM⟩ := hR
    refine DOps.weak (Wk.memo (fun i => .inr rfl) fun y => ?_) h
    rw [mget_cons, hMn y, mget_cons]
    by_cases e : b = y
    · subst e; simp [hM]
    · rw [if_neg e, if_neg e]; rfl
  · refine ⟨(b, mget M' b) :: M, fun y => ?_⟩
    rw [mget_cons, mget_cons]
    by_cases e : b = y
    · subst e; simp
    · rw [if_neg e, if_neg e]; rfl
theorem endQM.boxK {T : TypeId → Option TyI} {e : Exit} (he : e = .normal ∨ e = .ret) {b : Nat} {t : TypeId} {cs cs' : List CV} {rs rs' : List ResultVar} {ts : List TV} (hrs : rs = rs') (h : ResTs T env M rs' ts) (hp : ∀ t ∈ ts, t.pure) (hM : mget M b = some (.box t cs')) (hpc : ∀ c ∈ cs', c.ok [(b, some (.box t cs'))]) :
    endQM T rs [(b, some (.box t cs))] (fun ts' M' => ts' = ts ∧ mget M' b = some (.box t cs')) e env M := by
  subst hrs
  have g : mget [(b, some (Blk.box t cs'))] b = some (.box t cs') := by rw [mget_cons, if_pos rfl]
  have : ∃ us M', ResTs T env M rs us ∧ (∀ y, mget M' y = none ∨ mget M' y = mget M y) ∧ (∀ y, has [(b, some (Blk.box t cs))] y ↔ has M' y) ∧ (∀ y k, mget M' y = some k → k.ok M') ∧ (∀ t ∈ us, t.ok M') ∧ (us = ts ∧ mget M' b = some (.box t cs')) := by
    refine ⟨ts, [(b, some (.box t cs'))], h, fun y => ?_, fun y => ?_, fun y k hk => ?_, fun t ht => TV.pure_ok (hp t ht), rfl, g⟩
    · by_cases e : b = y
      · subst e; rw [g, hM]; exact .inr rfl
      · rw [mget_cons, if_neg e]; exact .inl rfl
    · unfold has
      rw [mget_cons, mget_cons]
      split <;> simp
    · obtain ⟨_, hk'⟩ := mget_one hk
      obtain rfl := Option.some.inj hk'
      exact fun c hc => hpc c hc
  rcases he with rfl | rfl
  · exact this
  · exact this

/-- Two blocks. -/
theorem mget_two {b r : Nat} {x z : Option Blk} {y : Nat} {k : Blk} (h : mget [(b, x), (r, z)] y = some k) : (y = b ∧ x = some k) ∨ (y ≠ b ∧ y = r ∧ z = some k) := by
  rw [mget_cons] at h
  split at h
  · rename_i e; exact .inl ⟨e.symm, h⟩
  · rename_i e
    obtain ⟨h1, h2⟩ := mget_one h
    exact .inr ⟨fun e2 => e e2.symm, h1, h2⟩
theorem endQM.two {T : TypeId → Option TyI} {e : Exit} (he : e = .normal ∨ e = .ret) {b r : Nat} {k1 k2 k1' k2' : Blk} {rs rs' : List ResultVar} {ts : List TV} {R : List TV → Mem → Prop} (hrs : rs = rs') (h : ResTs T env M rs' ts) (hp : ∀ t ∈ ts, t.pure) (hM1 : mget M b = some k1') (hM2 : mget M r = some k2')
    (ho1 : k1'.ok [(b, some k1'), (r, some k2')]) (ho2 : k2'.ok [(b, some k1'), (r, some k2')]) (hR : R ts [(b, some k1'), (r, some k2')]) : endQM T rs [(b, some k1), (r, some k2)] R e env M := by
  subst hrs
  have : ∃ us M', ResTs T env M rs us ∧ (∀ y, mget M' y = none ∨ mget M' y = mget M y) ∧ (∀ y, has [(b, some k1), (r, some k2)] y ↔ has M' y) ∧ (∀ y k, mget M' y = some k → k.ok M') ∧ (∀ t ∈ us, t.ok M') ∧ R us M' := by
    refine ⟨ts, [(b, some k1'), (r, some k2')], h, fun y => ?_, fun y => ?_, fun y k hk => ?_, fun t ht => TV.pure_ok (hp t ht), hR⟩
    · rw [mget_cons, mget_cons]
      by_cases e : b = y
      · subst e; rw [if_pos rfl, hM1]; exact .inr rfl
      · rw [if_neg e]
        by_cases e2 : r = y
        · subst e2; rw [if_pos rfl, hM2]; exact .inr rfl
        · rw [if_neg e2]; exact .inl rfl
    · unfold has
      rw [mget_cons, mget_cons, mget_cons, mget_cons]
      split
      · simp
      · split <;> simp
    · rcases mget_two hk with ⟨_, hk'⟩ | ⟨_, _, hk'⟩
      · obtain rfl := Option.some.inj hk'; exact ho1
      · obtain rfl := Option.some.inj hk'; exact ho2
  rcases he with rfl | rfl
  · exact this
  · exact this
/-- A method on a block that leads to a row. -/
theorem DOps.callW {b r : Nat} {cl : Call} {f : FuncId} {fn : Func} {c : Code} {args rs : List TV} {k1 k2 : Blk} {κ : Type} {k1' k2' : κ → Blk} (hne : b ≠ r) (hg : gd ops env o = some true) (hd : dstOk N o = true) (ho : o.op = .call cl) (hcl : cl.callee = .value (.func f))
    (hf : P.funcs[f]? = some fn) (hb : fn.body = some c) (hn : (fn.name == "runtime.NumGoroutine") = false) (hx : opvs env cl.args.toList = some (.one (.ptr b 0) :: args)) (hm1 : mget M b = some k1) (hm2 : mget M r = some k2) (hp : ∀ t ∈ args, t.pure)
    (ho1 : k1.ok [(b, some k1), (r, some k2)]) (ho2 : k2.ok [(b, some k1), (r, some k2)])
    (hc : DCallsM P f (.one (.ptr b 0) :: args) [(b, some k1), (r, some k2)] (fun ts M' => ts = rs ∧ ∃ z, mget M' b = some (k1' z) ∧ mget M' r = some (k2' z)))
    (h : ∀ z, DOps P N M0 ops Q rest (putd o.dst (ret1 rs) env) ((b, some (k1' z)) :: (r, some (k2' z)) :: M)) : DOps P N M0 ops Q (o :: rest) env M := by
  refine DOps.callM [(b, some k1), (r, some k2)] hg hd ho hcl hf hb hn hx (fun y k hk => ?_) (fun _ _ _ _ _ _ y k hk => ?_) (fun _ _ _ _ _ _ t ht => ?_) hc (fun us M' hR hh Mn hMn => ?_) (fun M' hh => ?_)
  · rcases mget_two hk with ⟨rfl, hk'⟩ | ⟨_, rfl, hk'⟩
    · rw [hm1, hk']
    · rw [hm2, hk']
  · rcases mget_two hk with ⟨_, hk'⟩ | ⟨_, _, hk'⟩
    · obtain rfl := Option.some.inj hk'; exact ho1
    · obtain rfl := Option.some.inj hk'; exact ho2
  · rcases List.mem_cons.1 ht with rfl | ht
    · show has _ _
      rw [has, mget_cons, if_pos rfl]; simp
    · exact TV.pure_ok (hp t ht)
  · obtain ⟨rfl, z, hM1, hM2⟩ := hR
    refine DOps.weak (Wk.memo (fun i => .inr rfl) fun y => ?_) (h z)
    rw [mget_cons, mget_cons, hMn y, mget_cons, mget_cons]
    by_cases e : b = y
    · subst e; simp [hM1]
    · rw [if_neg e, if_neg e]
      by_cases e2 : r = y
      · subst e2; simp [hM2]
      · rw [if_neg e2, if_neg e2]; rfl
  · refine ⟨(b, mget M' b) :: (r, mget M' r) :: M, fun y => ?_⟩
    rw [mget_cons, mget_cons, mget_cons, mget_cons]
    by_cases e : b = y
    · subst e; simp
    · rw [if_neg e, if_neg e]
      by_cases e2 : r = y
      · subst e2; simp
      · rw [if_neg e2, if_neg e2]; rfl
/-- A block whose second cell holds the nil slice: told as one that leads to a row of one's own, of nothing. -/
theorem Rel.cellRow (hr : Rel γ Pr x0 N env M a w) {b r : Nat} {t : TypeId} {c0 : CV} (hm : mget M b = some (.box t [c0, .d (.sc (.slice none 0 0))])) : Rel γ Pr x0 N env ((b, some (.box t [c0, .row r (.slice none 0 0)])) :: M) a w := by
  refine hr.setB hr.below (Nat.le_refl _) (Kept.refl _ _) ?_ ?_ fun x l g hxb hmx hbx => ⟨rfl, fun e => hr.apart x b l _ hmx hm hxb g hbx e⟩
  · obtain ⟨h1, ⟨vs, hv, hl⟩, h3⟩ := hr.mem b _ hm
    refine ⟨h1, ⟨vs, hv, hl.1, fun i c hc => ?_⟩, h3⟩
    match i, hc with
    | 0, hc => exact hl.2 0 c hc
    | 1, hc =>
      obtain ⟨u, hu, hd⟩ := hl.2 1 _ rfl
      obtain rfl : CV.row r (.slice none 0 0) = c := by simpa using hc
      exact ⟨u, hu, hd.2, by rw [hd.2]; rfl⟩
    | i + 2, hc => simp at hc
  · intro c hc
    have := hr.memB b _ hm
    rcases List.mem_cons.1 hc with rfl | hc
    · exact this _ (List.mem_cons_self ..)
    · rcases List.mem_cons.1 hc with rfl | hc
      · trivial
      · cases hc
theorem DCode.fresh {c : Code} {b : Nat} (r : Nat) (e : TypeId) {t : TypeId} {c0 : CV} (hm : mget ((r, some (Blk.row e 1 0 (.slice none 0 0) [] false)) :: M) b = some (.box t [c0, .d (.sc (.slice none 0 0))]))
    (h : DCode P N M0 c Q env ((b, some (.box t [c0, .row r (.slice none 0 0)])) :: (r, some (.row e 1 0 (.slice none 0 0) [] false)) :: M)) : DCode P N M0 c Q env M :=
  DCode.nilRow r e 1 fun x a w hx ⟨γ, Pr, hr, hf⟩ => h x a w hx ⟨γ, Pr, hr.cellRow hm, hf.setB (Kept.refl _ _) b _⟩
theorem DOps.fresh {b : Nat} (r : Nat) (e : TypeId) {t : TypeId} {c0 : CV} (hm : mget ((r, some (Blk.row e 1 0 (.slice none 0 0) [] false)) :: M) b = some (.box t [c0, .d (.sc (.slice none 0 0))]))
    (h : DOps P N M0 ops Q rest env ((b, some (.box t [c0, .row r (.slice none 0 0)])) :: (r, some (.row e 1 0 (.slice none 0 0) [] false)) :: M)) : DOps P N M0 ops Q rest env M :=
  DOps.nilRow r e 1 fun x a w hx ⟨γ, Pr, hr, hf⟩ => h x a w hx ⟨γ, Pr, hr.cellRow hm, hf.setB (Kept.refl _ _) b _⟩
end
end Go.Proofs.YtejdeonbibbchaaGreatDoor.DL
set_option linter.unusedVariables false
set_option linter.unusedSimpArgs false
set_option linter.constructorNameAsVariable false
namespace Go.Proofs.YtejdeonbibbchaaGreatDoor.DL
open Go.RowKit

section
variable {P : Program} {N : Nat} {γ γ' : Cn} {Pr Pr' : Prot} {x0 : Ctx} {env : Env} {M M0 : Mem} {a : Act} {w w' : World} {o : Oper} {ops : Array Oper} {rest : List Oper} {Q : DPost}

theorem run_append_own3 (t ty e : TypeId) (i : TypeInfo) (z : Value) (size bytes : Nat) (ht : P.underlying t = some (.slice e)) (hi : P.info? e = some i) (hz : i.zero = some z)
    (hsize : i.size = size) (hby : i.bytes = bytes) (hzs : z.cells.size = size) (hsz : 0 < size)
    (v : Value) (n : Nat) (xs : List Value) (hown : w.ownsRow 0 e size v n xs)
    (ad : Addr) (m c : Nat) (news : List Value) (hl : news.length = m * size) (hnews : ∀ j u, news[j]? = some u → w.cell? (ad.add j) = some u) (h1 : ∀ u ∈ news, u.oneCell' = true)
    (hm : 0 < m) (h63 : n + m ≤ maxLen) (hbytes : (n + m) * bytes ≤ 140737488355328) :
    ∃ v' w', (Builtin.append_ #[t, t] ty #[v, .slice (some ad) m c]).run P w = .ok v' w' ∧ w'.ownsRow 0 e size v' (n + m) (xs ++ news) ∧
      ((v'.ownBlock = v.ownBlock ∧ w.grownBy w' v.ownBlock) ∨ ((∃ g, v'.ownBlock = some g ∧ w.heap.size ≤ g) ∧ w.grownBy w' none)) := by
  rcases hown.2 with ⟨rfl, rfl⟩ | ⟨g, cap, cur, rfl, hbg, hg, hnc, hcm, hcs, htake⟩
  · obtain ⟨v', w', hr, h2, h3, _, h5⟩ := run_append_own_at (P := P) w 0 t ty e i z size bytes ht hi hz hsize hby hzs hsz _ _ xs hown ad m c news hl hnews h1 h63 hbytes (Nat.zero_le _)
    refine ⟨v', w', hr, h2, ?_⟩
    rcases h5 with h5 | h5
    · exact .inl ⟨h5, h3⟩
    · exact .inr ⟨⟨_, h5, Nat.le_refl _⟩, h3⟩
  · by_cases hf : n + m ≤ cap
    · obtain ⟨w', hrun, r1, r2⟩ := run_append_fits (P := P) w 0 t ty e i size ht hi hsize g n cap xs hown ad m c news hl hnews h1 hf
      exact ⟨_, w', hrun, r1, .inl ⟨rfl, r2⟩⟩
    · obtain ⟨v', w', hrun, r1, r2⟩ := run_append_arg_grows (P := P) w t ty e i z size bytes ht hi hz hsize hby hzs hsz ⟨g, 0, none⟩ n cap xs hown.1 (fun j u hj => by
          have := row_cell hown (g := g) rfl hj
          rw [Go.WideShapes.add_plain, Nat.zero_add]; exact this) ad m c news hl hnews (by omega) h63 hbytes
      refine ⟨v', w', hrun, ?_, .inr ⟨?_, r2⟩⟩
      · rcases r1.2 with h | ⟨g', cap', cur', e1, e2, e3⟩
        · exact ⟨r1.1, .inl h⟩
        · exact ⟨r1.1, .inr ⟨g', cap', cur', e1, Nat.zero_le _, e3⟩⟩
      · rcases r1.2 with ⟨_, h⟩ | ⟨g', cap', cur', e1, e2, e3⟩
        · omega
        · exact ⟨g', by rw [e1]; rfl, e2⟩

/-- append, onto a row of one's own, frozen or not. -/
theorem DOps.appendF {T : TypeId → Option TyI} (hT : TOk P T) {t e : TypeId} {i j : TyI} {s x : Operand} {b k n m n' d : Nat} {v : Value} {fz : Bool} {cs cs' : List CV} (ds : List DV) {el : Nat → Nat → DV} (hg : gd ops env o = some true) (hd : o.dst = some d) (hN : Nat.blt d N = true)
    (ho : o.op = .call { callee := .builtin .append, args := #[s, x], argTypes := #[t, t] }) (ht : T t = some i) (hde : i.desc = .slice e) (hj : T e = some j) (hk : j.size = k) (hk0 : Nat.blt 0 k = true) (hzs : j.zero.cells.size = k)
    (hs : opv env s = .v (.one (.row b v))) (hm : mget M b = some (.row e k n v cs fz)) (hx : opv env x = .v (.one (.d (.sl m k el)))) (hm0 : 0 < m) (hmax : (n + m) * j.bytes ≤ 140737488355328) (h63 : n + m ≤ maxLen)
    (hl : ds.length = m * k) (hel : ∀ p, p < m → ∀ q, q < k → ds[p * k + q]? = some (el p q))
    (hn' : n + m = n') (hcs' : cs ++ ds.map .d = cs') (h : ∀ v', DOps P N M0 ops Q rest ((d, .v (.one (.row b v'))) :: env) ((b, some (.row e k n' v' cs' fz)) :: M)) : DOps P N M0 ops Q (o :: rest) env M := by
  subst hn' hcs'
  intro x0 a w hx0 ⟨γ, Pr, hr, hf⟩
  have hw := gd_wanted (ops := ops) hr hg
  unfold wpList
  rw [if_pos hw]
  refine .inl ?_
  have h1 := hr.opv s; have h2 := hr.opv x
  rw [hs] at h1; rw [hx] at h2
  obtain ⟨vs, hown, hl1, hg1⟩ := hr.mem b _ hm
  obtain ⟨bb, oo, c, news, hv2, hnl, hnr, hnc⟩ := sl_cells (γ := γ) h2 hm0 hl hel
  obtain ⟨hu, info, hi1, hi2, hi3, hi4⟩ := hT _ _ ht
  obtain ⟨_, info', hj1, hj2, hj3, hj4⟩ := hT _ _ hj
  rw [hde] at hu
  have h1e : a.eval s = v := h1.1
  have hk0 : 0 < k := by simpa using hk0
  obtain ⟨v', w', hrun, hown', hat⟩ := run_append_own3 (P := P) (w := w) t o.type e info' j.zero k j.bytes hu hj1 hj4 (by rw [hj2, hk]) hj3 hzs hk0 v n vs hown ⟨bb, oo, none⟩ m c news hnl hnc hnr.one hm0 h63 hmax
  have hgrow : w.grownBy w' v.ownBlock := by
    rcases hat with h | ⟨_, h⟩
    · exact h.2
    · exact ⟨h.os, h.tape, h.output, h.size, fun q hq _ => h.block q hq (by simp)⟩
  have K : Kept Pr w Pr w' := ⟨fun _ _ x => x, fun g o hp => by
    by_cases he : some g = v.ownBlock
    · rcases hat with ⟨e1, _⟩ | ⟨_, h⟩
      · have ho : o < n * k := Nat.lt_of_not_le fun hle => (hg1 g he.symm).2.1 o hle hp
        have hov : o < vs.length := by rw [hown.1]; exact ho
        have hu : vs[o]? = some vs[o] := List.getElem?_eq_getElem hov
        have a1 := row_cell hown he.symm hu
        have a2 := row_cell hown' (e1.trans he.symm) (i := o) (u := vs[o]) (by rw [List.getElem?_append_left hov]; exact hu)
        rw [a1, a2]
      · exact heap_cell (h.block g (hr.prot g o hp) (by simp)) o
    · exact heap_cell (hgrow.block g (hr.prot g o hp) he) o⟩
  have hsim : Sim x0 w' := ⟨hgrow.os.trans hr.below.os, hgrow.tape.trans hr.below.tape, hgrow.output.trans hr.below.output, Nat.le_trans hr.below.size hgrow.size, fun q hq =>
    (hgrow.block q (Nat.lt_of_lt_of_le (may_lt hq) hr.below.size) (fun e => hq (hg1 q e.symm).1)).trans (hr.below.block q hq)⟩
  have G := Cn.agree_refl M γ
  have hrow : BRep γ Pr w' x0 b (.row e k (n + m) v' (cs ++ ds.map .d) fz) := by
    refine ⟨vs ++ news, hown', ?_, fun g hgg => ?_⟩
    · have l1 := LRep.move (M := M) G K (hr.memB b _ hm) hl1
      have l2 := LRep.move (M := M) G K (fun c hc => by obtain ⟨d, _, rfl⟩ := List.mem_map.1 hc; trivial) hnr
      refine ⟨by simp [l1.1, l2.1], fun q c hc => ?_⟩
      by_cases hq : q < cs.length
      · rw [List.getElem?_append_left hq] at hc
        obtain ⟨u, hu, hr⟩ := l1.2 q c hc
        exact ⟨u, by rw [List.getElem?_append_left (by rw [l1.1]; exact hq)]; exact hu, hr⟩
      · rw [List.getElem?_append_right (by omega)] at hc
        obtain ⟨u, hu, hr⟩ := l2.2 _ c hc
        exact ⟨u, by rw [List.getElem?_append_right (by rw [l1.1]; omega), l1.1]; exact hu, hr⟩
    · rcases hat with ⟨e, _⟩ | ⟨⟨g', e, hg'⟩, _⟩
      · rw [e] at hgg
        obtain ⟨a1, a2, a3⟩ := hg1 g hgg
        exact ⟨a1, fun o ho => a2 o (Nat.le_trans (Nat.mul_le_mul_right _ (Nat.le_add_right _ _)) ho), a3⟩
      · rw [e] at hgg
        obtain rfl := Option.some.inj hgg
        have np : ∀ o, ¬ Pr g' o := fun o hp => absurd (hr.prot _ o hp) (Nat.not_lt_of_le hg')
        exact ⟨.inl (Nat.le_trans hr.below.size hg'), fun o _ => np o, fun _ => np⟩
  have hok : (Blk.row e k (n + m) v' (cs ++ ds.map .d) fz).ok M := fun c hc => by
    rcases List.mem_append.1 hc with hc | hc
    · exact hr.memB b _ hm c hc
    · obtain ⟨d, _, rfl⟩ := List.mem_map.1 hc
      trivial
  have hrel := hr.setB hsim hgrow.size K hrow hok fun x l g hxb hmx hbx => by
    have hne : some g ≠ v.ownBlock := fun e => hr.apart b x _ l hm hmx (Ne.symm hxb) g e.symm hbx
    have hlt := ((hr.mem x l hmx).lt g hbx).2
    refine ⟨hgrow.block g hlt hne, ?_⟩
    show v'.ownBlock ≠ some g
    rcases hat with ⟨e, _⟩ | ⟨⟨g', e, hg'⟩, _⟩
    · rw [e]; exact Ne.symm hne
    · rw [e]; intro e2; exact absurd hlt (by have := Option.some.inj e2; omega)
  have hst : ({ callee := .builtin .append, args := #[s, x], argTypes := #[t, t] } : Call).args = #[s, x] := rfl
  unfold Oper.wp execOp
  simp only [ho, resolve, invoke, builtin, Sem.run_bind, Sem.run_pure, Result.andThen_ok, List.map_toArray, List.map_cons, List.map_nil, h1e, hv2, hrun, Oper.upon_value]
  have hone : v'.oneCell' = true := by
    rcases hown'.2 with ⟨e, _⟩ | ⟨g, cap, cur, e, _⟩ <;> rw [e] <;> rfl
  have hdd := dstOk_of hd hN
  have he : putd o.dst (.v (.one (.row b v'))) env = (d, .v (.one (.row b v'))) :: env := by rw [hd]; rfl
  refine h v' x0 _ w' hx0 ⟨γ, Pr, ?_, hf.setB K b _⟩
  rw [← he]
  exact hrel.put (dstOk_spec hdd) ⟨rfl, hone⟩ trivial

/-- A row, told as frozen. -/
theorem Rel.asF (hr : Rel γ Pr x0 N env M a w) {b e k n : Nat} {v : Value} {cs : List CV} {fz : Bool} (hm : mget M b = some (.row e k n v cs fz)) : Rel γ Pr x0 N env ((b, some (.row e k n v cs true)) :: M) a w :=
  hr.setB hr.below (Nat.le_refl _) (Kept.refl _ _) (by
    obtain ⟨vs, h1, h2, h3⟩ := hr.mem b _ hm
    exact ⟨vs, h1, h2, fun g hg => ⟨(h3 g hg).1, (h3 g hg).2.1, fun h => by cases h⟩⟩) (fun c hc => hr.memB b _ hm c hc) (fun x l g hxb hmx hbx => ⟨rfl, fun e => hr.apart b x _ l hm hmx (Ne.symm hxb) g e hbx⟩)
theorem DCode.asF {c : Code} {b e k n : Nat} {v : Value} {cs : List CV} {fz : Bool} (hm : mget M b = some (.row e k n v cs fz)) (h : DCode P N M0 c Q env ((b, some (.row e k n v cs true)) :: M)) : DCode P N M0 c Q env M :=
  fun x0 a w hx ⟨γ, Pr, hr, hf⟩ => h x0 a w hx ⟨γ, Pr, hr.asF hm, hf.setB (Kept.refl _ _) b _⟩
end
end Go.Proofs.YtejdeonbibbchaaGreatDoor.DL
set_option linter.unusedVariables false
set_option linter.unusedSimpArgs false
set_option linter.constructorNameAsVariable false
namespace Go.Proofs.YtejdeonbibbchaaGreatDoor.DL
open Go.RowKit

abbrev di (n : Int) : DV := .sc (.int .i64 n)
section
variable {α : Type} {P : Program} {N : Nat} {env : Env} {M : Mem} {o : Oper} {T : TypeId → Option TyI}
def elX (dv : α → List DV) (d0 : α) (L : List α) : Nat → Nat → DV := fun i j => (dv (L.getD i d0)).getD j (di 0)
/-- A whole record, loaded. -/
theorem OpVal.ldX {dv : α → List DV} {d0 : α} {L : List α} (hT : TOk P T) {t k b0 n m : Nat} {z0 : Value} {fs : Array Field} {x : Operand} (ho : o.op = .load t x) (ht : T t = some ⟨.struct fs, k, b0, z0⟩)
    (hx : opv env x = .v (.one (.d (.pp k (elX dv d0 L n))))) (hn : n = m) (hk : (dv (L.getD m d0)).length = k) : OpVal P N env M o (.v (.agg ((dv (L.getD m d0)).map .d))) := by
  subst hn
  exact OpVal.loadDN (P := P) (N := N) (M := M) hT (dv (L.getD n d0)) ho ht rfl hx (Nat.le_refl _) hk (fun j d h => by rw [elX, List.getD_eq_getElem?_getD, h]; rfl)
theorem flat_x {dv : α → List DV} (d0 : α) {k : Nat} (hk : ∀ x, (dv x).length = k) : ∀ (L : List α) (p : Nat), p < L.length → ∀ q, q < k → (L.flatMap dv)[p * k + q]? = some (elX dv d0 L p q)
  | [], p, h, q, _ => absurd h (Nat.not_lt_zero p)
  | r :: W, 0, h, q, hq => by
    rw [List.flatMap_cons, List.getElem?_append_left (by rw [hk, Nat.zero_mul]; omega), Nat.zero_mul, Nat.zero_add]
    show (dv r)[q]? = some ((dv r).getD q (di 0))
    rw [List.getD_eq_getElem?_getD, List.getElem?_eq_getElem (by rw [hk]; exact hq)]
    rfl
  | r :: W, p + 1, h, q, hq => by
    rw [List.flatMap_cons, List.getElem?_append_right (by rw [hk, Nat.succ_mul]; omega)]
    have := flat_x d0 hk W p (by simpa using h) q hq
    rw [show (p + 1) * k + q - (dv r).length = p * k + q by rw [hk, Nat.succ_mul]; omega, this]
    rfl
theorem flat_len {dv : α → List DV} {k : Nat} (hk : ∀ x, (dv x).length = k) : ∀ (L : List α), (L.flatMap dv).length = L.length * k
  | [] => by simp
  | r :: W => by rw [List.flatMap_cons, List.length_append, hk, flat_len hk W, List.length_cons, Nat.succ_mul]; omega
theorem snoc_x {dv : α → List DV} (L : List α) (x : α) : (L.flatMap dv).map CV.d ++ (dv x).map CV.d = ((L ++ [x]).flatMap dv).map CV.d := by simp
theorem one_x (ds : List DV) {k : Nat} (hk : ds.length = k) : ∀ p, p < 1 → ∀ q, q < k → ds[p * k + q]? = some (ds.getD q (di 0)) := fun p hp q hq => by
  obtain rfl : p = 0 := by omega
  rw [Nat.zero_mul, Nat.zero_add, List.getD_eq_getElem?_getD, List.getElem?_eq_getElem (by omega)]
  rfl
theorem pure_ds (ds : List DV) : ∀ c ∈ ds.map CV.d, c.pure := fun c hc => by
  obtain ⟨d, _, rfl⟩ := List.mem_map.1 hc
  trivial
theorem EqV.str (hT : TOk P T) {t : TypeId} {s b : Nat} {z : Value} {l m : List UInt8} (ht : T t = some ⟨.string, s, b, z⟩) : EqV P 0 t (tT l) (tT m) (decide (l = m)) := fun d hd γ Pr w u v ⟨_, hu⟩ ⟨_, hv⟩ => by
  obtain ⟨d, rfl⟩ : ∃ e, d = e + 1 := ⟨d - 1, by omega⟩
  subst hu hv
  rw [run_equalIn_string (w := w) d t _ _ (hT _ _ ht).1, ba_toList, ba_toList]
  by_cases h : l = m
  · subst h; simp
  · simp [h]
theorem rowOkX {t k n : Nat} {v : Value} {ds : List DV} {fz : Bool} {M : Mem} : (Blk.row t k n v (ds.map .d) fz).ok M := fun c hc => CV.pure_ok (pure_ds ds c hc)
end
end Go.Proofs.YtejdeonbibbchaaGreatDoor.DL
set_option linter.unusedVariables false
set_option linter.unusedSimpArgs false
set_option linter.constructorNameAsVariable false
namespace Go.Proofs.YtejdeonbibbchaaGreatDoor.DL
open Go.RowKit

section
variable {P : Program} {N : Nat} {ops : Array Oper} {Q : DPost} {env : Env} {M M0 : Mem} {γ : Cn} {Pr : Prot} {x0 : Ctx} {w : World} {a : Act} {o : Oper} {rest : List Oper}
theorem DOps.callBye {b r d : Nat} {cl : Call} {f : FuncId} {fn : Func} {c : Code} {args rs : List TV} {k1 k2 : Blk} (hne : b ≠ r) (hg : gd ops env o = some true) (hd : o.dst = some d) (hN : Nat.blt d N = true) (ho : o.op = .call cl) (hcl : cl.callee = .value (.func f))
    (hf : P.funcs[f]? = some fn) (hb : fn.body = some c) (hn : (fn.name == "runtime.NumGoroutine") = false) (hx : opvs env cl.args.toList = some (.one (.ptr b 0) :: args)) (hm1 : mget M b = some k1) (hm2 : mget M r = some k2) (hp : ∀ t ∈ args, t.pure)
    (ho1 : k1.ok [(b, some k1), (r, some k2)]) (ho2 : k2.ok [(b, some k1), (r, some k2)])
    (hc : DCallsM P f (.one (.ptr b 0) :: args) [(b, some k1), (r, some k2)] (fun ts _ => ts = rs)) (hrp : ∀ t ∈ rs, t.pure)
    (h : DOps P N [] ops Q rest [(d, ret1 rs)] []) : DOps P N [] ops Q (o :: rest) env M := by
  refine DOps.callM [(b, some k1), (r, some k2)] hg (dstOk_of hd hN) ho hcl hf hb hn hx (fun y k hk => ?_) (fun _ _ _ _ _ _ y k hk => ?_) (fun _ _ _ _ _ _ t ht => ?_) hc (fun us M' hR hh Mn hMn => ?_) (fun M' hh => ?_)
  · rcases mget_two hk with ⟨rfl, hk'⟩ | ⟨_, rfl, hk'⟩
    · rw [hm1, hk']
    · rw [hm2, hk']
  · rcases mget_two hk with ⟨_, hk'⟩ | ⟨_, _, hk'⟩
    · obtain rfl := Option.some.inj hk'; exact ho1
    · obtain rfl := Option.some.inj hk'; exact ho2
  · rcases List.mem_cons.1 ht with rfl | ht
    · show has _ _
      rw [has, mget_cons, if_pos rfl]; simp
    · exact TV.pure_ok (hp t ht)
  · obtain rfl := hR
    refine DOps.weak (Wk.both (t := [(d, ret1 us)]) (Mt := []) (fun i => ?_) (fun _ => .inl rfl) (fun i => ?_) (fun b k hk => by simp [mget] at hk) (fun b hb => absurd rfl hb)) h
    · rw [hd]
      show lk [(d, ret1 us)] i = .junk ∨ lk [(d, ret1 us)] i = lk ((d, ret1 us) :: env) i
      rw [lk_cons, lk_cons]
      split
      · exact .inr rfl
      · exact .inl rfl
    · rw [lk_cons]
      split
      · exact ret1_ok hrp
      · trivial
  · refine ⟨(b, mget M' b) :: (r, mget M' r) :: M, fun y => ?_⟩
    rw [mget_cons, mget_cons, mget_cons, mget_cons]
    by_cases e : b = y
    · subst e; simp
    · rw [if_neg e, if_neg e]
      by_cases e2 : r = y
      · subst e2; simp
      · rw [if_neg e2, if_neg e2]; rfl
end
end Go.Proofs.YtejdeonbibbchaaGreatDoor.DL
set_option linter.unusedVariables false
set_option linter.unusedSimpArgs false
set_option linter.constructorNameAsVariable false
namespace Go.Proofs.YtejdeonbibbchaaGreatDoor.DL
open Go.RowKit

abbrev ic (xs : List Int) : List CV := xs.map fun m => .d (.sc (.int .i64 m))
abbrev iD (xs : List Int) : List DV := xs.map fun m => .sc (.int .i64 m)
def elN (xs : List Int) : Nat → Nat → DV := fun i _ => di (xs.getD i 0)
abbrev lN (xs : List Int) : DV := .sl xs.length 1 (elN xs)
abbrev tN (xs : List Int) : TV := .one (.d (lN xs))
theorem ints_flat (X : List Int) : ∀ p, p < X.length → ∀ q, q < 1 → (iD X)[p * 1 + q]? = some (elN X p q) := fun p hp q hq => by
  obtain rfl : q = 0 := by omega
  rw [Nat.mul_one, Nat.add_zero, elN, List.getElem?_map, List.getD_eq_getElem?_getD, List.getElem?_eq_getElem hp]
  rfl
theorem ic_map (X : List Int) : ic X = (iD X).map CV.d := by simp
theorem ic_pure (xs : List Int) : ∀ c ∈ ic xs, c.pure := fun c hc => by
  obtain ⟨m, _, rfl⟩ := List.mem_map.1 hc
  trivial
section
variable {P : Program} {N : Nat} {ops : Array Oper} {Q : DPost} {env : Env} {M M0 : Mem} {γ : Cn} {Pr : Prot} {x0 : Ctx} {w : World} {a : Act} {o : Oper} {rest : List Oper}
theorem OpVal.ldN {T : TypeId → Option TyI} (hT : TOk P T) {t s0 b0 n m : Nat} {z0 : Value} {d0 : TypeDesc} {x : Operand} {X : List Int} (ho : o.op = .load t x) (ht : T t = some ⟨d0, s0, b0, z0⟩) (ha : aggD d0 = false) (hx : opv env x = .v (.one (.d (.pp 1 (elN X n))))) (hn : n = m) :
    OpVal P N env M o (vI .i64 (X.getD m 0)) := by
  subst hn
  exact OpVal.ld hT ho ht ha hx (by omega) rfl
end
end Go.Proofs.YtejdeonbibbchaaGreatDoor.DL
set_option linter.unusedVariables false
set_option linter.unusedSimpArgs false
set_option linter.constructorNameAsVariable false
namespace Go.Proofs.YtejdeonbibbchaaGreatDoor.DL
open Go.RowKit

section
variable {P : Program} {N : Nat} {ops : Array Oper} {Q : DPost} {env : Env} {M M0 : Mem} {o : Oper} {rest : List Oper}
end
end Go.Proofs.YtejdeonbibbchaaGreatDoor.DL
set_option linter.unusedVariables false
set_option linter.unusedSimpArgs false
set_option linter.constructorNameAsVariable false
namespace Go.Proofs.YtejdeonbibbchaaGreatDoor.DL
open Go.RowKit

theorem wrapU {n : Nat} (h : n < 18446744073709551616) : IntKind.u64.wrap (n : Int) = (n : Int) := by
  have := IntWalk.u64_in (n : Int) ⟨by omega, by omega⟩
  exact this
abbrev vU (n : Nat) : SV := vI .u64 (n : Int)
abbrev ut (n : Nat) : TV := .one (.d (.sc (.int .u64 (n : Int))))
section
variable {P : Program} {N : Nat} {ops : Array Oper} {Q : DPost} {env : Env} {M M0 : Mem} {γ : Cn} {Pr : Prot} {x0 : Ctx} {w : World} {a : Act} {o : Oper} {rest : List Oper}
theorem OpVal.addU {t t' : TypeId} {x y : Operand} {m n : Nat} (ho : o.op = .binOp .add t x y t') (hx : opv env x = vU m) (hy : opv env y = vU n) (h : m + n < 18446744073709551616) : OpVal P N env M o (vU (m + n)) :=
  OpVal.cast (OpVal.arith (r := IntKind.u64.wrap ((m : Int) + n)) ho hx hy rfl) (vI_congr (by rw [← Int.natCast_add]; exact wrapU h))
theorem OpVal.quoU {t t' : TypeId} {x y : Operand} {m n : Nat} (ho : o.op = .binOp .quo t x y t') (hx : opv env x = vU m) (hy : opv env y = vU n) (h : m < 18446744073709551616) (h0 : 0 < n) : OpVal P N env M o (vU (m / n)) :=
  OpVal.cast (OpVal.quo ho hx hy (by omega)) (vI_congr (by
    rw [Int.ofNat_tdiv]
    exact wrapU (Nat.lt_of_le_of_lt (Nat.div_le_self _ _) h)))
theorem OpVal.remU {t t' : TypeId} {x y : Operand} {m n : Nat} (ho : o.op = .binOp .rem t x y t') (hx : opv env x = vU m) (hy : opv env y = vU n) (h0 : 0 < n) : OpVal P N env M o (vU (m % n)) :=
  OpVal.cast (OpVal.rem ho hx hy (by omega)) (vI_congr (by rw [Int.ofNat_tmod]))
end
end Go.Proofs.YtejdeonbibbchaaGreatDoor.DL
set_option linter.unusedVariables false
set_option linter.unusedSimpArgs false
set_option linter.constructorNameAsVariable false
namespace Go.Proofs.YtejdeonbibbchaaGreatDoor.DL
open Go.RowKit

section
variable {P : Program} {N : Nat} {ops : Array Oper} {env : Env} {M : Mem} {o : Oper}
end
end Go.Proofs.YtejdeonbibbchaaGreatDoor.DL
set_option linter.unusedVariables false
set_option linter.unusedSimpArgs false
set_option linter.constructorNameAsVariable false
namespace Go.Proofs.YtejdeonbibbchaaGreatDoor.DL
open Go.RowKit
set_option linter.unusedVariables false
section
variable {P : Program} {N : Nat} {ops : Array Oper} {Q : DPost} {env : Env} {M M0 : Mem} {γ : Cn} {Pr : Prot} {x0 : Ctx} {w : World} {a : Act} {o : Oper} {rest : List Oper}
/-- A cell that holds the nil slice: told as one that leads to a row of one's own, of nothing. -/
theorem Rel.cellRowI (hr : Rel γ Pr x0 N env M a w) {b r i : Nat} {t : TypeId} {cs : List CV} (hm : mget M b = some (.box t cs)) (hi : cs[i]? = some (.d (.sc (.slice none 0 0)))) : Rel γ Pr x0 N env ((b, some (.box t (cs.set i (.row r (.slice none 0 0))))) :: M) a w := by
  refine hr.setB hr.below (Nat.le_refl _) (Kept.refl _ _) ?_ ?_ fun x l g hxb hmx hbx => ⟨rfl, fun e => hr.apart x b l _ hmx hm hxb g hbx e⟩
  · obtain ⟨h1, ⟨vs, hv, hl⟩, h3⟩ := hr.mem b _ hm
    refine ⟨h1, ⟨vs, hv, by rw [List.length_set]; exact hl.1, fun j c hc => ?_⟩, h3⟩
    rw [List.getElem?_set] at hc
    by_cases e : i = j
    · subst e
      rw [if_pos rfl] at hc
      split at hc
      · obtain ⟨u, hu, hd⟩ := hl.2 i _ hi
        obtain rfl : CV.row r (.slice none 0 0) = c := by simpa using hc
        exact ⟨u, hu, hd.2, by rw [hd.2]; rfl⟩
      · cases hc
    · rw [if_neg e] at hc
      exact hl.2 j c hc
  · intro c hc
    have := hr.memB b _ hm
    rcases List.mem_or_eq_of_mem_set hc with hc | rfl
    · exact this c hc
    · trivial
theorem DCode.cellRow {c : Code} {b : Nat} (r i : Nat) (e k : Nat) {t : TypeId} {cs cs' : List CV} (hm : mget ((r, some (Blk.row e k 0 (.slice none 0 0) [] false)) :: M) b = some (.box t cs)) (hi : cs[i]? = some (.d (.sc (.slice none 0 0)))) (hc : cs.set i (.row r (.slice none 0 0)) = cs')
    (h : DCode P N M0 c Q env ((b, some (.box t cs')) :: (r, some (.row e k 0 (.slice none 0 0) [] false)) :: M)) : DCode P N M0 c Q env M := by
  subst hc
  exact DCode.nilRow r e k fun x a w hx ⟨γ, Pr, hr, hf⟩ => h x a w hx ⟨γ, Pr, hr.cellRowI hm hi, hf.setB (Kept.refl _ _) b _⟩
/-- From now on the row that a cell leads to is only read. -/
theorem At.freezeCell (h : At x0 N env M a w) {b c i e k n : Nat} {t : TypeId} {v : Value} {ds : List DV} {fz : Bool} {el : Nat → Nat → DV} {cs : List CV} (hm : mget M b = some (.row e k n v (ds.map .d) fz)) (hb : mget M c = some (.box t cs)) (hbc : c ≠ b) (hi : cs[i]? = some (.row b v))
    (hel : ∀ p, p < n → ∀ q, q < k → ds[p * k + q]? = some (el p q)) : At x0 N env ((c, some (.box t (cs.set i (.d (.sl n k el))))) :: (b, some (.row e k n v (ds.map .d) true)) :: M) a w := by
  obtain ⟨γ, Pr, hr, hf⟩ := h
  obtain ⟨vs, hown, hl, hg⟩ := hr.mem b _ hm
  let Pr' : Prot := fun g o => Pr g o ∨ (v.ownBlock = some g ∧ o < n * k)
  have K : Kept Pr w Pr' w := ⟨fun _ _ x => .inl x, fun _ _ _ => rfl⟩
  have G := Cn.agree_refl M γ
  have hlt := (hr.mem b _ hm).lt
  have hsub : ∀ x, has M x → has ((c, some (Blk.box t (cs.set i (.d (.sl n k el))))) :: (b, some (Blk.row e k n v (ds.map .d) true)) :: M) x := fun x hx => has_cons x (has_cons x hx)
  have hE : PExt Pr Pr' x0.may := ⟨fun _ _ x => .inl x, fun g o hp => hp.imp id fun ⟨e, _⟩ => (hg g e).1⟩
  have hsl : DRep Pr' w (.sl n k el) v := by
    rcases hown.2 with ⟨rfl, rfl⟩ | ⟨g, cap, cur, rfl, _, hheap, hnc, _, hcs, htake⟩
    · exact ⟨none, 0, rfl, Nat.le_refl _, fun h => absurd h (Nat.lt_irrefl _)⟩
    · refine ⟨_, cap, rfl, hnc, fun _ => ⟨g, 0, rfl, fun p hp q hq => ?_⟩⟩
      have hpq : p * k + q < n * k := by
        have h1 : p * k + k ≤ n * k := by rw [← Nat.succ_mul]; exact Nat.mul_le_mul_right _ hp
        omega
      rw [Nat.zero_add]
      refine ⟨.inr ⟨rfl, hpq⟩, ?_⟩
      obtain ⟨u, hu, hd⟩ := LRep.drep hl (hel p hp q hq)
      refine ⟨u, ?_, DRep.kept K _ _ hd⟩
      rw [cell_of_row _ _ _ _ _ _ hheap, ← htake] at *
      rw [List.getElem?_take, if_pos hpq] at hu
      simpa using hu
  refine ⟨γ, Pr', ⟨hr.size, fun i => SRep.move (M := M) G K (hr.slotB i) (hr.slot i), fun i => SV.ok_le hsub (hr.slotB i), fun x l hx => ?_, fun x l hx => ?_, fun x y l l' hx hy hne g hg => ?_, hr.below, hr.prot.kept K fun g o hp => ?_, hr.defers⟩, ⟨hf.ext.trans hE, hf.cell, hf.lie, fun x hx => hsub x (hf.has x hx)⟩⟩
  · rw [mget_cons] at hx
    split at hx
    · rename_i e1
      subst e1
      obtain rfl := Option.some.inj hx
      obtain ⟨h1, ⟨us, hv, hL⟩, h3⟩ := hr.mem c _ hb
      refine ⟨h1, ⟨us, hv, by rw [List.length_set]; exact hL.1, fun j y hy => ?_⟩, fun o hp => hp.elim (h3 o) fun h => hr.apart c b _ _ hb hm hbc _ rfl h.1⟩
      rw [List.getElem?_set] at hy
      by_cases ej : i = j
      · subst ej
        rw [if_pos rfl] at hy
        split at hy
        · obtain ⟨u, hu, hd⟩ := hL.2 i _ hi
          obtain rfl : CV.d (.sl n k el) = y := by simpa using hy
          refine ⟨u, hu, ?_⟩
          obtain ⟨rfl, _⟩ := hd
          exact hsl
        · cases hy
      · rw [if_neg ej] at hy
        obtain ⟨u, hu, hd⟩ := hL.2 j y hy
        exact ⟨u, hu, CRep.move (M := M) G K (hr.memB c _ hb y (List.mem_of_getElem? hy)) hd⟩
    · rename_i e0
      rw [mget_cons] at hx
      split at hx
      · rename_i e1
        subst e1
        obtain rfl := Option.some.inj hx
        refine ⟨vs, hown, LRep.move (M := M) G K (hr.memB _ _ hm) hl, fun g hgg => ?_⟩
        obtain ⟨a1, a2, a3⟩ := hg g hgg
        exact ⟨a1, fun o ho hp => hp.elim (a2 o ho) fun h => by omega, fun h => by cases h⟩
      · rename_i e1
        refine BRep.move G (by rw [has, hx]; simp) K (fun _ _ => rfl) (fun g hgx o hp => hp.elim id fun h => absurd hgx (hr.apart b x _ l hm hx e1 g h.1)) (hr.memB x l hx) (hr.mem x l hx)
  · rw [mget_cons] at hx
    split at hx
    · obtain rfl := Option.some.inj hx
      intro y hy
      rcases List.mem_or_eq_of_mem_set hy with hy | rfl
      · exact CV.ok_le hsub (hr.memB c _ hb y hy)
      · trivial
    · rw [mget_cons] at hx
      split at hx
      · obtain rfl := Option.some.inj hx
        exact fun c hc => CV.ok_le hsub (hr.memB b _ hm c hc)
      · exact Blk.ok_le hsub (hr.memB x l hx)
  · have back : ∀ x l, mget ((c, some (Blk.box t (cs.set i (.d (.sl n k el))))) :: (b, some (Blk.row e k n v (ds.map .d) true)) :: M) x = some l → ∃ l0, mget M x = some l0 ∧ blockOf γ x l0 = blockOf γ x l := fun x l hx => by
      rw [mget_cons] at hx
      split at hx
      · rename_i e1
        subst e1
        obtain rfl := Option.some.inj hx
        exact ⟨_, hb, rfl⟩
      · rw [mget_cons] at hx
        split at hx
        · rename_i e1
          subst e1
          obtain rfl := Option.some.inj hx
          exact ⟨_, hm, rfl⟩
        · exact ⟨_, hx, rfl⟩
    obtain ⟨l1, m1, k1⟩ := back x l hx
    obtain ⟨l2, m2, k2⟩ := back y l' hy
    rw [← k2]
    exact hr.apart x y l1 l2 m1 m2 hne g (by rw [k1]; exact hg)
  · rcases hp with hp | ⟨e, _⟩
    · exact hr.prot g o hp
    · exact (hlt g e).2
theorem DCode.freezeCell {co : Code} {b c i e k n : Nat} {t : TypeId} {v : Value} {fz : Bool} {cs cs' : List CV} (ds : List DV) (el : Nat → Nat → DV) (hm : mget M b = some (.row e k n v (ds.map .d) fz)) (hb : mget M c = some (.box t cs)) (hbc : c ≠ b) (hi : cs[i]? = some (.row b v))
    (hel : ∀ p, p < n → ∀ q, q < k → ds[p * k + q]? = some (el p q)) (hc : cs.set i (.d (.sl n k el)) = cs') (h : DCode P N M0 co Q env ((c, some (.box t cs')) :: (b, some (.row e k n v (ds.map .d) true)) :: M)) : DCode P N M0 co Q env M := by
  subst hc
  exact fun x0 a w hx hat => h x0 a w hx (hat.freezeCell hm hb hbc hi hel)
theorem DOps.freezeCell {b c i e k n : Nat} {t : TypeId} {v : Value} {fz : Bool} {cs cs' : List CV} (ds : List DV) (el : Nat → Nat → DV) (hm : mget M b = some (.row e k n v (ds.map .d) fz)) (hb : mget M c = some (.box t cs)) (hbc : c ≠ b) (hi : cs[i]? = some (.row b v))
    (hel : ∀ p, p < n → ∀ q, q < k → ds[p * k + q]? = some (el p q)) (hc : cs.set i (.d (.sl n k el)) = cs') (h : DOps P N M0 ops Q rest env ((c, some (.box t cs')) :: (b, some (.row e k n v (ds.map .d) true)) :: M)) : DOps P N M0 ops Q rest env M := by
  subst hc
  exact fun x0 a w hx hat => h x0 a w hx (hat.freezeCell hm hb hbc hi hel)
end
end Go.Proofs.YtejdeonbibbchaaGreatDoor.DL
set_option linter.unusedVariables false
set_option linter.unusedSimpArgs false
set_option linter.constructorNameAsVariable false
namespace Go.Proofs.YtejdeonbibbchaaGreatDoor.DL
open Go.RowKit
set_option linter.unusedVariables false
section
variable {P : Program} {N : Nat} {ops : Array Oper} {Q : DPost} {env : Env} {M M0 : Mem} {γ : Cn} {Pr : Prot} {x0 : Ctx} {w : World} {a : Act} {o : Oper} {rest : List Oper}
theorem Rel.cellRe (hr : Rel γ Pr x0 N env M a w) {b i : Nat} {t : TypeId} {cs : List CV} {x y : DV} (hm : mget M b = some (.box t cs)) (hi : cs[i]? = some (.d x)) (h : DEq x y) : Rel γ Pr x0 N env ((b, some (.box t (cs.set i (.d y)))) :: M) a w := by
  refine hr.setB hr.below (Nat.le_refl _) (Kept.refl _ _) ?_ ?_ fun z l g hxb hmx hbx => ⟨rfl, fun e => hr.apart z b l _ hmx hm hxb g hbx e⟩
  · obtain ⟨h1, ⟨vs, hv, hl⟩, h3⟩ := hr.mem b _ hm
    refine ⟨h1, ⟨vs, hv, by rw [List.length_set]; exact hl.1, fun j c hc => ?_⟩, h3⟩
    rw [List.getElem?_set] at hc
    by_cases e : i = j
    · subst e
      rw [if_pos rfl] at hc
      split at hc
      · obtain ⟨u, hu, hd⟩ := hl.2 i _ hi
        obtain rfl : CV.d y = c := by simpa using hc
        exact ⟨u, hu, h _ _ _ hd⟩
      · cases hc
    · rw [if_neg e] at hc
      exact hl.2 j c hc
  · intro c hc
    have := hr.memB b _ hm
    rcases List.mem_or_eq_of_mem_set hc with hc | rfl
    · exact this c hc
    · trivial
/-- At a region's end. -/
theorem DOps.cellReE {b i : Nat} {t : TypeId} {cs cs' : List CV} {x : DV} (y : DV) (hm : mget M b = some (.box t cs)) (hi : cs[i]? = some (.d x)) (hxy : DEq x y) (hc : cs.set i (.d y) = cs') (h : DOps P N M0 ops Q [] env ((b, some (.box t cs')) :: M)) : DOps P N M0 ops Q [] env M := by
  subst hc
  exact fun x0 a w hx ⟨γ, Pr, hr, hf⟩ => h x0 a w hx ⟨γ, Pr, hr.cellRe hm hi hxy, hf.setB (Kept.refl _ _) b _⟩
end
end Go.Proofs.YtejdeonbibbchaaGreatDoor.DL
set_option linter.unusedVariables false
set_option linter.unusedSimpArgs false
set_option linter.constructorNameAsVariable false
namespace Go.Proofs.YtejdeonbibbchaaGreatDoor.DL
open Go.RowKit
set_option linter.unusedVariables false
section
variable {P : Program} {N : Nat} {ops : Array Oper} {Q : DPost} {env : Env} {M M0 : Mem} {γ : Cn} {Pr : Prot} {x0 : Ctx} {w : World} {a : Act} {o : Oper} {rest : List Oper} {l : List Oper} {ws : List (Nat × Nat × Nat)} {un : List (List Nat × List Nat)} {i : Nat}
variable {α : Type} {dv : α → List DV}
theorem OpVal.loadRN {T : TypeId → Option TyI} (hT : TOk P T) {t e : TypeId} {i : TyI} {x : Operand} {b k n off : Nat} {v : Value} {cs : List CV} {fz : Bool} (ho : o.op = .load t x) (ht : T t = some i) (ha : aggD i.desc = true)
    (hx : opv env x = .v (.one (.rp b v off))) (hm : mget M b = some (.row e k n v cs fz)) (hc : off + i.size ≤ cs.length) : OpVal P N env M o (.v (.agg ((cs.drop off).take i.size))) := fun γ Pr x0 a w h => by
  have h1 := h.opv x
  rw [hx] at h1
  obtain ⟨g, hg, he⟩ := h1
  obtain ⟨vs, hown, hl, _⟩ := h.mem b _ hm
  refine ⟨fun c hcm => h.memB b _ hm c (List.mem_of_mem_drop (List.mem_of_mem_take hcm)), .agg ((vs.drop off).take i.size).toArray, ?_, _, rfl, hl.part off i.size⟩
  simp only [execOp, ho, he]
  rw [Sem.run_bind, run_loadN hT ht ha (vs := (vs.drop off).take i.size) (by simp [hl.1]; omega)]
  · rfl
  · intro j v hj
    simp only [List.getElem?_take, List.getElem?_drop] at hj
    split at hj
    · exact row_cell hown hg hj
    · cases hj
/-- Records, as cells. -/
def rx (dv : α → List DV) (L : List α) : List CV := (L.flatMap dv).map .d
theorem rx_pure (L : List α) : ∀ c ∈ rx dv L, c.pure := pure_ds _
theorem rx_len {k : Nat} (hk : ∀ x, (dv x).length = k) (L : List α) : (rx dv L).length = L.length * k := by rw [rx, List.length_map, flat_len hk]
theorem rx_part {k : Nat} (hk : ∀ x, (dv x).length = k) (d0 : α) : ∀ (L : List α) (j : Nat), j < L.length → ((rx dv L).drop (j * k)).take k = (dv (L.getD j d0)).map .d
  | [], j, h => absurd h (Nat.not_lt_zero j)
  | r :: W, 0, h => by
    rw [rx, List.flatMap_cons, List.map_append, Nat.zero_mul, List.drop_zero, List.take_left' (by rw [List.length_map, hk])]
    rfl
  | r :: W, j + 1, h => by
    have := rx_part hk d0 W j (by simpa using h)
    rw [rx, List.flatMap_cons, List.map_append, Nat.succ_mul, Nat.add_comm, ← List.drop_drop, List.drop_left' (by rw [List.length_map, hk])]
    exact this
theorem splice_over {β : Type} (ns old post : List β) (h : ns.length = old.length) : splice (old ++ post) 0 ns = ns ++ post := by
  apply List.ext_getElem?
  intro i
  rw [splice_get ns (old ++ post) 0 i (by simp; omega)]
  by_cases hi : i < ns.length
  · rw [if_pos (by omega), List.getElem?_append_left hi, Nat.sub_zero]
  · rw [if_neg (by omega), List.getElem?_append_right (by omega), List.getElem?_append_right (by omega), h]
theorem rx_set {k : Nat} (hk : ∀ x, (dv x).length = k) (y : α) : ∀ (L : List α) (j : Nat), j < L.length → splice (rx dv L) (j * k) ((dv y).map .d) = rx dv (L.set j y)
  | [], j, h => absurd h (Nat.not_lt_zero j)
  | r :: W, 0, h => by
    rw [rx, List.flatMap_cons, List.map_append, Nat.zero_mul, splice_over _ _ _ (by rw [List.length_map, List.length_map, hk, hk])]
    simp [rx]
  | r :: W, j + 1, h => by
    have := rx_set hk y W j (by simpa using h)
    have e : rx dv (r :: W) = (dv r).map .d ++ rx dv W := by simp [rx]
    have e2 : rx dv ((r :: W).set (j + 1) y) = (dv r).map .d ++ rx dv (W.set j y) := by simp [rx]
    rw [e, e2, ← this]
    have hl : (j + 1) * k = ((dv r).map CV.d).length + j * k := by rw [List.length_map, hk, Nat.succ_mul, Nat.add_comm]
    rw [hl]
    have key : ∀ (ns : List CV) (cs : List CV) (q : Nat), splice ((dv r).map CV.d ++ cs) (((dv r).map CV.d).length + q) ns = (dv r).map CV.d ++ splice cs q ns := by
      intro ns
      induction ns with
      | nil => intro cs q; rfl
      | cons v ns ih =>
        intro cs q
        rw [splice, splice, List.set_append_right _ _ (by omega), Nat.add_sub_cancel_left, Nat.add_assoc, ih]
    exact key _ _ _
/-- A record of a row of one's own. -/
theorem OpVal.loadRX {T : TypeId → Option TyI} (hT : TOk P T) {k : Nat} (hk : ∀ x, (dv x).length = k) {t e : TypeId} {d0 : TypeDesc} {b0 : Nat} {z0 : Value} {x : Operand} {b n off j : Nat} {v : Value} {L : List α} {fz : Bool} (z : α) (ho : o.op = .load t x) (ht : T t = some ⟨d0, k, b0, z0⟩) (ha : aggD d0 = true)
    (hx : opv env x = .v (.one (.rp b v off))) (hm : mget M b = some (.row e k n v (rx dv L) fz)) (hj : off = j * k) (hl : j < L.length) : OpVal P N env M o (.v (.agg ((dv (L.getD j z)).map .d))) := by
  subst hj
  have := OpVal.loadRN (N := N) hT ho ht ha hx hm (by rw [rx_len hk]; show j * k + k ≤ _; rw [← Nat.succ_mul]; exact Nat.mul_le_mul_right _ hl)
  rw [show (⟨d0, k, b0, z0⟩ : TyI).size = k from rfl, rx_part hk z L j hl] at this
  exact this
theorem DOps.storeRX {T : TypeId → Option TyI} (hT : TOk P T) {k : Nat} (hk : ∀ x, (dv x).length = k) {t e : TypeId} {d0 : TypeDesc} {b0 : Nat} {z0 : Value} {x y : Operand} {b n off j : Nat} {v : Value} {q : α} {L L' : List α} (hg : gd ops env o = some true) (hd : o.dst = none) (ho : o.op = .store t x y)
    (ht : T t = some ⟨d0, k, b0, z0⟩) (hx : opv env x = .v (.one (.rp b v off))) (hy : opv env y = .v (.agg ((dv q).map .d))) (hm : mget M b = some (.row e k n v (rx dv L) false)) (hj : off = j * k) (hl : j < L.length) (hs : L.set j q = L')
    (h : DOps P N M0 ops Q rest env ((b, some (.row e k n v (rx dv L') false)) :: M)) : DOps P N M0 ops Q (o :: rest) env M := by
  subst hj hs
  have hq : ((dv q).map CV.d).length = k := by rw [List.length_map, hk]
  refine DOps.storeR (cs' := rx dv (L.set j q)) (tv := .agg ((dv q).map .d)) hT hg hd ho ht hx hy hm hq ?_ (rx_set hk q L j hl) h
  show j * k + ((dv q).map CV.d).length ≤ _
  rw [hq, rx_len hk, ← Nat.succ_mul]
  exact Nat.mul_le_mul_right _ hl
theorem DCf.storeRX {T : TypeId → Option TyI} (hT : TOk P T) {k : Nat} (hk : ∀ x, (dv x).length = k) {t e : TypeId} {d0 : TypeDesc} {b0 : Nat} {z0 : Value} {x y : Operand} {b n off j : Nat} {v : Value} {q : α} {L L' : List α} (hd : o.dst = none) (ho : o.op = .store t x y) (hg : ∀ E, gd l.toArray (restr env (o.looksAt l.toArray) ++ E) o = some true)
    (ht : T t = some ⟨d0, k, b0, z0⟩) (hx : ∀ E, opv (restr env (o.looksAt l.toArray) ++ E) x = .v (.one (.rp b v off))) (hy : ∀ E, opv (restr env (o.looksAt l.toArray) ++ E) y = .v (.agg ((dv q).map .d))) (hw : wsAt ws i = some (b, 0)) (hm : mget M b = some (.row e k n v (rx dv L) false))
    (hm' : ∀ xs' ys', mget (genM (un.getD i ([], [])) xs' ys' M) b = some (.row e k n v (rx dv L) false)) (hj : off = j * k) (hl : j < L.length) (hs : L.set j q = L') (h : DCf P N M0 l Q ws un (i + 1) rest env ((b, some (.row e k n v (rx dv L') false)) :: M)) :
    DCf P N M0 l Q ws un i (o :: rest) env M :=
  DCf.upd hd hw hm (fun E xs' ys' => DOps.storeRX hT hk (hg E) hd ho ht (hx E) (hy E) (hm' xs' ys') hj hl hs (DOps.nil ⟨rfl, rfl, rfl⟩)) rfl h
end
end Go.Proofs.YtejdeonbibbchaaGreatDoor.DL
