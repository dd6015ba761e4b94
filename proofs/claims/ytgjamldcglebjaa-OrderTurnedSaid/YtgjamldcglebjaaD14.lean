/- A logic of data for Go functions: rows of one's own (slices that grow). No program in sight. -/
import Derived.Test.YtgjamldcglebjaaD13
import Derived.Maps.AppendAt
import Derived.Deep.Slices
namespace Go.Proofs.Ytgjamldcglebjaa.DL
open Go.RowKit

section
variable {P : Program} {N : Nat} {ops : Array Oper} {Q : DPost} {env : Env} {M M0 : Mem} {γ γ' : Cn} {Pr Pr' : Prot} {x0 : Ctx} {w w' : World} {a : Act} {o : Oper} {rest : List Oper}

/-- A block is told anew, in a new world. -/
theorem Rel.setB (h : Rel γ Pr x0 N env M a w) {b : Nat} {k' : Blk} (hsim : Sim x0 w') (hsz : w.heap.size ≤ w'.heap.size) (K : Kept Pr w Pr w') (hb : BRep γ Pr w' x0 b k') (hok : k'.ok M)
    (hfar : ∀ x l g, x ≠ b → mget M x = some l → blockOf γ x l = some g → w'.heap[g]? = w.heap[g]? ∧ blockOf γ b k' ≠ some g) : Rel γ Pr x0 N env ((b, some k') :: M) a w' := by
  have G := Cn.agree_refl M γ
  have hsub : ∀ x, has M x → has ((b, some k') :: M) x := has_cons
  refine { size := h.size, slot := fun i => SRep.move G K (h.slotB i) (h.slot i), slotB := fun i => SV.ok_le hsub (h.slotB i), mem := fun x l hx => ?_, memB := fun x l hx => ?_, apart := fun x y l l' hx hy hne g hg => ?_,
           below := hsim, prot := h.prot.kept K fun b o hp => Nat.lt_of_lt_of_le (h.prot b o hp) hsz, defers := h.defers }
  · rw [mget_cons] at hx
    split at hx
    · rename_i e
      subst e
      obtain rfl := Option.some.inj hx
      exact hb
    · rename_i e
      exact BRep.move G (by rw [has, hx]; simp) K (fun g hg => (hfar x l g (Ne.symm e) hx hg).1) (fun _ _ _ p => p) (h.memB x l hx) (h.mem x l hx)
  · rw [mget_cons] at hx
    split at hx
    · obtain rfl := Option.some.inj hx
      exact Blk.ok_le hsub hok
    · exact Blk.ok_le hsub (h.memB x l hx)
  · rw [mget_cons] at hx hy
    split at hx
    · rename_i e1
      subst e1
      obtain rfl := Option.some.inj hx
      rw [if_neg hne] at hy
      intro e2
      exact (hfar y l' g (Ne.symm hne) hy e2).2 hg
    · split at hy
      · rename_i e1 e2
        subst e2
        obtain rfl := Option.some.inj hy
        exact (hfar x l g hne hx hg).2
      · exact h.apart x y l l' hx hy hne g hg
theorem From.setB (h : From x0 γ Pr M w) (K : Kept Pr w Pr w') (b : Nat) (l : Blk) : From x0 γ Pr ((b, some l) :: M) w' := h.step (Cn.agree_refl M γ) K (PExt.refl _ _) has_cons

/-- A slot told in another way. -/
theorem DOps.tell (d : Nat) (r : SV) (h0 : ∀ γ Pr x0 a w, Rel γ Pr x0 N env M a w → r.ok M ∧ SRep γ Pr w r (a.tmps.getD d undef)) (h : DOps P N M0 ops Q (o :: rest) ((d, r) :: env) M) : DOps P N M0 ops Q (o :: rest) env M :=
  fun x0 a w hx ⟨γ, Pr, hr, hf⟩ => by
    obtain ⟨hok, hs⟩ := h0 γ Pr x0 a w hr
    refine h x0 a w hx ⟨γ, Pr, { hr with slot := fun i => ?_, slotB := fun i => ?_ }, hf⟩
    · rw [lk]
      cases e : Nat.beq d i with
      | true =>
        obtain rfl := Nat.eq_of_beq_eq_true e
        exact hs
      | false => exact hr.slot i
    · rw [lk]
      cases e : Nat.beq d i with
      | true => exact hok
      | false => exact hr.slotB i

/-- A nil slice as a row of one's own: an empty one. -/
theorem nilRow_rep (e : TypeId) (k : Nat) (b : Nat) : BRep γ Pr w x0 b (.row e k 0 (.slice none 0 0) [] false) :=
  ⟨[], World.ownsRow_nil w 0 e k, ⟨rfl, fun i c hc => by simp at hc⟩, fun g hg => by simp [Value.ownBlock] at hg⟩
theorem DOps.nilRow (b : Nat) (e : TypeId) (k : Nat) (h : DOps P N M0 ops Q rest env ((b, some (.row e k 0 (.slice none 0 0) [] false)) :: M)) : DOps P N M0 ops Q rest env M :=
  fun x0 a w hx ⟨γ, Pr, hr, hf⟩ => h x0 a w hx ⟨γ, Pr, hr.setB hr.below (Nat.le_refl _) (Kept.refl _ _) (nilRow_rep e k b) (fun c hc => by cases hc) (fun x l g _ _ _ => ⟨rfl, by simp [blockOf, Value.ownBlock]⟩), hf.setB (Kept.refl _ _) b _⟩
theorem DCode.nilRow {c : Code} (b : Nat) (e : TypeId) (k : Nat) (h : DCode P N M0 c Q env ((b, some (.row e k 0 (.slice none 0 0) [] false)) :: M)) : DCode P N M0 c Q env M :=
  fun x0 a w hx ⟨γ, Pr, hr, hf⟩ => h x0 a w hx ⟨γ, Pr, hr.setB hr.below (Nat.le_refl _) (Kept.refl _ _) (nilRow_rep e k b) (fun c hc => by cases hc) (fun x l g _ _ _ => ⟨rfl, by simp [blockOf, Value.ownBlock]⟩), hf.setB (Kept.refl _ _) b _⟩
/-- The nil constant, as that row. -/
theorem OpVal.nilRow {x : Operand} {b : Nat} {v : Value} (ho : o.op = .assign x ∨ o.op = .move x) (hx : opv env x = .v (.one (.d (.sc v)))) : OpVal P N env M o (.v (.one (.row b v))) := fun γ Pr x0 a w h => by
  have h1 := h.opv x
  rw [hx] at h1
  obtain ⟨h2, h3⟩ := h1
  refine ⟨trivial, v, ?_, rfl, h2⟩
  rcases ho with ho | ho <;> simp [execOp, ho, h3]

theorem sl_cells {el : Nat → Nat → DV} {m k : Nat} {v : Value} (h : DRep Pr w (.sl m k el) v) (hm : 0 < m) {ds : List DV} (hl : ds.length = m * k) (hel : ∀ p, p < m → ∀ q, q < k → ds[p * k + q]? = some (el p q)) :
    ∃ b o c news, v = .slice (some ⟨b, o, none⟩) m c ∧ news.length = m * k ∧ LRep γ Pr w (ds.map .d) news ∧ ∀ j u, news[j]? = some u → w.cell? ((⟨b, o, none⟩ : Addr).add j) = some u := by
  obtain ⟨A, c, hv, hc, hh⟩ := h
  obtain ⟨b, o, rfl, hcell⟩ := hh hm
  have each : ∀ j, j < m * k → ∃ u d, ds[j]? = some d ∧ w.cell? ⟨b, o + j, none⟩ = some u ∧ DRep Pr w d u := fun j hj => by
    have hk : 0 < k := by
      rcases Nat.eq_zero_or_pos k with h | h
      · rw [h, Nat.mul_zero] at hj; exact absurd hj (Nat.not_lt_zero _)
      · exact h
    have hp : j / k < m := Nat.div_lt_of_lt_mul (by rw [Nat.mul_comm]; exact hj)
    have hq : j % k < k := Nat.mod_lt _ hk
    have hj2 : j / k * k + j % k = j := by rw [Nat.mul_comm]; exact Nat.div_add_mod j k
    obtain ⟨_, u, hu, hd⟩ := hcell (j / k) hp (j % k) hq
    rw [hj2] at hu
    have := hel (j / k) hp (j % k) hq
    rw [hj2] at this
    exact ⟨u, _, this, hu, hd⟩
  obtain ⟨F, hF⟩ := Go.Deep.choose_lt (α := Value) (n := m * k) (p := fun j u => ∃ d, ds[j]? = some d ∧ w.cell? ⟨b, o + j, none⟩ = some u ∧ DRep Pr w d u) each
  refine ⟨b, o, c, (List.range (m * k)).map F, hv, by simp, ⟨by simp [hl], fun i c' hc' => ?_⟩, fun j u hj => ?_⟩
  · rw [List.getElem?_map, Option.map_eq_some_iff] at hc'
    obtain ⟨d, hd, rfl⟩ := hc'
    have hi : i < m * k := by rw [← hl]; exact (List.getElem?_eq_some_iff.1 hd).1
    obtain ⟨d', hd', hu, hr⟩ := hF i hi
    rw [hd] at hd'
    obtain rfl := Option.some.inj hd'
    exact ⟨F i, by simp [hi], hr⟩
  · rw [List.getElem?_map, Option.map_eq_some_iff] at hj
    obtain ⟨i, hi, rfl⟩ := hj
    obtain ⟨hlt, rfl⟩ := List.getElem?_eq_some_iff.1 hi
    simp only [List.length_range] at hlt
    rw [Go.WideShapes.add_plain]
    simp only [List.getElem_range]
    obtain ⟨_, _, hu, _⟩ := hF j hlt
    exact hu

/-- append, onto a row of one's own. -/
theorem DOps.append {T : TypeId → Option TyI} (hT : TOk P T) {t e : TypeId} {i j : TyI} {s x : Operand} {b k n m n' d : Nat} {v : Value} {cs cs' : List CV} (ds : List DV) {el : Nat → Nat → DV} (hg : gd ops env o = some true) (hd : o.dst = some d) (hN : Nat.blt d N = true)
    (ho : o.op = .call { callee := .builtin .append, args := #[s, x], argTypes := #[t, t] }) (ht : T t = some i) (hde : i.desc = .slice e) (hj : T e = some j) (hk : j.size = k) (hk0 : Nat.blt 0 k = true) (hzs : j.zero.cells.size = k)
    (hs : opv env s = .v (.one (.row b v))) (hm : mget M b = some (.row e k n v cs false)) (hx : opv env x = .v (.one (.d (.sl m k el)))) (hm0 : 0 < m) (hmax : (n + m) * j.bytes ≤ 140737488355328) (h63 : n + m ≤ maxLen)
    (hl : ds.length = m * k) (hel : ∀ p, p < m → ∀ q, q < k → ds[p * k + q]? = some (el p q))
    (hn' : n + m = n') (hcs' : cs ++ ds.map .d = cs') (h : ∀ v', DOps P N M0 ops Q rest ((d, .v (.one (.row b v'))) :: env) ((b, some (.row e k n' v' cs' false)) :: M)) : DOps P N M0 ops Q (o :: rest) env M := by
  subst hn' hcs'
  intro x0 a w hx0 ⟨γ, Pr, hr, hf⟩
  have hw := gd_wanted (ops := ops) hr hg
  unfold wpList
  rw [if_pos hw]
  refine .inl ?_
  have h1 := hr.opv s; have h2 := hr.opv x
  rw [hs] at h1; rw [hx] at h2
  obtain ⟨vs, hown, hl1, hg1⟩ := hr.mem b _ hm
  obtain ⟨bb, oo, c, news, hv2, hnl, hnr, hnc⟩ := sl_cells (γ := γ) h2 hm0 hl hel
  obtain ⟨hu, info, hi1, hi2, hi3, hi4⟩ := hT _ _ ht
  obtain ⟨_, info', hj1, hj2, hj3, hj4⟩ := hT _ _ hj
  rw [hde] at hu
  have h1e : a.eval s = v := h1.1
  have hk0 : 0 < k := by simpa using hk0
  obtain ⟨v', w', hrun, hown', hgrow, _, hat⟩ := run_append_own_at (P := P) w 0 t o.type e info' j.zero k j.bytes hu hj1 hj4 (by rw [hj2, hk]) hj3 hzs hk0 v n vs hown ⟨bb, oo, none⟩ m c news hnl hnc hnr.one h63 hmax (Nat.zero_le _)
  have hpg : ∀ g o, Pr g o → some g ≠ v.ownBlock := fun g o hp e => (hg1 g e.symm).2.2 rfl o hp
  have K : Kept Pr w Pr w' := ⟨fun _ _ x => x, fun g o hp => heap_cell (hgrow.block g (hr.prot g o hp) (hpg g o hp)) o⟩
  have hsim : Sim x0 w' := ⟨hgrow.os.trans hr.below.os, hgrow.tape.trans hr.below.tape, hgrow.output.trans hr.below.output, Nat.le_trans hr.below.size hgrow.size, fun q hq =>
    (hgrow.block q (Nat.lt_of_lt_of_le (may_lt hq) hr.below.size) (fun e => hq (hg1 q e.symm).1)).trans (hr.below.block q hq)⟩
  have G := Cn.agree_refl M γ
  have hrow : BRep γ Pr w' x0 b (.row e k (n + m) v' (cs ++ ds.map .d) false) := by
    refine ⟨vs ++ news, hown', ?_, fun g hgg => ?_⟩
    · have l1 := LRep.move (M := M) G K (hr.memB b _ hm) hl1
      have l2 := LRep.move (M := M) G K (fun c hc => by obtain ⟨d, _, rfl⟩ := List.mem_map.1 hc; trivial) hnr
      refine ⟨by simp [l1.1, l2.1], fun q c hc => ?_⟩
      by_cases hq : q < cs.length
      · rw [List.getElem?_append_left hq] at hc
        obtain ⟨u, hu, hr⟩ := l1.2 q c hc
        exact ⟨u, by rw [List.getElem?_append_left (by rw [l1.1]; exact hq)]; exact hu, hr⟩
      · rw [List.getElem?_append_right (by omega)] at hc
        obtain ⟨u, hu, hr⟩ := l2.2 _ c hc
        exact ⟨u, by rw [List.getElem?_append_right (by rw [l1.1]; omega), l1.1]; exact hu, hr⟩
    · rcases hat with e | e
      · rw [e] at hgg
        obtain ⟨a1, a2, a3⟩ := hg1 g hgg
        exact ⟨a1, fun o ho => a3 rfl o, fun _ => a3 rfl⟩
      · rw [e] at hgg
        obtain rfl := Option.some.inj hgg
        have np : ∀ o, ¬ Pr w.heap.size o := fun o hp => absurd (hr.prot _ o hp) (Nat.lt_irrefl _)
        exact ⟨.inl hr.below.size, fun o _ => np o, fun _ => np⟩
  have hok : (Blk.row e k (n + m) v' (cs ++ ds.map .d) false).ok M := fun c hc => by
    rcases List.mem_append.1 hc with hc | hc
    · exact hr.memB b _ hm c hc
    · obtain ⟨d, _, rfl⟩ := List.mem_map.1 hc
      trivial
  have hrel := hr.setB hsim hgrow.size K hrow hok fun x l g hxb hmx hbx => by
    have hne : some g ≠ v.ownBlock := fun e => hr.apart b x _ l hm hmx (Ne.symm hxb) g e.symm hbx
    have hlt := ((hr.mem x l hmx).lt g hbx).2
    refine ⟨hgrow.block g hlt hne, ?_⟩
    show v'.ownBlock ≠ some g
    rcases hat with e | e
    · rw [e]; exact Ne.symm hne
    · rw [e]; intro e2; exact absurd hlt (by have := Option.some.inj e2; omega)
  have hst : ({ callee := .builtin .append, args := #[s, x], argTypes := #[t, t] } : Call).args = #[s, x] := rfl
  unfold Oper.wp execOp
  simp only [ho, resolve, invoke, builtin, Sem.run_bind, Sem.run_pure, Result.andThen_ok, List.map_toArray, List.map_cons, List.map_nil, h1e, hv2, hrun, Oper.upon_value]
  have hone : v'.oneCell' = true := by
    rcases hown'.2 with ⟨e, _⟩ | ⟨g, cap, cur, e, _⟩ <;> rw [e] <;> rfl
  have hdd := dstOk_of hd hN
  have he : putd o.dst (.v (.one (.row b v'))) env = (d, .v (.one (.row b v'))) :: env := by rw [hd]; rfl
  refine h v' x0 _ w' hx0 ⟨γ, Pr, ?_, hf.setB K b _⟩
  rw [← he]
  exact hrel.put (dstOk_spec hdd) ⟨rfl, hone⟩ trivial

/-- From now on the row is only read. -/
theorem At.freeze (h : At x0 N env M a w) {b d e k n : Nat} {v : Value} {ds : List DV} {fz : Bool} {el : Nat → Nat → DV} (hm : mget M b = some (.row e k n v (ds.map .d) fz)) (hs : lk env d = .v (.one (.row b v)))
    (hel : ∀ p, p < n → ∀ q, q < k → ds[p * k + q]? = some (el p q)) : At x0 N ((d, .v (.one (.d (.sl n k el)))) :: env) ((b, some (.row e k n v (ds.map .d) true)) :: M) a w := by
  obtain ⟨γ, Pr, hr, hf⟩ := h
  obtain ⟨vs, hown, hl, hg⟩ := hr.mem b _ hm
  have h1 := hr.slot d
  rw [hs] at h1
  have hv : a.tmps.getD d undef = v := h1.1
  let Pr' : Prot := fun g o => Pr g o ∨ (v.ownBlock = some g ∧ o < n * k)
  have K : Kept Pr w Pr' w := ⟨fun _ _ x => .inl x, fun _ _ _ => rfl⟩
  have G := Cn.agree_refl M γ
  have hlt := (hr.mem b _ hm).lt
  have hsub : ∀ x, has M x → has ((b, some (Blk.row e k n v (ds.map .d) true)) :: M) x := has_cons
  have hE : PExt Pr Pr' x0.may := ⟨fun _ _ x => .inl x, fun g o hp => hp.imp id fun ⟨e, _⟩ => (hg g e).1⟩
  have hsl : DRep Pr' w (.sl n k el) v := by
    rcases hown.2 with ⟨rfl, rfl⟩ | ⟨g, cap, cur, rfl, _, hheap, hnc, _, hcs, htake⟩
    · exact ⟨none, 0, rfl, Nat.le_refl _, fun h => absurd h (Nat.lt_irrefl _)⟩
    · refine ⟨_, cap, rfl, hnc, fun _ => ⟨g, 0, rfl, fun p hp q hq => ?_⟩⟩
      have hpq : p * k + q < n * k := by
        have h1 : p * k + k ≤ n * k := by rw [← Nat.succ_mul]; exact Nat.mul_le_mul_right _ hp
        omega
      rw [Nat.zero_add]
      refine ⟨.inr ⟨rfl, hpq⟩, ?_⟩
      obtain ⟨u, hu, hd⟩ := LRep.drep hl (hel p hp q hq)
      refine ⟨u, ?_, DRep.kept K _ _ hd⟩
      rw [cell_of_row _ _ _ _ _ _ hheap, ← htake] at *
      rw [List.getElem?_take, if_pos hpq] at hu
      simpa using hu
  refine ⟨γ, Pr', ⟨hr.size, fun i => ?_, fun i => ?_, fun x l hx => ?_, fun x l hx => ?_, fun x y l l' hx hy hne g hg => ?_, hr.below, hr.prot.kept K fun g o hp => ?_, hr.defers⟩, ⟨hf.ext.trans hE, hf.cell, hf.lie, fun x hx => hsub x (hf.has x hx)⟩⟩
  · rw [lk]
    cases e : Nat.beq d i with
    | true =>
      obtain rfl := Nat.eq_of_beq_eq_true e
      show DRep Pr' w (.sl n k el) (a.tmps.getD d undef)
      rw [hv]; exact hsl
    | false => exact SRep.move (M := M) G K (hr.slotB i) (hr.slot i)
  · rw [lk]
    cases e : Nat.beq d i with
    | true => trivial
    | false => exact SV.ok_le hsub (hr.slotB i)
  · rw [mget_cons] at hx
    split at hx
    · rename_i e1
      subst e1
      obtain rfl := Option.some.inj hx
      refine ⟨vs, hown, LRep.move (M := M) G K (hr.memB _ _ hm) hl, fun g hgg => ?_⟩
      obtain ⟨a1, a2, a3⟩ := hg g hgg
      exact ⟨a1, fun o ho hp => hp.elim (a2 o ho) fun h => by omega, fun h => by cases h⟩
    · rename_i e1
      refine BRep.move G (by rw [has, hx]; simp) K (fun _ _ => rfl) (fun g hgx o hp => hp.elim id fun h => absurd hgx (hr.apart b x _ l hm hx e1 g h.1)) (hr.memB x l hx) (hr.mem x l hx)
  · rw [mget_cons] at hx
    split at hx
    · obtain rfl := Option.some.inj hx
      exact fun c hc => CV.ok_le hsub (hr.memB b _ hm c hc)
    · exact Blk.ok_le hsub (hr.memB x l hx)
  · rw [mget_cons] at hx hy
    split at hx
    · rename_i e1
      subst e1
      obtain rfl := Option.some.inj hx
      rw [if_neg hne] at hy
      exact hr.apart _ y _ l' hm hy hne g hg
    · split at hy
      · rename_i e1 e2
        subst e2
        obtain rfl := Option.some.inj hy
        exact hr.apart x _ l _ hx hm hne g hg
      · exact hr.apart x y l l' hx hy hne g hg
  · rcases hp with hp | ⟨e, _⟩
    · exact hr.prot g o hp
    · exact (hlt g e).2
theorem DOps.freeze {b d e k n : Nat} {v : Value} {fz : Bool} (ds : List DV) (el : Nat → Nat → DV) (hm : mget M b = some (.row e k n v (ds.map .d) fz)) (hs : lk env d = .v (.one (.row b v)))
    (hel : ∀ p, p < n → ∀ q, q < k → ds[p * k + q]? = some (el p q)) (h : DOps P N M0 ops Q rest ((d, .v (.one (.d (.sl n k el)))) :: env) ((b, some (.row e k n v (ds.map .d) true)) :: M)) : DOps P N M0 ops Q rest env M :=
  fun x0 a w hx hat => h x0 a w hx (hat.freeze hm hs hel)
theorem DCode.freeze {c : Code} {b d e k n : Nat} {v : Value} {fz : Bool} (ds : List DV) (el : Nat → Nat → DV) (hm : mget M b = some (.row e k n v (ds.map .d) fz)) (hs : lk env d = .v (.one (.row b v)))
    (hel : ∀ p, p < n → ∀ q, q < k → ds[p * k + q]? = some (el p q)) (h : DCode P N M0 c Q ((d, .v (.one (.d (.sl n k el)))) :: env) ((b, some (.row e k n v (ds.map .d) true)) :: M)) : DCode P N M0 c Q env M :=
  fun x0 a w hx hat => h x0 a w hx (hat.freeze hm hs hel)
/-- One part that fills all. -/
theorem fill_one {z : Value} {k : Nat} {ns : List CV} (h : ns.length = k) : fillC (fun m => some (m * k, k)) (zrow z (1 * k)) [(0, .agg ns)] = some ns := by
  have hz : (zrow z (1 * k)).length = k := by simp [zrow]
  have hc : (TV.agg ns).cells = ns := rfl
  simp only [fillC, hc]
  rw [if_neg (by rw [hz, h]; omega), Nat.zero_mul, splice_whole _ _ (by rw [h, hz])]

/-- A slice that is written out, and grows. -/
theorem DOps.bslR {T : TypeId → Option TyI} (hT : TOk P T) {t e : TypeId} {i j : TyI} {parts : Array (Nat × Operand)} {n k d : Nat} {ps : List (Nat × TV)} (b : Nat) (cs : List CV) (hg : gd ops env o = some true) (hd : o.dst = some d) (hN : Nat.blt d N = true)
    (ho : o.op = .buildSlice t n parts) (ht : T t = some i) (hde : i.desc = .slice e) (hj : T e = some j) (hk : j.size = k) (hps : opParts env parts.toList = some ps) (hmax : Nat.ble (n * k) 16777216 = true) (hnmax : n ≤ maxLen)
    (hz1 : j.zero.cells.toList.all (·.oneCell') = true) (hz0 : Nat.blt 0 j.zero.cells.size = true) (hf : fillC (fun m => some (m * k, k)) (zrow j.zero (n * k)) ps = some cs) (hcl : cs.length = n * k)
    (h : ∀ v, DOps P N M0 ops Q rest ((d, .v (.one (.row b v))) :: env) ((b, some (.row e k n v cs false)) :: M)) : DOps P N M0 ops Q (o :: rest) env M := by
  intro x0 a w hx0 ⟨γ, Pr, hr, hfr⟩
  have hw := gd_wanted (ops := ops) hr hg
  unfold wpList
  rw [if_pos hw]
  refine .inl ?_
  obtain ⟨h1, h2, h3⟩ := opParts_rep hr _ _ hps
  have hu := run_under (w := w) hT ht
  rw [hde] at hu
  have hsz := run_sizeOf (w := w) hT hj
  have hzv := run_zeroValue (w := w) hT hj
  rw [hk] at hsz
  have hmax := Nat.le_of_ble_eq_true hmax
  have hz0 : 0 < j.zero.cells.size := by simpa using hz0
  obtain ⟨vs', hfill, hl⟩ := fillC_fill (γ := γ) (Pr := Pr) (w := w) (place := fun m => some (m * k, k)) ps (parts.toList.map fun p => (p.1, a.eval p.2)) (zrow j.zero (n * k)) cs _ (zrow_rep hz1 fun _ => hz0) (by simp [h1]) h3 hf
  have hok : ∀ c ∈ cs, c.ok M := fillC_ok ps _ cs (fun c hc => by
    simp only [zrow, List.mem_map] at hc
    obtain ⟨_, _, rfl⟩ := hc
    trivial) h2 hf
  have hfill' : Instr.fill (fun m => some (m * k, k)) ((Array.range (n * k)).map fun m => (if n * k = 0 then #[] else j.zero.cells)[m % (if n * k = 0 then #[] else j.zero.cells).size]!) (parts.toList.map fun p => (p.1, a.eval p.2)) = some vs'.toArray := by
    rw [← hfill]
    congr 1
    by_cases h0 : n * k = 0
    · rw [h0]; apply Array.ext'; simp
    · simp only [if_neg h0]
      apply Array.ext'
      simp
  have hrun : (Instr.buildSlice t n (parts.map fun p => (p.1, a.eval p.2))).run P w = .ok (.slice (some ⟨w.heap.size, 0, none⟩) n n) (w.alloc (.cells vs'.toArray e)) := by
    unfold Instr.buildSlice
    have hge : ¬ n * k > 2 ^ 24 := by omega
    rw [Sem.run_bind, hu]
    show Sem.run P (sizeOf e >>= _) w = _
    rw [Sem.run_bind, hsz]
    simp only [Result.andThen_ok, if_neg hge]
    by_cases h0 : n * k = 0
    · simp only [h0, if_true] at hfill' ⊢
      rw [Sem.run_bind]
      simp only [Sem.run_pure, Result.andThen_ok, Array.toList_map, hfill']
      simp [newRow]
    · simp only [if_neg h0] at hfill' ⊢
      rw [Sem.run_bind, hzv]
      simp only [Result.andThen_ok]
      rw [Sem.run_bind]
      simp only [Sem.run_pure, Result.andThen_ok, Array.toList_map, hfill']
      simp [newRow]
  have hnew : (w.alloc (.cells vs'.toArray e)).heap[w.heap.size]? = some (.cells vs'.toArray e (0, 0)) := heap_alloc_new w _
  have hB : Below w.heap.size w (w.alloc (.cells vs'.toArray e)) := (Below.refl _ _).alloc (Nat.le_refl _) _
  have K : Kept Pr w Pr (w.alloc (.cells vs'.toArray e)) := ⟨fun _ _ x => x, fun g o hp => heap_cell (hB.block g (hr.prot g o hp)) o⟩
  have np : ∀ o, ¬ Pr w.heap.size o := fun o hp => absurd (hr.prot _ o hp) (Nat.lt_irrefl _)
  have hrow : BRep γ Pr (w.alloc (.cells vs'.toArray e)) x0 b (.row e k n (.slice (some ⟨w.heap.size, 0, none⟩) n n) cs false) := by
    refine ⟨vs', ⟨by rw [hl.1, hcl], .inr ⟨w.heap.size, n, vs'.toArray, rfl, Nat.zero_le _, hnew, Nat.le_refl _, hnmax, by simp [hl.1, hcl], ?_⟩⟩, LRep.move (M := M) (Cn.agree_refl M γ) K hok hl, fun g hgg => ?_⟩
    · rw [List.take_of_length_le (by simp [hl.1, hcl])]
    · simp only [Value.ownBlock, Option.some.injEq] at hgg
      subst hgg
      exact ⟨.inl hr.below.size, fun o _ => np o, fun _ => np⟩
  have hrel := hr.setB (b := b) (hr.below.below hB) hB.size K hrow hok fun x l g hxb hmx hbx => by
    have hlt := ((hr.mem x l hmx).lt g hbx).2
    refine ⟨hB.block g hlt, ?_⟩
    simp only [blockOf, Value.ownBlock, ne_eq, Option.some.injEq]
    omega
  unfold Oper.wp
  simp only [execOp, ho, Sem.run_bind, hrun, Result.andThen_ok, Sem.run_pure, Oper.upon_value]
  have hdd := dstOk_of hd hN
  have he : putd o.dst (.v (.one (.row b (.slice (some ⟨w.heap.size, 0, none⟩) n n)))) env = (d, .v (.one (.row b (.slice (some ⟨w.heap.size, 0, none⟩) n n)))) :: env := by rw [hd]; rfl
  refine h (.slice (some ⟨w.heap.size, 0, none⟩) n n) x0 _ _ hx0 ⟨γ, Pr, ?_, hfr.setB K b _⟩
  rw [← he]
  exact hrel.put (dstOk_spec hdd) ⟨rfl, rfl⟩ trivial
end
end Go.Proofs.Ytgjamldcglebjaa.DL
