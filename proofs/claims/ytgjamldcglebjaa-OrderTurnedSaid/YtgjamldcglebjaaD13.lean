/- A logic of data for Go functions: values that are made in new memory and never written again. No program in sight. -/
import Derived.Test.YtgjamldcglebjaaD11
namespace Go.Proofs.Ytgjamldcglebjaa.DL
open Go.RowKit

section
variable {P : Program} {N : Nat} {ops : Array Oper} {Q : DPost} {env : Env} {M M0 : Mem} {γ γ' : Cn} {Pr Pr' : Prot} {x0 : Ctx} {w w' : World} {a : Act} {o : Oper} {rest : List Oper}

/-- An operation yields data that may lie in new memory; nothing that was there is written. -/
def OpNew (P : Program) (N : Nat) (env : Env) (M : Mem) (o : Oper) (r : SV) : Prop :=
  ∀ γ Pr x0 a w, Rel γ Pr x0 N env M a w → r.ok M ∧ ∃ v w' Pr', (execOp a.eval o).run P w = .ok (.value v) w' ∧ Below w.heap.size w w' ∧ PExt Pr Pr' (fun k => w.heap.size ≤ k) ∧ (∀ b o, Pr' b o → b < w'.heap.size) ∧ SRep γ Pr' w' r v

theorem DOps.new {d : Nat} {r : SV} (hg : gd ops env o = some true) (hd : o.dst = some d) (hN : Nat.blt d N = true) (hv : OpNew P N env M o r) (h : DOps P N M0 ops Q rest ((d, r) :: env) M) : DOps P N M0 ops Q (o :: rest) env M := by
  have he : putd o.dst r env = (d, r) :: env := by rw [hd]; rfl
  rw [← he] at h
  have hd := dstOk_of hd hN
  refine DOps.eff hg (fun x0 a w _ ⟨γ, Pr, hr, hp⟩ => ?_) h
  obtain ⟨hok, v, w', Pr', hrun, hB, hE, hV, hrep⟩ := hv γ Pr x0 a w hr
  exact ⟨v, w', .inl hrun, γ, Pr', (hr.called hB hE hV).put (dstOk_spec hd) hrep hok, hp.called hr hB hE⟩
theorem DDr.new {k d : Nat} {r : SV} (hg : gd ops (restr env (o.looksAt ops)) o = some true) (hd : o.dst = some d) (hN : Nat.blt d N = true) (hv : OpNew P N (restr env (o.looksAt ops)) M o r) (h : DDr P N M0 ops Q k rest ((d, r) :: env) M) :
    DDr P N M0 ops Q (k + 1) (o :: rest) env M := by
  refine ⟨r, d, hd, hN, .inr ⟨hg, fun γ Pr x0 a w Q' hx hr hf => ?_⟩, h⟩
  obtain ⟨hok, v, w', Pr', hrun, hB, hE, hV, hrep⟩ := hv γ Pr x0 a w hr
  unfold Oper.wp
  rw [hrun, Oper.upon_value]
  exact ⟨v, Pr', rfl, hrep, hok, fun e2 h2 => ⟨h2.called hB hE hV, hf.called hr hB hE⟩⟩
theorem DDr2.new {l0 l : List Oper} {k0 k d : Nat} {r : SV} (hg : gd l0.toArray (restr env (o.looksAt l0.toArray)) o = some true) (hd : o.dst = some d) (hN : Nat.blt d N = true) (hv : OpNew P N (restr env (o.looksAt l0.toArray)) M o r) (h : DDr2 P N M0 l0 Q k0 k l ((d, r) :: env) M) :
    DDr2 P N M0 l0 Q k0 (k + 1) (o :: l) env M := by
  refine ⟨r, d, hd, hN, .inr ⟨hg, fun γ Pr x0 a w Q' hx hr hf => ?_⟩, h⟩
  obtain ⟨hok, v, w', Pr', hrun, hB, hE, hV, hrep⟩ := hv γ Pr x0 a w hr
  unfold Oper.wp
  rw [hrun, Oper.upon_value]
  exact ⟨v, Pr', rfl, hrep, hok, fun e2 h2 => ⟨h2.called hB hE hV, hf.called hr hB hE⟩⟩

/-- A row of m cells of zeros. -/
def zrow (z : Value) (m : Nat) : List CV := (List.range m).map fun i => .d (.sc (z.cells[i % z.cells.size]!))
theorem zrow_rep {z : Value} {m : Nat} (h1 : z.cells.toList.all (·.oneCell') = true) (h0 : 0 < m → 0 < z.cells.size) :
    LRep γ Pr w (zrow z m) ((List.range m).map fun i => z.cells[i % z.cells.size]!) := by
  refine ⟨by simp [zrow], fun i c hc => ?_⟩
  simp only [zrow, List.getElem?_map, Option.map_eq_some_iff] at hc
  obtain ⟨j, hj, rfl⟩ := hc
  have hjm : j < m := by
    have := List.mem_of_getElem? hj
    simpa using this
  refine ⟨_, by rw [List.getElem?_map, hj]; rfl, ?_, rfl⟩
  have hlt : j % z.cells.size < z.cells.size := Nat.mod_lt _ (h0 (by omega))
  rw [getElem!_pos z.cells _ hlt]
  exact List.all_eq_true.1 h1 _ (by rw [← Array.getElem_toList]; exact List.getElem_mem _)

theorem LRep.drep {ds : List DV} {vs : List Value} (h : LRep γ Pr w (ds.map .d) vs) {i : Nat} {d : DV} (hd : ds[i]? = some d) : ∃ u, vs[i]? = some u ∧ DRep Pr w d u :=
  h.2 i (.d d) (by rw [List.getElem?_map, hd]; rfl)

/-- A slice that is written out: its elements are never written again. -/
theorem OpNew.bsl {T : TypeId → Option TyI} (hT : TOk P T) {t e : TypeId} {i j : TyI} {parts : Array (Nat × Operand)} {n k : Nat} {ps : List (Nat × TV)} (ds : List DV) (el : Nat → Nat → DV) (ho : o.op = .buildSlice t n parts) (ht : T t = some i) (hd : i.desc = .slice e) (hj : T e = some j)
    (hk : j.size = k) (hps : opParts env parts.toList = some ps) (hmax : Nat.ble (n * k) 16777216 = true) (hz1 : j.zero.cells.toList.all (·.oneCell') = true) (hz0 : Nat.blt 0 j.zero.cells.size = true)
    (hf : fillC (fun m => some (m * k, k)) (zrow j.zero (n * k)) ps = some (ds.map .d)) (hel : ∀ p, p < n → ∀ q, q < k → ds[p * k + q]? = some (el p q)) : OpNew P N env M o (.v (.one (.d (.sl n k el)))) := fun γ Pr x0 a w h => by
  obtain ⟨h1, h2, h3⟩ := opParts_rep h _ _ hps
  have hu := run_under (w := w) hT ht
  rw [hd] at hu
  have hsz := run_sizeOf (w := w) hT hj
  have hzv := run_zeroValue (w := w) hT hj
  rw [hk] at hsz
  have hmax := Nat.le_of_ble_eq_true hmax
  have hz0 : 0 < j.zero.cells.size := by simpa using hz0
  obtain ⟨vs', hfill, hl⟩ := fillC_fill (γ := γ) (Pr := Pr) (w := w) (place := fun m => some (m * k, k)) ps (parts.toList.map fun p => (p.1, a.eval p.2)) (zrow j.zero (n * k)) (ds.map .d) _ (zrow_rep hz1 fun _ => hz0) (by simp [h1]) h3 hf
  have hfill' : Instr.fill (fun m => some (m * k, k)) ((Array.range (n * k)).map fun m => (if n * k = 0 then #[] else j.zero.cells)[m % (if n * k = 0 then #[] else j.zero.cells).size]!) (parts.toList.map fun p => (p.1, a.eval p.2)) = some vs'.toArray := by
    rw [← hfill]
    congr 1
    by_cases h0 : n * k = 0
    · rw [h0]; apply Array.ext'; simp
    · simp only [if_neg h0]
      apply Array.ext'
      simp
  have hnew : (w.alloc (.cells vs'.toArray e)).heap[w.heap.size]? = some (.cells vs'.toArray e (0, 0)) := heap_alloc_new w _
  have hB : Below w.heap.size w (w.alloc (.cells vs'.toArray e)) := (Below.refl _ _).alloc (Nat.le_refl _) _
  have hE : PExt Pr (fun b o => Pr b o ∨ b = w.heap.size) (fun m => w.heap.size ≤ m) := ⟨fun b o hp => .inl hp, fun b o hp => hp.elim .inl fun e => .inr (by omega)⟩
  have hsize : (w.alloc (.cells vs'.toArray e)).heap.size = w.heap.size + 1 := by simp
  refine ⟨trivial, .slice (some ⟨w.heap.size, 0, none⟩) n n, w.alloc (.cells vs'.toArray e), fun b o => Pr b o ∨ b = w.heap.size, ?_, hB, hE, fun b o hp => ?_, ?_⟩
  · simp only [execOp, ho]
    have : (Instr.buildSlice t n (parts.map fun p => (p.1, a.eval p.2))).run P w = .ok (.slice (some ⟨w.heap.size, 0, none⟩) n n) (w.alloc (.cells vs'.toArray e)) := by
      unfold Instr.buildSlice
      have hge : ¬ n * k > 2 ^ 24 := by omega
      rw [Sem.run_bind, hu]
      show Sem.run P (sizeOf e >>= _) w = _
      rw [Sem.run_bind, hsz]
      simp only [Result.andThen_ok, if_neg hge]
      by_cases h0 : n * k = 0
      · simp only [h0, if_true] at hfill' ⊢
        rw [Sem.run_bind]
        simp only [Sem.run_pure, Result.andThen_ok, Array.toList_map, hfill']
        simp [newRow]
      · simp only [if_neg h0] at hfill' ⊢
        rw [Sem.run_bind, hzv]
        simp only [Result.andThen_ok]
        rw [Sem.run_bind]
        simp only [Sem.run_pure, Result.andThen_ok, Array.toList_map, hfill']
        simp [newRow]
    rw [Sem.run_bind, this]
    rfl
  · rcases hp with hp | rfl
    · have := h.prot b o hp; omega
    · omega
  · refine ⟨_, n, rfl, Nat.le_refl _, fun _ => ⟨w.heap.size, 0, rfl, fun p hp q hq => ⟨.inr rfl, ?_⟩⟩⟩
    obtain ⟨u, hu1, hu2⟩ := LRep.drep (LRep.move (M := M) (Cn.agree_refl M γ) (hE.kept hB h.prot) (fun c hc => by
      obtain ⟨d, _, rfl⟩ := List.mem_map.1 hc
      trivial) hl) (hel p hp q hq)
    refine ⟨u, ?_, hu2⟩
    rw [Nat.zero_add, cell_of_row _ _ _ _ _ _ hnew]
    simpa using hu1
theorem OpVal.eqlBB {T : TypeId → Option TyI} (hT : TOk P T) {t t' : TypeId} {x y : Operand} {s b : Nat} {z : Value} {m n : Bool} (ho : o.op = .binOp .eql t x y t') (ht : T t = some ⟨.bool, s, b, z⟩) (hx : opv env x = vB m) (hy : opv env y = vB n) : OpVal P N env M o (vB (decide (m = n))) :=
  OpVal.of_run (v := .bool (decide (m = n))) trivial fun γ Pr x0 a w h => ⟨by
    have h3 := EqV.bool (m := m) (n := n) hT ht 10000 (by omega) γ Pr w (.bool m) (.bool n) ⟨rfl, rfl⟩ ⟨rfl, rfl⟩
    have h4 : (Op.equal t (.bool m) (.bool n)).run P w = .ok (decide (m = n)) w := h3
    simp only [execOp, ho, opB h hx, opB h hy, eqGuard, binOp]
    simp [h4], rfl, rfl⟩
end
end Go.Proofs.Ytgjamldcglebjaa.DL
