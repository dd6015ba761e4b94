/- What came in, with the bound on how much it is: of any program. -/
import Derived.Test.YtpgkbnefhhcfcaaGreatDoorD45
import Derived.KernelRfl
import Derived.Test.YtpgkbnefhhcfcaaGreatDoorRows
import Derived.OpenShut
import Derived.Deep.DeepHandedRow
import Derived.Lib.LaidTab
set_option linter.unusedVariables false
set_option linter.unusedSimpArgs false
set_option linter.constructorNameAsVariable false
namespace Go.Proofs.YtpgkbnefhhcfcaaGreatDoor
open Go Go.RowKit Go.ChangeShapes Go.WideShapes Go.Deep Go.Proofs.YtpgkbnefhhcfcaaGreatDoor.DL

/-! ### How much a datum is -/
theorem bulk_one {H : Type} (d : DataW H) : 1 ≤ Rows.uptoBulk d := by
  cases d with
  | lit l => cases l <;> simp [Rows.uptoBulk]
  | nil => simp [Rows.uptoBulk]
  | ptr d => simp [Rows.uptoBulk]
  | slice elems spare => simp [Rows.uptoBulk]
  | agg parts => simp [Rows.uptoBulk]
  | iface t d => simp [Rows.uptoBulk]
  | map entries => simp [Rows.uptoBulk]
  | held h => simp [Rows.uptoBulk]
theorem bulk_all {H : Type} : ∀ l : List (DataW H), Rows.uptoBulkAll l = (l.map Rows.uptoBulk).sum
  | [] => rfl
  | d :: r => by rw [Rows.uptoBulkAll, bulk_all r]; rfl

structure OpensU (P : Program) (t : TypeId) (Γ : List DV → Nat → Prop) : Prop where
  op : ∀ {H : Type} (enc : TypeId × Value → H) (W : World) (fuel : Nat) (cs : List Value) (x : DataW H × List MemPlace), DataW.trod enc P W 0 (fun _ => true) true fuel t cs = some x → ∃ ds, Γ ds (Rows.uptoBulk x.1) ∧ Cells W ds cs

section
variable {P : Program} {t e : TypeId} {Γ Γ' : List DV → Nat → Prop}
theorem OpensU.mono (h : OpensU P t Γ) (hg : ∀ ds b, Γ ds b → Γ' ds b) : OpensU P t Γ' := ⟨fun enc W fuel cs x hx =>
  let ⟨ds, h1, h2⟩ := h.op enc W fuel cs x hx
  ⟨ds, hg ds _ h1, h2⟩⟩
theorem OpensU.of {Γ : List DV → Prop} (h : Opens P t Γ) : OpensU P t fun ds _ => Γ ds := ⟨fun enc W fuel cs x hx => h.op enc W fuel cs x hx⟩
theorem OpensU.str (ht : P.underlying t = some .string) : OpensU P t fun ds b => ∃ l : List UInt8, ds = [dS l] ∧ l.length + 1 = b := ⟨fun enc W fuel cs x hx => by
  obtain ⟨s, rfl, rfl, hs⟩ := DataW.trod_string ht hx
  exact ⟨_, ⟨s.data.toList, rfl, by simp [Rows.uptoBulk]⟩, by
    show Cells W [.sc (.string ⟨s.data.toList.toArray⟩)] [.string s]
    rw [ba_list]; exact Cells.one rfl⟩⟩
theorem OpensU.slice {k : Nat} (ht : P.underlying t = some (.slice e)) (hk : P.cellsOf e = k) (h0 : 0 < k) (z : DV) (h : OpensU P e Γ) :
    OpensU P t (fun ds b => ∃ l : List (List DV × Nat), (∀ p ∈ l, Γ p.1 p.2 ∧ p.1.length = k ∧ 1 ≤ p.2) ∧ (l.map (·.2)).sum ≤ b ∧ ds = [.sl l.length k fun i j => (l.getD i ([], 0)).1.getD j z]) := .mk fun enc W fuel cs x hx => by
  rcases open_slice ht hx with ⟨rfl, _⟩ | ⟨a, len, cap, m, n, D, Pl, rfl, _, hlc, hcm, hm, rfl, hel⟩
  · refine ⟨[.sl 0 k fun i j => (([] : List (List DV × Nat)).getD i ([], 0)).1.getD j z], ⟨[], (fun p hp => by cases hp), Nat.zero_le _, rfl⟩, rfl, fun i d hd => ?_⟩
    match i, hd with
    | 0, hd =>
      simp at hd; subst hd
      exact ⟨_, rfl, none, 0, rfl, Nat.le_refl _, fun h => absurd h (Nat.lt_irrefl _)⟩
    | i + 1, hd => simp at hd
  · have hml : m = cap := by simpa using hm
    subst hml hk
    obtain ⟨F, hF⟩ := choose_lt (n := len) (p := fun i (q : List DV) => Γ q (Rows.uptoBulk (D i)) ∧ ∃ cs', W.cells? 0 (a.add (i * P.cellsOf e)) (P.cellsOf e) = some cs' ∧ Cells W q cs') fun i hi => by
      obtain ⟨cs', h1, h2⟩ := hel i (by omega)
      obtain ⟨ds, g, c⟩ := h.op enc W n cs' _ h2
      exact ⟨ds, g, cs', h1, c⟩
    have hFl : ∀ i, i < len → (F i).length = P.cellsOf e := fun i hi => by
      obtain ⟨_, cs', h1, h2⟩ := hF i hi
      rw [← h2.1]; exact (World.cells?_some h1).2.1
    refine ⟨_, ⟨(List.range len).map fun i => (F i, Rows.uptoBulk (D i)), fun p hp => ?_, ?_, rfl⟩, rfl, fun i d hd => ?_⟩
    · obtain ⟨i, hi, rfl⟩ := List.mem_map.1 hp
      exact ⟨(hF i (List.mem_range.1 hi)).1, hFl i (List.mem_range.1 hi), bulk_one _⟩
    · show _ ≤ Rows.uptoBulk (DataW.slice ((List.range len).map D) ((List.range (m - len)).map fun j => D (len + j)))
      rw [List.map_map, Rows.uptoBulk, bulk_all, List.map_map]
      have : ((fun x : List DV × Nat => x.2) ∘ fun i => (F i, Rows.uptoBulk (D i))) = Rows.uptoBulk ∘ D := rfl
      rw [this]
      omega
    · match i, hd with
      | i + 1, hd => simp at hd
      | 0, hd =>
        simp only [List.length_map, List.length_range, List.getElem?_cons_zero, Option.some.injEq] at hd
        subst hd
        refine ⟨_, rfl, some a, _, rfl, hlc, fun hlen => ?_⟩
        have hcell : ∀ i, i < len → ∀ j, j < P.cellsOf e → ∃ u, W.cell? (a.add (i * P.cellsOf e + j)) = some u ∧ DRep (inW W) W ((F i).getD j z) u := fun i hi j hj => by
          obtain ⟨_, cs', h1, h2⟩ := hF i hi
          obtain ⟨_, hcl, hc⟩ := World.cells?_some h1
          have hj' : j < (F i).length := by rw [hFl i hi]; exact hj
          obtain ⟨u, hu, hr⟩ := h2.2 j _ (List.getElem?_eq_getElem hj')
          refine ⟨u, by rw [← add_add, hc j hj, hu], ?_⟩
          rw [List.getD_eq_getElem?_getD, List.getElem?_eq_getElem hj', Option.getD_some]
          exact hr
        obtain ⟨u0, hu0, _⟩ := hcell 0 hlen 0 h0
        obtain ⟨b, o, spot⟩ := a
        have hspot : spot = none := by simpa [Addr.add] using World.cell?_spot hu0
        subst hspot
        refine ⟨b, o, rfl, fun i hi j hj => ?_⟩
        obtain ⟨u, hu, hr⟩ := hcell i hi j hj
        rw [add_plain] at hu
        refine ⟨?_, u, hu, ?_⟩
        · have := World.cells?_block (cells?_one (base := 0) (Nat.zero_le _) hu) (Nat.lt_succ_self 0)
          exact this
        · have : (((List.range len).map fun i => (F i, Rows.uptoBulk (D i))).getD i ([], 0)).1 = F i := by simp [List.getD_eq_getElem?_getD, hi]
          show DRep (inW W) W ((((List.range len).map fun i => (F i, Rows.uptoBulk (D i))).getD i ([], 0)).1.getD j z) u
          rw [this]; exact hr
end

theorem strs_parts : ∀ (l : List (List DV × Nat)), (∀ p ∈ l, (∃ x : List UInt8, p.1 = [dS x] ∧ x.length + 1 = p.2) ∧ p.1.length = 1 ∧ 1 ≤ p.2) → ∃ L : List (List UInt8), l.map (·.1) = L.map (fun x => [dS x]) ∧ (L.map fun x => x.length + 1).sum = (l.map (·.2)).sum
  | [], _ => ⟨[], rfl, rfl⟩
  | p :: l, h => by
    obtain ⟨⟨x, h1, h2⟩, _⟩ := h p (List.mem_cons_self ..)
    obtain ⟨L, e1, e2⟩ := strs_parts l fun q hq => h q (List.mem_cons_of_mem _ hq)
    exact ⟨x :: L, by rw [List.map_cons, List.map_cons, e1, h1], by rw [List.map_cons, List.map_cons, List.sum_cons, List.sum_cons, e2, h2]⟩
theorem drep_congr {Pr : Prot} {w : World} {n k : Nat} {el el' : Nat → Nat → DV} {v : Value} (h : DRep Pr w (.sl n k el) v) (he : ∀ i, i < n → ∀ j, j < k → el i j = el' i j) : DRep Pr w (.sl n k el') v := by
  obtain ⟨A, c, h1, h2, h3⟩ := h
  refine ⟨A, c, h1, h2, fun h0 => ?_⟩
  obtain ⟨b, o, h4, h5⟩ := h3 h0
  refine ⟨b, o, h4, fun i hi j hj => ?_⟩
  rw [← he i hi j hj]
  exact h5 i hi j hj

theorem le_sum : ∀ {l : List Nat} {x : Nat}, x ∈ l → x ≤ l.sum
  | y :: l, x, h => by
    rw [List.sum_cons]
    rcases List.mem_cons.1 h with rfl | h
    · omega
    · have := le_sum h; omega
/-- A record, with the bound of its parts. -/
theorem OpensU.struct {P : Program} {t : TypeId} {fs : Array Field} (ht : P.underlying t = some (.struct fs)) (sizes : List Nat) (hz : sizes = fs.toList.map fun f => P.cellsOf f.type) (ho : ∀ (i : Nat) f, fs[i]? = some f → f.offset = (sizes.take i).sum)
    (hs : P.cellsOf t = sizes.sum) (Γs : Nat → List DV → Nat → Prop) (h : ∀ (i : Nat) f, fs[i]? = some f → OpensU P f.type (Γs i)) :
    OpensU P t (fun ds b => ∃ l : List (List DV), ∃ bs : Nat → Nat, l.length = fs.size ∧ (∀ (i : Nat) p, l[i]? = some p → Γs i p (bs i)) ∧ (∀ i, i < fs.size → bs i ≤ b) ∧ ds = l.flatten) := .mk fun enc W fuel cs x hx => by
  obtain ⟨xs, m, rfl, rfl, hl, hxl, hf⟩ := DataW.trod_struct ht hx
  let bs : Nat → Nat := fun i => match xs[i]? with | some y => Rows.uptoBulk y.1 | none => 0
  obtain ⟨l, l1, l2, l3⟩ := cells_parts (W := W) sizes cs (fun i ds => Γs i ds (bs i)) (by rw [hl, hs]) fun i s hi => by
    rw [hz, List.getElem?_map, Option.map_eq_some_iff] at hi
    obtain ⟨f, hfi, rfl⟩ := hi
    have hfa : fs[i]? = some f := by rw [← hfi, Array.getElem?_toList]
    have hg := hf i f hfa
    have hil : i < fs.size := by
      rcases Nat.lt_or_ge i fs.size with h1 | h1
      · exact h1
      · rw [Array.getElem?_eq_none h1] at hfa; cases hfa
    rw [List.getElem?_eq_getElem (by omega), ho i f hfa] at hg
    obtain ⟨ds, g, c⟩ := (h i f hfa).op enc W m _ _ hg
    exact ⟨ds, by simpa [bs, List.getElem?_eq_getElem (show i < xs.length by omega)] using g, c⟩
  refine ⟨l.flatten, ⟨l, bs, by rw [l1, hz]; simp, l2, fun i hi => ?_, rfl⟩, l3⟩
  have hix : i < xs.length := by omega
  show (match xs[i]? with | some y => Rows.uptoBulk y.1 | none => 0) ≤ Rows.uptoBulkAll (xs.map (·.1)) + 1
  rw [List.getElem?_eq_getElem hix, bulk_all]
  have : Rows.uptoBulk xs[i].1 ∈ (xs.map (·.1)).map Rows.uptoBulk := List.mem_map.2 ⟨xs[i].1, List.mem_map.2 ⟨xs[i], List.getElem_mem hix, rfl⟩, rfl⟩
  have := le_sum this
  simp only []
  omega

/-! ### What the package's variables were laid with -/
theorem laid_tail {P : Program} {x : String × DataW Unit} {r : List (String × DataW Unit)} {w : World} (h : laidMet P (x :: r) w) : laidMet P r w := by
  obtain ⟨ps, hv, hnd, hrows⟩ := h
  obtain ⟨n, d⟩ := x
  obtain ⟨g, t, cs, fuel, p, q, _, _, _, _, hq, rfl⟩ := hv
  exact ⟨q, hq, List.Nodup.sublist (List.sublist_append_right _ _) hnd, fun b off hm => hrows b off (List.mem_append_right _ hm)⟩
/-- A datum's cells. -/
def laidCells : DataW Unit → List Value
  | .lit l => [l.value]
  | .agg l => laidCellsAll l
  | _ => []
where laidCellsAll : List (DataW Unit) → List Value
  | [] => []
  | d :: r => laidCells d ++ laidCellsAll r
end Go.Proofs.YtpgkbnefhhcfcaaGreatDoor
