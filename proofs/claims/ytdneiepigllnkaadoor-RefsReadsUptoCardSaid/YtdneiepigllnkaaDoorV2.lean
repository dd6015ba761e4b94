/- What came in, as strings and lists of strings, with the bound on how much it is; what the package's variables were laid with. -/
import Derived.Test.YtdneiepigllnkaaDoorV0
import Derived.Test.YtdneiepigllnkaaDoorLA
import Derived.Test.YtdneiepigllnkaaDoorD12
import Derived.KernelRfl
import Derived.Test.YtdneiepigllnkaaDoorRows
import Derived.OpenShut
import Derived.Deep.DeepHandedRow
import Derived.Lib.LaidTab
import Derived.Stop.LaidErr
namespace Go.Proofs.YtdneiepigllnkaaDoor
open Go Go.RowKit Go.ChangeShapes Go.WideShapes Go.Deep Go.Proofs.YtdneiepigllnkaaDoor.DL

/-! ### How much a datum is -/
theorem bulk_one {H : Type} (d : DataW H) : 1 ≤ Rows.uptoBulk d := by
  cases d with
  | lit l => cases l <;> simp [Rows.uptoBulk]
  | nil => simp [Rows.uptoBulk]
  | ptr d => simp [Rows.uptoBulk]
  | slice elems spare => simp [Rows.uptoBulk]
  | agg parts => simp [Rows.uptoBulk]
  | iface t d => simp [Rows.uptoBulk]
  | map entries => simp [Rows.uptoBulk]
  | held h => simp [Rows.uptoBulk]
theorem bulk_all {H : Type} : ∀ l : List (DataW H), Rows.uptoBulkAll l = (l.map Rows.uptoBulk).sum
  | [] => rfl
  | d :: r => by rw [Rows.uptoBulkAll, bulk_all r]; rfl

structure OpensU (P : Program) (t : TypeId) (Γ : List DV → Nat → Prop) : Prop where
  op : ∀ {H : Type} (enc : TypeId × Value → H) (W : World) (fuel : Nat) (cs : List Value) (x : DataW H × List MemPlace), DataW.trod enc P W 0 (fun _ => true) true fuel t cs = some x → ∃ ds, Γ ds (Rows.uptoBulk x.1) ∧ Cells W ds cs

section
variable {P : Program} {t e : TypeId} {Γ Γ' : List DV → Nat → Prop}
theorem OpensU.mono (h : OpensU P t Γ) (hg : ∀ ds b, Γ ds b → Γ' ds b) : OpensU P t Γ' := ⟨fun enc W fuel cs x hx =>
  let ⟨ds, h1, h2⟩ := h.op enc W fuel cs x hx
  ⟨ds, hg ds _ h1, h2⟩⟩
theorem OpensU.of {Γ : List DV → Prop} (h : Opens P t Γ) : OpensU P t fun ds _ => Γ ds := ⟨fun enc W fuel cs x hx => h.op enc W fuel cs x hx⟩
theorem OpensU.str (ht : P.underlying t = some .string) : OpensU P t fun ds b => ∃ l : List UInt8, ds = [dS l] ∧ l.length + 1 = b := ⟨fun enc W fuel cs x hx => by
  obtain ⟨s, rfl, rfl, hs⟩ := DataW.trod_string ht hx
  exact ⟨_, ⟨s.data.toList, rfl, by simp [Rows.uptoBulk]⟩, by
    show Cells W [.sc (.string ⟨s.data.toList.toArray⟩)] [.string s]
    rw [ba_list]; exact Cells.one rfl⟩⟩
theorem OpensU.slice {k : Nat} (ht : P.underlying t = some (.slice e)) (hk : P.cellsOf e = k) (h0 : 0 < k) (z : DV) (h : OpensU P e Γ) :
    OpensU P t (fun ds b => ∃ l : List (List DV × Nat), (∀ p ∈ l, Γ p.1 p.2 ∧ p.1.length = k ∧ 1 ≤ p.2) ∧ (l.map (·.2)).sum ≤ b ∧ ds = [.sl l.length k fun i j => (l.getD i ([], 0)).1.getD j z]) := .mk fun enc W fuel cs x hx => by
  rcases open_slice ht hx with ⟨rfl, _⟩ | ⟨a, len, cap, m, n, D, Pl, rfl, _, hlc, hcm, hm, rfl, hel⟩
  · refine ⟨[.sl 0 k fun i j => (([] : List (List DV × Nat)).getD i ([], 0)).1.getD j z], ⟨[], (fun p hp => by cases hp), Nat.zero_le _, rfl⟩, rfl, fun i d hd => ?_⟩
    match i, hd with
    | 0, hd =>
      simp at hd; subst hd
      exact ⟨_, rfl, none, 0, rfl, Nat.le_refl _, fun h => absurd h (Nat.lt_irrefl _)⟩
    | i + 1, hd => simp at hd
  · have hml : m = cap := by simpa using hm
    subst hml hk
    obtain ⟨F, hF⟩ := choose_lt (n := len) (p := fun i (q : List DV) => Γ q (Rows.uptoBulk (D i)) ∧ ∃ cs', W.cells? 0 (a.add (i * P.cellsOf e)) (P.cellsOf e) = some cs' ∧ Cells W q cs') fun i hi => by
      obtain ⟨cs', h1, h2⟩ := hel i (by omega)
      obtain ⟨ds, g, c⟩ := h.op enc W n cs' _ h2
      exact ⟨ds, g, cs', h1, c⟩
    have hFl : ∀ i, i < len → (F i).length = P.cellsOf e := fun i hi => by
      obtain ⟨_, cs', h1, h2⟩ := hF i hi
      rw [← h2.1]; exact (World.cells?_some h1).2.1
    refine ⟨_, ⟨(List.range len).map fun i => (F i, Rows.uptoBulk (D i)), fun p hp => ?_, ?_, rfl⟩, rfl, fun i d hd => ?_⟩
    · obtain ⟨i, hi, rfl⟩ := List.mem_map.1 hp
      exact ⟨(hF i (List.mem_range.1 hi)).1, hFl i (List.mem_range.1 hi), bulk_one _⟩
    · show _ ≤ Rows.uptoBulk (DataW.slice ((List.range len).map D) ((List.range (m - len)).map fun j => D (len + j)))
      rw [List.map_map, Rows.uptoBulk, bulk_all, List.map_map]
      have : ((fun x : List DV × Nat => x.2) ∘ fun i => (F i, Rows.uptoBulk (D i))) = Rows.uptoBulk ∘ D := rfl
      rw [this]
      omega
    · match i, hd with
      | i + 1, hd => simp at hd
      | 0, hd =>
        simp only [List.length_map, List.length_range, List.getElem?_cons_zero, Option.some.injEq] at hd
        subst hd
        refine ⟨_, rfl, some a, _, rfl, hlc, fun hlen => ?_⟩
        have hcell : ∀ i, i < len → ∀ j, j < P.cellsOf e → ∃ u, W.cell? (a.add (i * P.cellsOf e + j)) = some u ∧ DRep (inW W) W ((F i).getD j z) u := fun i hi j hj => by
          obtain ⟨_, cs', h1, h2⟩ := hF i hi
          obtain ⟨_, hcl, hc⟩ := World.cells?_some h1
          have hj' : j < (F i).length := by rw [hFl i hi]; exact hj
          obtain ⟨u, hu, hr⟩ := h2.2 j _ (List.getElem?_eq_getElem hj')
          refine ⟨u, by rw [← add_add, hc j hj, hu], ?_⟩
          rw [List.getD_eq_getElem?_getD, List.getElem?_eq_getElem hj', Option.getD_some]
          exact hr
        obtain ⟨u0, hu0, _⟩ := hcell 0 hlen 0 h0
        obtain ⟨b, o, spot⟩ := a
        have hspot : spot = none := by simpa [Addr.add] using World.cell?_spot hu0
        subst hspot
        refine ⟨b, o, rfl, fun i hi j hj => ?_⟩
        obtain ⟨u, hu, hr⟩ := hcell i hi j hj
        rw [add_plain] at hu
        refine ⟨?_, u, hu, ?_⟩
        · have := World.cells?_block (cells?_one (base := 0) (Nat.zero_le _) hu) (Nat.lt_succ_self 0)
          exact this
        · have : (((List.range len).map fun i => (F i, Rows.uptoBulk (D i))).getD i ([], 0)).1 = F i := by simp [List.getD_eq_getElem?_getD, hi]
          show DRep (inW W) W ((((List.range len).map fun i => (F i, Rows.uptoBulk (D i))).getD i ([], 0)).1.getD j z) u
          rw [this]; exact hr
end

theorem drep_congr {Pr : Prot} {w : World} {n k : Nat} {el el' : Nat → Nat → DV} {v : Value} (h : DRep Pr w (.sl n k el) v) (he : ∀ i, i < n → ∀ j, j < k → el i j = el' i j) : DRep Pr w (.sl n k el') v := by
  obtain ⟨A, c, h1, h2, h3⟩ := h
  refine ⟨A, c, h1, h2, fun h0 => ?_⟩
  obtain ⟨b, o, h4, h5⟩ := h3 h0
  refine ⟨b, o, h4, fun i hi j hj => ?_⟩
  rw [← he i hi j hj]
  exact h5 i hi j hj
section
variable {H : Type} {enc : TypeId × Value → H} {W : World} {base : Nat} {v : Value} {d : DataW H} {p : List MemPlace}
set_option maxRecDepth 100000
set_option linter.constructorNameAsVariable false
set_option linter.unusedVariables false
theorem arg_str (hv : Value.okWide Tryd.prog W .any base 9 v) (h : DataW.Trod enc Tryd.prog W 0 (fun _ => true) true 9 v d p) :
    ∃ l : List UInt8, TRep γ0 (inW W) W (tT l) v ∧ l.length ≤ Rows.uptoBulk d := by
  obtain ⟨s, rfl⟩ := okWide_string Tryd.underlying9 hv
  obtain ⟨fuel, hf⟩ := h
  obtain ⟨ds, ⟨l, rfl, hl⟩, hc⟩ := (OpensU.str Tryd.underlying9).op enc W fuel _ _ hf
  exact ⟨l, trep_one hc, by simp only [] at hl; omega⟩
def I64 (n : Int) : Prop := -9223372036854775808 ≤ n ∧ n ≤ 9223372036854775807
theorem opens_int : Opens Tryd.prog 3 (fun ds => ∃ n, ds = [di n] ∧ I64 n) := (Opens.int Tryd.underlying3).mono fun ds ⟨n, h, hw⟩ => ⟨n, h, bounds_i64 hw⟩
end

/-! ### What the package's variables were laid with -/
theorem laid_tail {P : Program} {x : String × DataW Unit} {r : List (String × DataW Unit)} {w : World} (h : laidMet P (x :: r) w) : laidMet P r w := by
  obtain ⟨ps, hv, hnd, hrows⟩ := h
  obtain ⟨n, d⟩ := x
  obtain ⟨g, t, cs, fuel, p, q, _, _, _, _, hq, rfl⟩ := hv
  exact ⟨q, hq, List.Nodup.sublist (List.sublist_append_right _ _) hnd, fun b off hm => hrows b off (List.mem_append_right _ hm)⟩
theorem gTabT : (Tryd.prog.globals[3]?).map (·.type) = some 102 := by kernel_rfl
theorem tab_data : Rows.laid_internal_strconv_uint64pow10 (H := Unit) = Lib.tabData .u64 Lib.pow10Tab := by kernel_rfl
theorem laid_tab {W : World} : ∀ {laid : List (String × DataW Unit)}, laidMet Tryd.prog laid W → ("internal/strconv.uint64pow10", Rows.laid_internal_strconv_uint64pow10 (H := Unit)) ∈ laid → Lib.TabIs Tryd.prog W "internal/strconv.uint64pow10" .u64 Lib.pow10Tab
  | [], _, hm => by cases hm
  | x :: r, h, hm => by
    rcases List.mem_cons.1 hm with rfl | hm
    · rw [tab_data] at h
      exact Lib.tabIs_of_head (rest := r) gTab gTabT Tryd.underlying102 Tryd.underlying65 (by kernel_rfl) (by kernel_rfl) h
    · exact laid_tab (laid_tail h) hm
theorem gES : Tryd.prog.globalNamed "strconv.ErrSyntax" = some 4 := by kernel_rfl
theorem gEST : (Tryd.prog.globals[4]?).map (·.type) = some 76 := by kernel_rfl
theorem gER : Tryd.prog.globalNamed "strconv.ErrRange" = some 5 := by kernel_rfl
theorem gERT : (Tryd.prog.globals[5]?).map (·.type) = some 76 := by kernel_rfl
theorem errStar : "*" ++ "errors.errorString" = "*errors.errorString" := by decide
theorem errRow (u : TypeId) (h : Tryd.prog.typeName? 3 u = some "*errors.errorString") : u = 124 :=
  typeName_ptr_named (nm := "errors.errorString") (by rw [errStar]; kernel_rfl) (by kernel_rfl) (by decide) u (by rw [errStar]; exact h)
theorem laid_err {n : String} {g : Nat} {text : List UInt8} {dt : DataW Unit} {W : World} (hg : Tryd.prog.globalNamed n = some g) (ht : (Tryd.prog.globals[g]?).map (·.type) = some 76) (hd : dt = .iface "*errors.errorString" (.ptr (.agg [.lit (.string text)]))) :
    ∀ {laid : List (String × DataW Unit)}, laidMet Tryd.prog laid W → (n, dt) ∈ laid → ∃ a : Addr, W.var? Tryd.prog n = some #[.iface 124 (.pointer (some a))]
  | [], _, hm => by cases hm
  | x :: r, h, hm => by
    rcases List.mem_cons.1 hm with rfl | hm
    · rw [hd] at h
      obtain ⟨a0, s0, hv0, -, -, -⟩ := laid_sentinel h hg ht Tryd.underlying76 errRow Tryd.underlying124 Tryd.underlying126 rfl rfl Tryd.underlying9 (by kernel_rfl) (by kernel_rfl)
      exact ⟨a0, hv0⟩
    · exact laid_err hg ht hd (laid_tail h) hm
theorem glb_of {W : World} {laid : List (String × DataW Unit)} (h : laidMet Tryd.prog laid W) (hm : ("internal/strconv.uint64pow10", Rows.laid_internal_strconv_uint64pow10 (H := Unit)) ∈ laid) (h4 : ("strconv.ErrSyntax", Rows.laid_strconv_ErrSyntax (H := Unit)) ∈ laid) (h5 : ("strconv.ErrRange", Rows.laid_strconv_ErrRange (H := Unit)) ∈ laid) (hsh : W.ShapedOpen Tryd.prog) : glbP (inW W) W := by
  have ht := laid_tab h hm
  obtain ⟨a4, he4⟩ := laid_err gES gEST rfl h h4
  obtain ⟨a5, he5⟩ := laid_err gER gERT rfl h h5
  have c4 : W.cell? ⟨4, 0, none⟩ = some (.iface 124 (.pointer (some a4))) := by have h0 := World.var?_cell gES he4 0; simpa using h0
  have c5 : W.cell? ⟨5, 0, none⟩ = some (.iface 124 (.pointer (some a5))) := by have h0 := World.var?_cell gER he5 0; simpa using h0
  obtain ⟨m, hm⟩ := Tryd.laysM143.s1_3 W hsh
  have hm : W.cell? ⟨0, 0, none⟩ = some (.int .i64 m) := hm
  have cell : ∀ o, W.cell? ⟨3, o, none⟩ = (Lib.pow10Tab.map fun z => Value.int .u64 z)[o]? := fun o => by
    have := World.var?_cell gTab ht o
    rw [this]
    simp
  have lt : ∀ g v, W.cell? ⟨g, 0, none⟩ = some v → g < W.heap.size := fun g v hv => by
    have := World.cells?_block (cells?_one (base := 0) (Nat.zero_le _) hv) (Nat.lt_succ_self 0)
    exact this
  refine ⟨fun g hg o => ?_, ⟨m, ?_⟩, fun o => ?_, ⟨124, .pointer (some a4), ?_⟩, ⟨124, .pointer (some a5), ?_⟩⟩
  · simp only [glbB, List.mem_cons, List.mem_nil_iff, or_false] at hg
    rcases hg with rfl | rfl | rfl | rfl
    · exact lt 0 _ hm
    · exact lt 3 _ (cell 0)
    · exact lt 4 _ c4
    · exact lt 5 _ c5
  · simpa [glbB] using hm
  · simpa [glbB] using cell o
  · simpa [glbB] using c4
  · simpa [glbB] using c5

/-- A datum's cells. -/
def laidCells : DataW Unit → List Value
  | .lit l => [l.value]
  | .agg l => laidCellsAll l
  | _ => []
where laidCellsAll : List (DataW Unit) → List Value
  | [] => []
  | d :: r => laidCells d ++ laidCellsAll r
end Go.Proofs.YtdneiepigllnkaaDoor
