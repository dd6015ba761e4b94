/- law25: what came in: files, numbers, texts; what the package's variables were laid with. -/
import Derived.Test.YtejdeonbibbchaaGreatDoorVg
import Derived.Test.YtejdeonbibbchaaGreatDoorV0
import Derived.Test.YtejdeonbibbchaaGreatDoorHg
import Derived.Stop.LaidErr
set_option linter.unusedVariables false
set_option linter.unusedSimpArgs false
set_option linter.constructorNameAsVariable false
namespace Go.Proofs.YtejdeonbibbchaaGreatDoor
open Go Go.RowKit Go.ChangeShapes Go.WideShapes Go.Deep Go.Proofs.YtejdeonbibbchaaGreatDoor.DL

theorem OpensU.mapE {P : Program} {t : TypeId} {Γ Γ' : List DV → Nat → Prop} (h : OpensU P t Γ) (hg : ∀ W ds b cs, Γ ds b → Cells W ds cs → ∃ ds', Γ' ds' b ∧ Cells W ds' cs) : OpensU P t Γ' := ⟨fun enc W fuel cs x hx =>
  let ⟨ds, h1, h2⟩ := h.op enc W fuel cs x hx
  hg W ds _ cs h1 h2⟩
theorem opens_i64 : Opens Tryz.prog 2 (fun ds => ∃ n, ds = [di n]) := (Opens.int Tryz.underlying2).mono fun ds ⟨n, h, hw⟩ => ⟨n, h⟩
theorem opens_int : Opens Tryz.prog 3 (fun ds => ∃ n, ds = [di n]) := (Opens.int Tryz.underlying3).mono fun ds ⟨n, h, hw⟩ => ⟨n, h⟩
theorem opens_box : OpensU Tryz.prog 37 (fun ds b => ∃ x : Bx, ds = x.dv ∧ x.text.length ≤ b) :=
  (OpensU.struct Tryz.underlying37 [1, 1, 1, 1, 1, 1, 1, 1, 1] (by kernel_rfl) (by
    intro i f h
    match i, h with
    | 0, h => cases h; rfl
    | 1, h => cases h; rfl
    | 2, h => cases h; rfl
    | 3, h => cases h; rfl
    | 4, h => cases h; rfl
    | 5, h => cases h; rfl
    | 6, h => cases h; rfl
    | 7, h => cases h; rfl
    | 8, h => cases h; rfl
    | i + 9, h => cases h) (by kernel_rfl) (fun i ds b => match i with | 8 => ∃ l : List UInt8, ds = [dS l] ∧ l.length + 1 = b | _ => ∃ n, ds = [di n]) (by
    intro i f h
    match i, h with
    | 0, h => cases h; exact OpensU.of opens_int
    | 1, h => cases h; exact OpensU.of opens_int
    | 2, h => cases h; exact OpensU.of opens_int
    | 3, h => cases h; exact OpensU.of opens_int
    | 4, h => cases h; exact OpensU.of opens_i64
    | 5, h => cases h; exact OpensU.of opens_i64
    | 6, h => cases h; exact OpensU.of opens_i64
    | 7, h => cases h; exact OpensU.of opens_i64
    | 8, h => cases h; exact OpensU.str Tryz.underlying9
    | i + 9, h => cases h)).mono fun ds b ⟨l, bs, h1, h2, h3, h4⟩ => by
    match l, h1 with
    | [p0, p1, p2, p3, p4, p5, p6, p7, p8], _ =>
      obtain ⟨n0, rfl⟩ := h2 0 p0 rfl
      obtain ⟨n1, rfl⟩ := h2 1 p1 rfl
      obtain ⟨n2, rfl⟩ := h2 2 p2 rfl
      obtain ⟨n3, rfl⟩ := h2 3 p3 rfl
      obtain ⟨n4, rfl⟩ := h2 4 p4 rfl
      obtain ⟨n5, rfl⟩ := h2 5 p5 rfl
      obtain ⟨n6, rfl⟩ := h2 6 p6 rfl
      obtain ⟨n7, rfl⟩ := h2 7 p7 rfl
      obtain ⟨t, rfl, ht⟩ := h2 8 p8 rfl
      have b8 := h3 8 (by decide)
      exact ⟨⟨n0, n1, n2, n3, n4, n5, n6, n7, t⟩, by rw [h4]; rfl, by simp only []; omega⟩
theorem boxes_parts : ∀ (l : List (List DV × Nat)), (∀ p ∈ l, (∃ x : Bx, p.1 = x.dv ∧ x.text.length ≤ p.2) ∧ p.1.length = 9 ∧ 1 ≤ p.2) → ∃ L : List Bx, l.map (·.1) = L.map Bx.dv ∧ L.length ≤ (l.map (·.2)).sum ∧ ∀ x ∈ L, x.text.length ≤ (l.map (·.2)).sum
  | [], _ => ⟨[], rfl, Nat.zero_le _, fun x h => by cases h⟩
  | p :: l, h => by
    obtain ⟨⟨x, h1, h2⟩, _, h4⟩ := h p (List.mem_cons_self ..)
    obtain ⟨L, e1, e2, e3⟩ := boxes_parts l fun q hq => h q (List.mem_cons_of_mem _ hq)
    refine ⟨x :: L, by rw [List.map_cons, List.map_cons, e1, h1], by rw [List.map_cons, List.sum_cons, List.length_cons]; omega, fun y hy => ?_⟩
    rw [List.map_cons, List.sum_cons]
    rcases List.mem_cons.1 hy with rfl | hy
    · omega
    · have := e3 y hy; omega
theorem opens_boxes : OpensU Tryz.prog 22 (fun ds b => ∃ L : List Bx, ds = [dB L] ∧ L.length ≤ b ∧ bndB L b) :=
  (OpensU.slice Tryz.underlying22 (k := 9) (by kernel_rfl) (by omega) (di 0) opens_box).mapE fun W ds b cs ⟨l, h1, h2, h3⟩ hc => by
    obtain ⟨L, e1, e2, e3⟩ := boxes_parts l h1
    have hl : l.length = L.length := by simpa using congrArg List.length e1
    refine ⟨[dB L], ⟨L, rfl, by omega, bndB_of fun x hx => by have := e3 x hx; omega⟩, ?_⟩
    rw [h3, hl] at hc
    refine ⟨hc.1, fun i d hd => ?_⟩
    match i, hd with
    | 0, hd =>
      obtain rfl : dB L = d := by simpa using hd
      obtain ⟨u, hu, hr⟩ := hc.2 0 _ rfl
      refine ⟨u, hu, drep_congr hr fun i hi j hj => ?_⟩
      have hg : (l.getD i ([], 0)).1 = ((l.map (·.1)).getD i []) := by
        rw [List.getD_eq_getElem?_getD, List.getD_eq_getElem?_getD, List.getElem?_map]
        cases l[i]? <;> rfl
      rw [hg, e1]
      show _ = (Bx.dv (L.getD i bx0)).getD j (di 0)
      simp [List.getD_eq_getElem?_getD, List.getElem?_eq_getElem hi]
    | i + 1, hd => simp at hd
theorem opens_file : OpensU Tryz.prog 24 (fun ds b => ∃ f : Fl, ds = f.dv ∧ f.boxes.length ≤ b ∧ bndB f.boxes b) :=
  (OpensU.struct Tryz.underlying24 [1, 1, 1, 1] (by kernel_rfl) (by
    intro i f h
    match i, h with
    | 0, h => cases h; rfl
    | 1, h => cases h; rfl
    | 2, h => cases h; rfl
    | 3, h => cases h; rfl
    | i + 4, h => cases h) (by kernel_rfl) (fun i ds b => match i with | 3 => ∃ L : List Bx, ds = [dB L] ∧ L.length ≤ b ∧ bndB L b | _ => ∃ n, ds = [di n]) (by
    intro i f h
    match i, h with
    | 0, h => cases h; exact OpensU.of opens_int
    | 1, h => cases h; exact OpensU.of opens_i64
    | 2, h => cases h; exact OpensU.of opens_i64
    | 3, h => cases h; exact opens_boxes
    | i + 4, h => cases h)).mono fun ds b ⟨l, bs, h1, h2, h3, h4⟩ => by
    match l, h1 with
    | [p0, p1, p2, p3], _ =>
      obtain ⟨n0, rfl⟩ := h2 0 p0 rfl
      obtain ⟨n1, rfl⟩ := h2 1 p1 rfl
      obtain ⟨n2, rfl⟩ := h2 2 p2 rfl
      obtain ⟨L, rfl, e1, e2⟩ := h2 3 p3 rfl
      have b3 := h3 3 (by decide)
      exact ⟨⟨n0, n1, n2, L⟩, by rw [h4]; rfl, Nat.le_trans e1 b3, fun i => Nat.le_trans (e2 i) b3⟩
section
variable {H : Type} {enc : TypeId × Value → H} {W : World} {base : Nat} {v : Value} {d : DataW H} {p : List MemPlace}
set_option maxRecDepth 100000
set_option linter.constructorNameAsVariable false
set_option linter.unusedVariables false
theorem arg_str (hv : Value.okWide Tryz.prog W .any base 9 v) (h : DataW.Trod enc Tryz.prog W 0 (fun _ => true) true 9 v d p) :
    ∃ l : List UInt8, TRep γ0 (inW W) W (tT l) v ∧ l.length ≤ Rows.uptoBulk d := by
  obtain ⟨s, rfl⟩ := okWide_string Tryz.underlying9 hv
  obtain ⟨fuel, hf⟩ := h
  obtain ⟨ds, ⟨l, rfl, hl⟩, hc⟩ := (OpensU.str Tryz.underlying9).op enc W fuel _ _ hf
  exact ⟨l, trep_one hc, by simp only [] at hl; omega⟩
theorem arg_file (hv : Value.okWide Tryz.prog W .any base 24 v) (h : DataW.Trod enc Tryz.prog W 0 (fun _ => true) true 24 v d p) :
    ∃ f : Fl, TRep γ0 (inW W) W f.tv v ∧ f.boxes.length ≤ Rows.uptoBulk d ∧ bndB f.boxes (Rows.uptoBulk d) := by
  obtain ⟨cs, rfl, _⟩ := okWide_struct Tryz.underlying24 hv
  obtain ⟨fuel, hf⟩ := h
  obtain ⟨ds, ⟨f, rfl, h1, h2⟩, hc⟩ := opens_file.op enc W fuel _ _ hf
  exact ⟨f, trep_agg (γ := γ0) hc, h1, h2⟩
end

/-! ### What the package's variables were laid with -/
theorem gTabT : (Tryz.prog.globals[3]?).map (·.type) = some 120 := by kernel_rfl
theorem tab_data : Rows.laid_internal_strconv_uint64pow10 (H := Unit) = Lib.tabData .u64 Lib.pow10Tab := by kernel_rfl
theorem laid_tab {W : World} : ∀ {laid : List (String × DataW Unit)}, laidMet Tryz.prog laid W → ("internal/strconv.uint64pow10", Rows.laid_internal_strconv_uint64pow10 (H := Unit)) ∈ laid → Lib.TabIs Tryz.prog W "internal/strconv.uint64pow10" .u64 Lib.pow10Tab
  | [], _, hm => by cases hm
  | x :: r, h, hm => by
    rcases List.mem_cons.1 hm with rfl | hm
    · rw [tab_data] at h
      exact Lib.tabIs_of_head (rest := r) gTab gTabT Tryz.underlying120 Tryz.underlying93 (by kernel_rfl) (by kernel_rfl) h
    · exact laid_tab (laid_tail h) hm
theorem gES : Tryz.prog.globalNamed "strconv.ErrSyntax" = some 1 := by kernel_rfl
theorem gEST : (Tryz.prog.globals[1]?).map (·.type) = some 61 := by kernel_rfl
theorem gER : Tryz.prog.globalNamed "strconv.ErrRange" = some 2 := by kernel_rfl
theorem gERT : (Tryz.prog.globals[2]?).map (·.type) = some 61 := by kernel_rfl
theorem errStar : "*" ++ "errors.errorString" = "*errors.errorString" := by decide
theorem errRow (u : TypeId) (h : Tryz.prog.typeName? 3 u = some "*errors.errorString") : u = 131 :=
  typeName_ptr_named (nm := "errors.errorString") (by rw [errStar]; kernel_rfl) (by kernel_rfl) (by decide) u (by rw [errStar]; exact h)
theorem laid_err {n : String} {g : Nat} {text : List UInt8} {dt : DataW Unit} {W : World} (hg : Tryz.prog.globalNamed n = some g) (ht : (Tryz.prog.globals[g]?).map (·.type) = some 61) (hd : dt = .iface "*errors.errorString" (.ptr (.agg [.lit (.string text)]))) :
    ∀ {laid : List (String × DataW Unit)}, laidMet Tryz.prog laid W → (n, dt) ∈ laid → ∃ a : Addr, W.var? Tryz.prog n = some #[.iface 131 (.pointer (some a))]
  | [], _, hm => by cases hm
  | x :: r, h, hm => by
    rcases List.mem_cons.1 hm with rfl | hm
    · rw [hd] at h
      obtain ⟨a0, s0, hv0, -, -, -⟩ := laid_sentinel h hg ht Tryz.underlying61 errRow Tryz.underlying131 Tryz.underlying133 rfl rfl Tryz.underlying9 (by kernel_rfl) (by kernel_rfl)
      exact ⟨a0, hv0⟩
    · exact laid_err hg ht hd (laid_tail h) hm
theorem glb_of {W : World} {laid : List (String × DataW Unit)} (h : laidMet Tryz.prog laid W) (hm : ("internal/strconv.uint64pow10", Rows.laid_internal_strconv_uint64pow10 (H := Unit)) ∈ laid) (h4 : ("strconv.ErrSyntax", Rows.laid_strconv_ErrSyntax (H := Unit)) ∈ laid) (h5 : ("strconv.ErrRange", Rows.laid_strconv_ErrRange (H := Unit)) ∈ laid) (hsh : W.ShapedOpen Tryz.prog) : glbP (inW W) W := by
  have ht := laid_tab h hm
  obtain ⟨a4, he4⟩ := laid_err gES gEST rfl h h4
  obtain ⟨a5, he5⟩ := laid_err gER gERT rfl h h5
  have c4 : W.cell? ⟨1, 0, none⟩ = some (.iface 131 (.pointer (some a4))) := by have h0 := World.var?_cell gES he4 0; simpa using h0
  have c5 : W.cell? ⟨2, 0, none⟩ = some (.iface 131 (.pointer (some a5))) := by have h0 := World.var?_cell gER he5 0; simpa using h0
  obtain ⟨m, hm⟩ := Tryz.laysM143.s1_3 W hsh
  have hm : W.cell? ⟨0, 0, none⟩ = some (.int .i64 m) := hm
  have cell : ∀ o, W.cell? ⟨3, o, none⟩ = (Lib.pow10Tab.map fun z => Value.int .u64 z)[o]? := fun o => by
    have := World.var?_cell gTab ht o
    rw [this]
    simp
  have lt : ∀ g v, W.cell? ⟨g, 0, none⟩ = some v → g < W.heap.size := fun g v hv => by
    have := World.cells?_block (cells?_one (base := 0) (Nat.zero_le _) hv) (Nat.lt_succ_self 0)
    exact this
  refine ⟨fun g hg o => ?_, ⟨m, ?_⟩, fun o => ?_, ⟨131, .pointer (some a4), ?_⟩, ⟨131, .pointer (some a5), ?_⟩⟩
  · simp only [glbB, List.mem_cons, List.mem_nil_iff, or_false] at hg
    rcases hg with rfl | rfl | rfl | rfl
    · exact lt _ _ hm
    · exact lt _ _ c4
    · exact lt _ _ c5
    · exact lt _ _ (cell 0)
  · simpa [glbB] using hm
  · simpa [glbB] using cell o
  · simpa [glbB] using c4
  · simpa [glbB] using c5

end Go.Proofs.YtejdeonbibbchaaGreatDoor
