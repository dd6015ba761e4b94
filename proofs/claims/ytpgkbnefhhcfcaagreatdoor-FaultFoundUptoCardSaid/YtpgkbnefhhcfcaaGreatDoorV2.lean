/- law01: what came in: faults, stages, texts; what the package's variables were laid with. -/
import Derived.Test.YtpgkbnefhhcfcaaGreatDoorVg
import Derived.Test.YtpgkbnefhhcfcaaGreatDoorV0
import Derived.Test.YtpgkbnefhhcfcaaGreatDoorFw
import Derived.Stop.LaidErr
import Derived.LaidHandle
import Derived.LaidSub
set_option linter.unusedVariables false
set_option linter.unusedSimpArgs false
set_option linter.constructorNameAsVariable false
namespace Go.Proofs.YtpgkbnefhhcfcaaGreatDoor
open Go Go.RowKit Go.ChangeShapes Go.WideShapes Go.Deep Go.Proofs.YtpgkbnefhhcfcaaGreatDoor.DL

theorem wf_in {n : Int} (h : (Lit.int .i64 n).wf = true) : in64 n := by
  simp only [Lit.wf, IntKind.min, IntKind.max, IntKind.signed, IntKind.bits, Bool.and_eq_true, decide_eq_true_eq, if_true] at h
  constructor <;> omega
theorem opens_i {t : TypeId} (ht : Tryz.prog.underlying t = some (.int .i64)) : Opens Tryz.prog t (fun ds => ∃ n, ds = [di n] ∧ in64 n) := (Opens.int ht).mono fun ds ⟨n, h, hw⟩ => ⟨n, h, wf_in hw⟩
theorem opens_ft : OpensU Tryz.prog 24 (fun ds b => ∃ x : Ft, ds = dvF x ∧ in64 x.1 ∧ in64 x.2) :=
  (OpensU.struct Tryz.underlying24 [1, 1] (by kernel_rfl) (by
    intro i f h
    match i, h with
    | 0, h => cases h; rfl
    | 1, h => cases h; rfl
    | i + 2, h => cases h) (by kernel_rfl) (fun i ds b => ∃ n, ds = [di n] ∧ in64 n) (by
    intro i f h
    match i, h with
    | 0, h => cases h; exact OpensU.of (opens_i Tryz.underlying22)
    | 1, h => cases h; exact OpensU.of (opens_i Tryz.underlying3)
    | i + 2, h => cases h)).mono fun ds b ⟨l, bs, h1, h2, h3, h4⟩ => by
    match l, h1 with
    | [p0, p1], _ =>
      obtain ⟨n0, rfl, k0⟩ := h2 0 p0 rfl
      obtain ⟨n1, rfl, k1⟩ := h2 1 p1 rfl
      exact ⟨(n0, n1), by rw [h4]; rfl, k0, k1⟩
theorem stg_sum : ∀ L : List (List UInt8), (stgT L).length ≤ 2 * (L.map fun x => x.length + 1).sum
  | [] => Nat.le_refl _
  | x :: L => by
    have := stg_sum L
    rw [stgT, List.flatMap_cons, ← stgT, List.length_append, List.length_append, List.map_cons, List.sum_cons]
    simp only [colS, List.length_cons, List.length_nil]
    omega
theorem opens_strs : OpensU Tryz.prog 25 (fun ds b => ∃ (L : List (List UInt8)) (el : Nat → Nat → DV), ds = [.sl L.length 1 el] ∧ (∀ i, i < L.length → ∀ j, j < 1 → el i j = elS L i j) ∧ (stgT L).length ≤ 2 * b) :=
  (OpensU.slice Tryz.underlying25 (k := 1) (by kernel_rfl) (by omega) (dS []) (OpensU.str Tryz.underlying9)).mono fun ds b ⟨l, h1, h2, h3⟩ => by
    obtain ⟨L, e1, e2⟩ := strs_parts l h1
    have s1 := stg_sum L
    have hl : l.length = L.length := by simpa using congrArg List.length e1
    refine ⟨L, _, by rw [h3, hl], fun i hi j hj => ?_, by omega⟩
    obtain rfl : j = 0 := by omega
    have hg : (l.getD i ([], 0)).1 = ((l.map (·.1)).getD i []) := by
      rw [List.getD_eq_getElem?_getD, List.getD_eq_getElem?_getD, List.getElem?_map]
      cases l[i]? <;> rfl
    rw [hg, e1, elS]
    simp [List.getD_eq_getElem?_getD, List.getElem?_eq_getElem hi]
section
variable {H : Type} {enc : TypeId × Value → H} {W : World} {base : Nat} {v : Value} {d : DataW H} {p : List MemPlace}
set_option maxRecDepth 100000
set_option linter.constructorNameAsVariable false
set_option linter.unusedVariables false
theorem arg_str (hv : Value.okWide Tryz.prog W .any base 9 v) (h : DataW.Trod enc Tryz.prog W 0 (fun _ => true) true 9 v d p) :
    ∃ l : List UInt8, TRep γ0 (inW W) W (tT l) v ∧ l.length ≤ Rows.uptoBulk d := by
  obtain ⟨s, rfl⟩ := okWide_string Tryz.underlying9 hv
  obtain ⟨fuel, hf⟩ := h
  obtain ⟨ds, ⟨l, rfl, hl⟩, hc⟩ := (OpensU.str Tryz.underlying9).op enc W fuel _ _ hf
  exact ⟨l, trep_one hc, by simp only [] at hl; omega⟩
theorem arg_num (hv : Value.okWide Tryz.prog W .any base 22 v) (h : DataW.Trod enc Tryz.prog W 0 (fun _ => true) true 22 v d p) : ∃ n : Int, TRep γ0 (inW W) W (it n) v := by
  obtain ⟨m, rfl⟩ := okWide_int Tryz.underlying22 hv
  obtain ⟨fuel, hf⟩ := h
  obtain ⟨ds, ⟨n, rfl, _⟩, hc⟩ := (opens_i Tryz.underlying22).op enc W fuel _ _ hf
  exact ⟨n, trep_one hc⟩
theorem arg_ft (hv : Value.okWide Tryz.prog W .any base 24 v) (h : DataW.Trod enc Tryz.prog W 0 (fun _ => true) true 24 v d p) :
    ∃ c q : Int, TRep γ0 (inW W) W (ft c q) v ∧ in64 c ∧ in64 q := by
  obtain ⟨cs, rfl, _⟩ := okWide_struct Tryz.underlying24 hv
  obtain ⟨fuel, hf⟩ := h
  obtain ⟨ds, ⟨x, rfl, h1, h2⟩, hc⟩ := opens_ft.op enc W fuel _ _ hf
  exact ⟨x.1, x.2, trep_agg (γ := γ0) hc, h1, h2⟩
theorem arg_strs (hv : Value.okWide Tryz.prog W .any base 25 v) (h : DataW.Trod enc Tryz.prog W 0 (fun _ => true) true 25 v d p) :
    ∃ L : List (List UInt8), TRep γ0 (inW W) W (tL L) v ∧ (stgT L).length ≤ 2 * Rows.uptoBulk d := by
  obtain ⟨a, len, cap, rfl⟩ := okWide_slice Tryz.underlying25 hv
  obtain ⟨fuel, hf⟩ := h
  obtain ⟨ds, ⟨L, el, rfl, h1, h2⟩, hc⟩ := opens_strs.op enc W fuel _ _ hf
  exact ⟨L, drep_congr (trep_one (γ := γ0) hc) h1, h2⟩
end

/-! ### What the package's variables were laid with -/
theorem gTabT : (Tryz.prog.globals[6]?).map (·.type) = some 155 := by kernel_rfl
theorem tab_data : Rows.laid_internal_strconv_uint64pow10 (H := Unit) = Lib.tabData .u64 Lib.pow10Tab := by kernel_rfl
theorem laid_tab {W : World} : ∀ {laid : List (String × DataW Unit)}, laidMet Tryz.prog laid W → ("internal/strconv.uint64pow10", Rows.laid_internal_strconv_uint64pow10 (H := Unit)) ∈ laid → Lib.TabIs Tryz.prog W "internal/strconv.uint64pow10" .u64 Lib.pow10Tab
  | [], _, hm => by cases hm
  | x :: r, h, hm => by
    rcases List.mem_cons.1 hm with rfl | hm
    · rw [tab_data] at h
      exact Lib.tabIs_of_head (rest := r) gTab gTabT Tryz.underlying155 Tryz.underlying71 (by kernel_rfl) (by kernel_rfl) h
    · exact laid_tab (laid_tail h) hm
theorem gES : Tryz.prog.globalNamed "strconv.ErrSyntax" = some 1 := by kernel_rfl
theorem gEST : (Tryz.prog.globals[1]?).map (·.type) = some 42 := by kernel_rfl
theorem gER : Tryz.prog.globalNamed "strconv.ErrRange" = some 2 := by kernel_rfl
theorem gERT : (Tryz.prog.globals[2]?).map (·.type) = some 42 := by kernel_rfl
theorem errStar : "*" ++ "errors.errorString" = "*errors.errorString" := by decide
theorem errRow (u : TypeId) (h : Tryz.prog.typeName? 3 u = some "*errors.errorString") : u = 136 :=
  typeName_ptr_named (nm := "errors.errorString") (by rw [errStar]; kernel_rfl) (by kernel_rfl) (by decide) u (by rw [errStar]; exact h)
theorem laid_err {n : String} {g : Nat} {text : List UInt8} {dt : DataW Unit} {W : World} (hg : Tryz.prog.globalNamed n = some g) (ht : (Tryz.prog.globals[g]?).map (·.type) = some 42) (hd : dt = .iface "*errors.errorString" (.ptr (.agg [.lit (.string text)]))) :
    ∀ {laid : List (String × DataW Unit)}, laidMet Tryz.prog laid W → (n, dt) ∈ laid → ∃ a : Addr, W.var? Tryz.prog n = some #[.iface 136 (.pointer (some a))]
  | [], _, hm => by cases hm
  | x :: r, h, hm => by
    rcases List.mem_cons.1 hm with rfl | hm
    · rw [hd] at h
      obtain ⟨a0, s0, hv0, -, -, -⟩ := laid_sentinel h hg ht Tryz.underlying42 errRow Tryz.underlying136 Tryz.underlying138 rfl rfl Tryz.underlying9 (by kernel_rfl) (by kernel_rfl)
      exact ⟨a0, hv0⟩
    · exact laid_err hg ht hd (laid_tail h) hm
theorem gET : Tryz.prog.globalNamed "errors.errorType" = some 0 := by kernel_rfl
theorem rtT : (Tryz.prog.cutTypes.find? (·.1 == "internal/reflectlite.rtype")).map (·.2) = some 108 := by kernel_rfl
theorem oneRow : ((List.range 198).filter fun t => Tryz.prog.rowNamed t [101, 114, 114, 111, 114]) = [42] := by kernel_rfl
theorem tySize : Tryz.prog.types.size = 198 := by kernel_rfl
theorem handle_of {W : World} {laid : List (String × DataW Unit)} (h : handlesMet Tryz.prog laid W) (hm : ("errors.errorType", Rows.laid_errors_errorType (H := Unit)) ∈ laid) : W.cell? ⟨0, 0, none⟩ = some (.iface 108 (.agg #[.pointer (some ⟨14, 42, none⟩)])) := by
  obtain ⟨name, u, ty, e1, e2, e3, e4, e5⟩ := h _ hm
  have en : name = [101, 114, 114, 111, 114] := (Option.some.inj e1).symm
  subst en
  obtain rfl := Option.some.inj (rtT.symm.trans e2)
  have hm : ty ∈ (List.range 198).filter fun t => Tryz.prog.rowNamed t [101, 114, 114, 111, 114] := List.mem_filter.2 ⟨List.mem_range.2 (by rw [← tySize]; exact e3), e4⟩
  rw [oneRow] at hm
  obtain rfl := List.mem_singleton.1 hm
  have hh : typeHandle Tryz.prog 42 = .pointer (some ⟨14, 42, none⟩) := by kernel_rfl
  rw [hh] at e5
  simpa using World.var?_cell gET e5 0
theorem glb_of {W : World} {laid : List (String × DataW Unit)} (h0 : laidMetH Tryz.prog laid W) (hm0 : ("internal/strconv.uint64pow10", Rows.laid_internal_strconv_uint64pow10 (H := Unit)) ∈ laid) (h40 : ("strconv.ErrSyntax", Rows.laid_strconv_ErrSyntax (H := Unit)) ∈ laid) (h50 : ("strconv.ErrRange", Rows.laid_strconv_ErrRange (H := Unit)) ∈ laid) (h60 : ("errors.errorType", Rows.laid_errors_errorType (H := Unit)) ∈ laid) (hsh : W.ShapedOpen Tryz.prog) : glbP (inW W) W := by
  obtain ⟨h, hh⟩ := laidMetH_iff.1 h0
  have hm : ("internal/strconv.uint64pow10", Rows.laid_internal_strconv_uint64pow10 (H := Unit)) ∈ laid.filter fun x => x.2.handleName?.isNone := List.mem_filter.2 ⟨hm0, by kernel_rfl⟩
  have h4 : ("strconv.ErrSyntax", Rows.laid_strconv_ErrSyntax (H := Unit)) ∈ laid.filter fun x => x.2.handleName?.isNone := List.mem_filter.2 ⟨h40, by kernel_rfl⟩
  have h5 : ("strconv.ErrRange", Rows.laid_strconv_ErrRange (H := Unit)) ∈ laid.filter fun x => x.2.handleName?.isNone := List.mem_filter.2 ⟨h50, by kernel_rfl⟩
  have h6 : ("errors.errorType", Rows.laid_errors_errorType (H := Unit)) ∈ laid.filter fun x => x.2.handleName?.isSome := List.mem_filter.2 ⟨h60, by kernel_rfl⟩
  have c6 := handle_of hh h6
  have ht := laid_tab h hm
  obtain ⟨a4, he4⟩ := laid_err gES gEST rfl h h4
  obtain ⟨a5, he5⟩ := laid_err gER gERT rfl h h5
  have c4 : W.cell? ⟨1, 0, none⟩ = some (.iface 136 (.pointer (some a4))) := by have h0 := World.var?_cell gES he4 0; simpa using h0
  have c5 : W.cell? ⟨2, 0, none⟩ = some (.iface 136 (.pointer (some a5))) := by have h0 := World.var?_cell gER he5 0; simpa using h0
  obtain ⟨m, hm⟩ := Tryz.laysM143.s1_3 W hsh
  have hm : W.cell? ⟨3, 0, none⟩ = some (.int .i64 m) := hm
  have cell : ∀ o, W.cell? ⟨6, o, none⟩ = (Lib.pow10Tab.map fun z => Value.int .u64 z)[o]? := fun o => by
    have := World.var?_cell gTab ht o
    rw [this]
    simp
  have lt : ∀ g v, W.cell? ⟨g, 0, none⟩ = some v → g < W.heap.size := fun g v hv => by
    have := World.cells?_block (cells?_one (base := 0) (Nat.zero_le _) hv) (Nat.lt_succ_self 0)
    exact this
  refine ⟨fun g hg o => ?_, ⟨m, ?_⟩, fun o => ?_, ⟨136, .pointer (some a4), ?_⟩, ⟨136, .pointer (some a5), ?_⟩, ?_⟩
  · simp only [glbB, List.mem_cons, List.mem_nil_iff, or_false] at hg
    rcases hg with rfl | rfl | rfl | rfl | rfl
    · exact lt _ _ c6
    · exact lt _ _ hm
    · exact lt _ _ c4
    · exact lt _ _ c5
    · exact lt _ _ (cell 0)
  · simpa [glbB] using hm
  · simpa [glbB] using cell o
  · simpa [glbB] using c4
  · simpa [glbB] using c5
  · simpa [glbB] using c6

end Go.Proofs.YtpgkbnefhhcfcaaGreatDoor
