/- law02: what came in: numbers, three numbers, texts; what the package's variables were laid with. -/
import Derived.Test.YtkjekbgfmkfkjaaDoorVg
import Derived.Test.YtkjekbgfmkfkjaaDoorV0
import Derived.Test.YtkjekbgfmkfkjaaDoorNl
import Derived.Stop.LaidErr
namespace Go.Proofs.YtkjekbgfmkfkjaaDoor
open Go Go.RowKit Go.ChangeShapes Go.WideShapes Go.Deep Go.Proofs.YtkjekbgfmkfkjaaDoor.DL
set_option linter.unusedSimpArgs false

section
variable {H : Type} {enc : TypeId × Value → H} {W : World} {base : Nat} {v : Value} {d : DataW H} {p : List MemPlace}
set_option maxRecDepth 100000
set_option linter.constructorNameAsVariable false
set_option linter.unusedVariables false
theorem arg_str (hv : Value.okWide Tryd.prog W .any base 9 v) (h : DataW.Trod enc Tryd.prog W 0 (fun _ => true) true 9 v d p) :
    ∃ l : List UInt8, TRep γ0 (inW W) W (tT l) v ∧ l.length ≤ Rows.uptoBulk d := by
  obtain ⟨s, rfl⟩ := okWide_string Tryd.underlying9 hv
  obtain ⟨fuel, hf⟩ := h
  obtain ⟨ds, ⟨l, rfl, hl⟩, hc⟩ := (OpensU.str Tryd.underlying9).op enc W fuel _ _ hf
  exact ⟨l, trep_one hc, by simp only [] at hl; omega⟩
theorem opens_i64 : Opens Tryd.prog 2 (fun ds => ∃ n, ds = [di n]) := (Opens.int Tryd.underlying2).mono fun ds ⟨n, h, hw⟩ => ⟨n, h⟩
theorem arg_i64 (hv : Value.okWide Tryd.prog W .any base 2 v) (h : DataW.Trod enc Tryd.prog W 0 (fun _ => true) true 2 v d p) : ∃ n : Int, TRep γ0 (inW W) W (it n) v := by
  obtain ⟨m, rfl⟩ := okWide_int Tryd.underlying2 hv
  obtain ⟨fuel, hf⟩ := h
  obtain ⟨ds, ⟨n, rfl⟩, hc⟩ := opens_i64.op enc W fuel _ _ hf
  exact ⟨n, trep_one hc⟩
theorem opens_three : Opens Tryd.prog 59 (fun ds => ∃ x y z : Int, ds = [di x, di y, di z]) :=
  (Opens.struct Tryd.underlying59 [1, 1, 1] (by kernel_rfl) (by
    intro i f h
    match i, h with
    | 0, h => cases h; rfl
    | 1, h => cases h; rfl
    | 2, h => cases h; rfl
    | i + 3, h => cases h) (by kernel_rfl) (fun _ ds => ∃ n, ds = [di n]) (by
    intro i f h
    match i, h with
    | 0, h => cases h; exact opens_i64
    | 1, h => cases h; exact opens_i64
    | 2, h => cases h; exact opens_i64
    | i + 3, h => cases h)).mono fun ds ⟨l, h1, h2, h3⟩ => by
    match l, h1 with
    | [a, b, c], _ =>
      obtain ⟨n, rfl⟩ := h2 0 a rfl
      obtain ⟨m, rfl⟩ := h2 1 b rfl
      obtain ⟨k, rfl⟩ := h2 2 c rfl
      exact ⟨n, m, k, by rw [h3]; rfl⟩
theorem arg_three (hv : Value.okWide Tryd.prog W .any base 59 v) (h : DataW.Trod enc Tryd.prog W 0 (fun _ => true) true 59 v d p) : ∃ x y z : Int, TRep γ0 (inW W) W (threeT x y z) v := by
  obtain ⟨cs, rfl, _⟩ := okWide_struct Tryd.underlying59 hv
  obtain ⟨fuel, hf⟩ := h
  obtain ⟨ds, ⟨x, y, z, rfl⟩, hc⟩ := opens_three.op enc W fuel _ _ hf
  exact ⟨x, y, z, trep_agg (γ := γ0) hc⟩
end

/-! ### What the package's variables were laid with -/
theorem gTabT : (Tryd.prog.globals[5]?).map (·.type) = some 165 := by kernel_rfl
theorem tab_data : Rows.laid_internal_strconv_uint64pow10 (H := Unit) = Lib.tabData .u64 Lib.pow10Tab := by kernel_rfl
theorem laid_tab {W : World} : ∀ {laid : List (String × DataW Unit)}, laidMet Tryd.prog laid W → ("internal/strconv.uint64pow10", Rows.laid_internal_strconv_uint64pow10 (H := Unit)) ∈ laid → Lib.TabIs Tryd.prog W "internal/strconv.uint64pow10" .u64 Lib.pow10Tab
  | [], _, hm => by cases hm
  | x :: r, h, hm => by
    rcases List.mem_cons.1 hm with rfl | hm
    · rw [tab_data] at h
      exact Lib.tabIs_of_head (rest := r) gTab gTabT Tryd.underlying165 Tryd.underlying98 (by kernel_rfl) (by kernel_rfl) h
    · exact laid_tab (laid_tail h) hm
theorem gES : Tryd.prog.globalNamed "strconv.ErrSyntax" = some 3 := by kernel_rfl
theorem gEST : (Tryd.prog.globals[3]?).map (·.type) = some 84 := by kernel_rfl
theorem gER : Tryd.prog.globalNamed "strconv.ErrRange" = some 4 := by kernel_rfl
theorem gERT : (Tryd.prog.globals[4]?).map (·.type) = some 84 := by kernel_rfl
theorem errStar : "*" ++ "errors.errorString" = "*errors.errorString" := by decide
theorem errRow (u : TypeId) (h : Tryd.prog.typeName? 3 u = some "*errors.errorString") : u = 177 :=
  typeName_ptr_named (nm := "errors.errorString") (by rw [errStar]; kernel_rfl) (by kernel_rfl) (by decide) u (by rw [errStar]; exact h)
theorem laid_err {n : String} {g : Nat} {text : List UInt8} {dt : DataW Unit} {W : World} (hg : Tryd.prog.globalNamed n = some g) (ht : (Tryd.prog.globals[g]?).map (·.type) = some 84) (hd : dt = .iface "*errors.errorString" (.ptr (.agg [.lit (.string text)]))) :
    ∀ {laid : List (String × DataW Unit)}, laidMet Tryd.prog laid W → (n, dt) ∈ laid → ∃ a : Addr, W.var? Tryd.prog n = some #[.iface 177 (.pointer (some a))]
  | [], _, hm => by cases hm
  | x :: r, h, hm => by
    rcases List.mem_cons.1 hm with rfl | hm
    · rw [hd] at h
      obtain ⟨a0, s0, hv0, -, -, -⟩ := laid_sentinel h hg ht Tryd.underlying84 errRow Tryd.underlying177 Tryd.underlying179 rfl rfl Tryd.underlying9 (by kernel_rfl) (by kernel_rfl)
      exact ⟨a0, hv0⟩
    · exact laid_err hg ht hd (laid_tail h) hm
theorem glb_of {W : World} {laid : List (String × DataW Unit)} (h : laidMet Tryd.prog laid W) (hm : ("internal/strconv.uint64pow10", Rows.laid_internal_strconv_uint64pow10 (H := Unit)) ∈ laid) (h4 : ("strconv.ErrSyntax", Rows.laid_strconv_ErrSyntax (H := Unit)) ∈ laid) (h5 : ("strconv.ErrRange", Rows.laid_strconv_ErrRange (H := Unit)) ∈ laid) (hsh : W.ShapedOpen Tryd.prog) : glbP (inW W) W := by
  have ht := laid_tab h hm
  obtain ⟨a4, he4⟩ := laid_err gES gEST rfl h h4
  obtain ⟨a5, he5⟩ := laid_err gER gERT rfl h h5
  have c4 : W.cell? ⟨3, 0, none⟩ = some (.iface 177 (.pointer (some a4))) := by have h0 := World.var?_cell gES he4 0; simpa using h0
  have c5 : W.cell? ⟨4, 0, none⟩ = some (.iface 177 (.pointer (some a5))) := by have h0 := World.var?_cell gER he5 0; simpa using h0
  obtain ⟨m, hm⟩ := Tryd.laysM143.s1_3 W hsh
  have hm : W.cell? ⟨2, 0, none⟩ = some (.int .i64 m) := hm
  have cell : ∀ o, W.cell? ⟨5, o, none⟩ = (Lib.pow10Tab.map fun z => Value.int .u64 z)[o]? := fun o => by
    have := World.var?_cell gTab ht o
    rw [this]
    simp
  have lt : ∀ g v, W.cell? ⟨g, 0, none⟩ = some v → g < W.heap.size := fun g v hv => by
    have := World.cells?_block (cells?_one (base := 0) (Nat.zero_le _) hv) (Nat.lt_succ_self 0)
    exact this
  refine ⟨fun g hg o => ?_, ⟨m, ?_⟩, fun o => ?_, ⟨177, .pointer (some a4), ?_⟩, ⟨177, .pointer (some a5), ?_⟩⟩
  · simp only [glbB, List.mem_cons, List.mem_nil_iff, or_false] at hg
    rcases hg with rfl | rfl | rfl | rfl
    · exact lt _ _ hm
    · exact lt _ _ c4
    · exact lt _ _ c5
    · exact lt _ _ (cell 0)
  · simpa [glbB] using hm
  · simpa [glbB] using cell o
  · simpa [glbB] using c4
  · simpa [glbB] using c5

end Go.Proofs.YtkjekbgfmkfkjaaDoor
