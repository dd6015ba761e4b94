/- What came in: three places. -/
import Derived.Test.YtdneiepigllnkaaDoorV2
import Derived.Test.YtdneiepigllnkaaDoorR3
namespace Go.Proofs.YtdneiepigllnkaaDoor
open Go Go.RowKit Go.ChangeShapes Go.WideShapes Go.Deep Go.Proofs.YtdneiepigllnkaaDoor.DL

theorem opens_ref : Opens Tryd.prog 38 (fun ds => ∃ r : Rf, ds = r.dv) :=
  (Opens.struct Tryd.underlying38 [1, 1, 1] (by kernel_rfl) (by
    intro i f h
    match i, h with
    | 0, h => cases h; rfl
    | 1, h => cases h; rfl
    | 2, h => cases h; rfl
    | i + 3, h => cases h) (by kernel_rfl) (fun _ ds => ∃ n, ds = [di n] ∧ I64 n) (by
    intro i f h
    match i, h with
    | 0, h => cases h; exact opens_int
    | 1, h => cases h; exact opens_int
    | 2, h => cases h; exact opens_int
    | i + 3, h => cases h)).mono fun ds ⟨l, h1, h2, h3⟩ => by
    match l, h1 with
    | [a, b, c], _ =>
      obtain ⟨n, rfl, _⟩ := h2 0 a rfl
      obtain ⟨m, rfl, _⟩ := h2 1 b rfl
      obtain ⟨k, rfl, _⟩ := h2 2 c rfl
      exact ⟨⟨n, m, k⟩, by rw [h3]; rfl⟩
theorem opens_ref3 : Opens Tryd.prog 47 (fun ds => ∃ a b c : Rf, ds = a.dv ++ (b.dv ++ c.dv)) :=
  (Opens.array Tryd.underlying47 (k := 3) (by kernel_rfl) (by kernel_rfl) opens_ref).mono fun ds ⟨l, h1, h2, h3⟩ => by
    match l, h1 with
    | [x, y, z], _ =>
      obtain ⟨a, rfl⟩ := h2 x (by simp)
      obtain ⟨b, rfl⟩ := h2 y (by simp)
      obtain ⟨c, rfl⟩ := h2 z (by simp)
      exact ⟨a, b, c, by rw [h3]; simp⟩
section
variable {H : Type} {enc : TypeId × Value → H} {W : World} {base : Nat} {v : Value} {d : DataW H} {p : List MemPlace}
set_option maxRecDepth 100000
set_option linter.constructorNameAsVariable false
set_option linter.unusedVariables false
theorem arg_bool (hv : Value.okWide Tryd.prog W .any base 4 v) (h : DataW.Trod enc Tryd.prog W 0 (fun _ => true) true 4 v d p) : ∃ b : Bool, TRep γ0 (inW W) W (bt b) v := by
  obtain ⟨b, rfl⟩ := okWide_bool Tryd.underlying4 hv
  exact ⟨b, rfl, rfl⟩
theorem arg_ref3 (hv : Value.okWide Tryd.prog W .any base 47 v) (h : DataW.Trod enc Tryd.prog W 0 (fun _ => true) true 47 v d p) : ∃ a b c : Rf, TRep γ0 (inW W) W (tR3 a b c) v := by
  have hu := Tryd.underlying47
  simp only [Value.okWide, hu] at hv
  obtain ⟨cs, rfl, _⟩ := hv
  obtain ⟨fuel, hf⟩ := h
  obtain ⟨ds, ⟨a, b, c, rfl⟩, hc⟩ := opens_ref3.op enc W fuel _ _ hf
  exact ⟨a, b, c, trep_agg (γ := γ0) hc⟩
end
end Go.Proofs.YtdneiepigllnkaaDoor
