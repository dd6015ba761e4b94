/- What came in: places, lists of places, three places. -/
import Derived.Test.YtdneiepigllnkaaDoorV2
import Derived.Test.YtdneiepigllnkaaDoorRG
namespace Go.Proofs.YtdneiepigllnkaaDoor
open Go Go.RowKit Go.ChangeShapes Go.WideShapes Go.Deep Go.Proofs.YtdneiepigllnkaaDoor.DL

theorem opens_ref : Opens Tryd.prog 38 (fun ds => ∃ r : Rf, ds = r.dv) :=
  (Opens.struct Tryd.underlying38 [1, 1, 1] (by kernel_rfl) (by
    intro i f h
    match i, h with
    | 0, h => cases h; rfl
    | 1, h => cases h; rfl
    | 2, h => cases h; rfl
    | i + 3, h => cases h) (by kernel_rfl) (fun _ ds => ∃ n, ds = [di n] ∧ I64 n) (by
    intro i f h
    match i, h with
    | 0, h => cases h; exact opens_int
    | 1, h => cases h; exact opens_int
    | 2, h => cases h; exact opens_int
    | i + 3, h => cases h)).mono fun ds ⟨l, h1, h2, h3⟩ => by
    match l, h1 with
    | [a, b, c], _ =>
      obtain ⟨n, rfl, _⟩ := h2 0 a rfl
      obtain ⟨m, rfl, _⟩ := h2 1 b rfl
      obtain ⟨k, rfl, _⟩ := h2 2 c rfl
      exact ⟨⟨n, m, k⟩, by rw [h3]; rfl⟩
theorem refs_parts : ∀ (l : List (List DV × Nat)), (∀ p ∈ l, (∃ r : Rf, p.1 = r.dv) ∧ p.1.length = 3 ∧ 1 ≤ p.2) → ∃ L : List Rf, l.map (·.1) = L.map Rf.dv ∧ L.length ≤ (l.map (·.2)).sum
  | [], _ => ⟨[], rfl, Nat.zero_le _⟩
  | p :: l, h => by
    obtain ⟨⟨r, h1⟩, _, h2⟩ := h p (List.mem_cons_self ..)
    obtain ⟨L, e1, e2⟩ := refs_parts l fun q hq => h q (List.mem_cons_of_mem _ hq)
    exact ⟨r :: L, by rw [List.map_cons, List.map_cons, e1, h1], by rw [List.map_cons, List.sum_cons, List.length_cons]; omega⟩
theorem opens_refs : OpensU Tryd.prog 36 (fun ds b => ∃ (L : List Rf) (el : Nat → Nat → DV), ds = [.sl L.length 3 el] ∧ (∀ i, i < L.length → ∀ j, j < 3 → el i j = elR L i j) ∧ L.length ≤ b) :=
  (OpensU.slice Tryd.underlying36 (k := 3) (by kernel_rfl) (by omega) (di 0) (OpensU.of opens_ref)).mono fun ds b ⟨l, h1, h2, h3⟩ => by
    obtain ⟨L, e1, e2⟩ := refs_parts l h1
    have hl : l.length = L.length := by simpa using congrArg List.length e1
    refine ⟨L, _, by rw [h3, hl], fun i hi j hj => ?_, by omega⟩
    have hg : (l.getD i ([], 0)).1 = ((l.map (·.1)).getD i []) := by
      rw [List.getD_eq_getElem?_getD, List.getD_eq_getElem?_getD, List.getElem?_map]
      cases l[i]? <;> rfl
    rw [hg, e1, elR]
    simp [List.getD_eq_getElem?_getD, List.getElem?_eq_getElem hi]
section
variable {H : Type} {enc : TypeId × Value → H} {W : World} {base : Nat} {v : Value} {d : DataW H} {p : List MemPlace}
set_option maxRecDepth 100000
set_option linter.constructorNameAsVariable false
set_option linter.unusedVariables false
theorem arg_refs (hv : Value.okWide Tryd.prog W .any base 36 v) (h : DataW.Trod enc Tryd.prog W 0 (fun _ => true) true 36 v d p) :
    ∃ L : List Rf, TRep γ0 (inW W) W (tR L) v ∧ L.length ≤ Rows.uptoBulk d := by
  obtain ⟨a, len, cap, rfl⟩ := okWide_slice Tryd.underlying36 hv
  obtain ⟨fuel, hf⟩ := h
  obtain ⟨ds, ⟨L, el, rfl, h1, h2⟩, hc⟩ := opens_refs.op enc W fuel _ _ hf
  exact ⟨L, drep_congr (trep_one (γ := γ0) hc) h1, h2⟩
theorem arg_ref (hv : Value.okWide Tryd.prog W .any base 38 v) (h : DataW.Trod enc Tryd.prog W 0 (fun _ => true) true 38 v d p) : ∃ r : Rf, TRep γ0 (inW W) W r.tv v := by
  obtain ⟨cs, rfl, _⟩ := okWide_struct Tryd.underlying38 hv
  obtain ⟨fuel, hf⟩ := h
  obtain ⟨ds, ⟨r, rfl⟩, hc⟩ := opens_ref.op enc W fuel _ _ hf
  exact ⟨r, trep_agg (γ := γ0) hc⟩
theorem arg_bool (hv : Value.okWide Tryd.prog W .any base 4 v) (h : DataW.Trod enc Tryd.prog W 0 (fun _ => true) true 4 v d p) : ∃ b : Bool, TRep γ0 (inW W) W (bt b) v := by
  obtain ⟨b, rfl⟩ := okWide_bool Tryd.underlying4 hv
  exact ⟨b, rfl, rfl⟩
end
end Go.Proofs.YtdneiepigllnkaaDoor
