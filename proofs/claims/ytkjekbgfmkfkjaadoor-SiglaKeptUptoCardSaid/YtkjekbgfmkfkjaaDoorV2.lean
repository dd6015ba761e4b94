/- law13: what came in: tables, texts, lists of texts. -/
import Derived.Test.YtkjekbgfmkfkjaaDoorVg
import Derived.Test.YtkjekbgfmkfkjaaDoorSh
import Derived.Test.YtkjekbgfmkfkjaaDoorSu
namespace Go.Proofs.YtkjekbgfmkfkjaaDoor
open Go Go.RowKit Go.ChangeShapes Go.WideShapes Go.Deep Go.Proofs.YtkjekbgfmkfkjaaDoor.DL
set_option linter.unusedSimpArgs false

theorem opens_strs : OpensU Tryd.prog 23 (fun ds b => ∃ (L : List (List UInt8)) (el : Nat → Nat → DV), ds = [.sl L.length 1 el] ∧ (∀ i, i < L.length → ∀ j, j < 1 → el i j = elS L i j) ∧ (∀ x ∈ L, x.length ≤ b) ∧ L.length ≤ b) :=
  (OpensU.slice Tryd.underlying23 (k := 1) (by kernel_rfl) (by omega) (dS []) (OpensU.str Tryd.underlying9)).mono fun ds b ⟨l, h1, h2, h3⟩ => by
    obtain ⟨L, e1, e2⟩ := strs_parts l h1
    obtain ⟨s1, s2⟩ := sum_bnd L
    have hl : l.length = L.length := by simpa using congrArg List.length e1
    refine ⟨L, _, by rw [h3, hl], fun i hi j hj => ?_, fun x hx => ?_, by omega⟩
    · obtain rfl : j = 0 := by omega
      have hg : (l.getD i ([], 0)).1 = ((l.map (·.1)).getD i []) := by
        rw [List.getD_eq_getElem?_getD, List.getD_eq_getElem?_getD, List.getElem?_map]
        cases l[i]? <;> rfl
      rw [hg, e1, elS]
      simp [List.getD_eq_getElem?_getD, List.getElem?_eq_getElem hi]
    · have := s2 x hx; omega
theorem opens_sg : OpensU Tryd.prog 40 (fun ds b => ∃ x : Sg, ds = x.dv ∧ x.key.length ≤ b ∧ x.name.length ≤ b) :=
  (OpensU.struct Tryd.underlying40 [1, 1] (by kernel_rfl) (by
    intro i f h
    match i, h with
    | 0, h => cases h; rfl
    | 1, h => cases h; rfl
    | i + 2, h => cases h) (by kernel_rfl) (fun _ ds b => ∃ l : List UInt8, ds = [dS l] ∧ l.length + 1 = b) (by
    intro i f h
    match i, h with
    | 0, h => cases h; exact OpensU.str Tryd.underlying9
    | 1, h => cases h; exact OpensU.str Tryd.underlying9
    | i + 2, h => cases h)).mono fun ds b ⟨l, bs, h1, h2, h3, h4⟩ => by
    match l, h1 with
    | [p, q], _ =>
      obtain ⟨k, rfl, hk⟩ := h2 0 p rfl
      obtain ⟨n, rfl, hn⟩ := h2 1 q rfl
      have b0 := h3 0 (by decide)
      have b1 := h3 1 (by decide)
      exact ⟨⟨k, n⟩, by rw [h4]; rfl, by simp only []; omega, by simp only []; omega⟩
theorem sgs_parts : ∀ (l : List (List DV × Nat)), (∀ p ∈ l, (∃ x : Sg, p.1 = x.dv ∧ x.key.length ≤ p.2 ∧ x.name.length ≤ p.2) ∧ p.1.length = 2 ∧ 1 ≤ p.2) → ∃ L : List Sg, l.map (·.1) = L.map Sg.dv ∧ L.length ≤ (l.map (·.2)).sum ∧ ∀ x ∈ L, x.key.length ≤ (l.map (·.2)).sum ∧ x.name.length ≤ (l.map (·.2)).sum
  | [], _ => ⟨[], rfl, Nat.zero_le _, fun x h => by cases h⟩
  | p :: l, h => by
    obtain ⟨⟨x, h1, h2, h3⟩, _, h4⟩ := h p (List.mem_cons_self ..)
    obtain ⟨L, e1, e2, e3⟩ := sgs_parts l fun q hq => h q (List.mem_cons_of_mem _ hq)
    refine ⟨x :: L, by rw [List.map_cons, List.map_cons, e1, h1], by rw [List.map_cons, List.sum_cons, List.length_cons]; omega, fun y hy => ?_⟩
    rw [List.map_cons, List.sum_cons]
    rcases List.mem_cons.1 hy with rfl | hy
    · omega
    · have := e3 y hy; omega
theorem opens_sgs : OpensU Tryd.prog 22 (fun ds b => ∃ (L : List Sg) (el : Nat → Nat → DV), ds = [.sl L.length 2 el] ∧ (∀ i, i < L.length → ∀ j, j < 2 → el i j = elG L i j) ∧ L.length ≤ b ∧ bndG L b) :=
  (OpensU.slice Tryd.underlying22 (k := 2) (by kernel_rfl) (by omega) (di 0) opens_sg).mono fun ds b ⟨l, h1, h2, h3⟩ => by
    obtain ⟨L, e1, e2, e3⟩ := sgs_parts l h1
    have hl : l.length = L.length := by simpa using congrArg List.length e1
    refine ⟨L, _, by rw [h3, hl], fun i hi j hj => ?_, by omega, fun i => ?_⟩
    · have hg : (l.getD i ([], 0)).1 = ((l.map (·.1)).getD i []) := by
        rw [List.getD_eq_getElem?_getD, List.getD_eq_getElem?_getD, List.getElem?_map]
        cases l[i]? <;> rfl
      rw [hg, e1]
      show _ = (Sg.dv (L.getD i sg0)).getD j (di 0)
      simp [List.getD_eq_getElem?_getD, List.getElem?_eq_getElem hi]
    · by_cases hi : i < L.length
      · have := e3 _ (getD_mem hi); omega
      · rw [List.getD_eq_getElem?_getD, List.getElem?_eq_none (by omega)]
        simp
section
variable {H : Type} {enc : TypeId × Value → H} {W : World} {base : Nat} {v : Value} {d : DataW H} {p : List MemPlace}
set_option maxRecDepth 100000
set_option linter.constructorNameAsVariable false
set_option linter.unusedVariables false
theorem arg_strs (hv : Value.okWide Tryd.prog W .any base 23 v) (h : DataW.Trod enc Tryd.prog W 0 (fun _ => true) true 23 v d p) :
    ∃ L : List (List UInt8), TRep γ0 (inW W) W (tL L) v ∧ L.length ≤ Rows.uptoBulk d := by
  obtain ⟨a, len, cap, rfl⟩ := okWide_slice Tryd.underlying23 hv
  obtain ⟨fuel, hf⟩ := h
  obtain ⟨ds, ⟨L, el, rfl, h1, h2, h3⟩, hc⟩ := opens_strs.op enc W fuel _ _ hf
  exact ⟨L, drep_congr (trep_one (γ := γ0) hc) h1, h3⟩
theorem arg_str (hv : Value.okWide Tryd.prog W .any base 9 v) (h : DataW.Trod enc Tryd.prog W 0 (fun _ => true) true 9 v d p) :
    ∃ l : List UInt8, TRep γ0 (inW W) W (tT l) v ∧ l.length ≤ Rows.uptoBulk d := by
  obtain ⟨s, rfl⟩ := okWide_string Tryd.underlying9 hv
  obtain ⟨fuel, hf⟩ := h
  obtain ⟨ds, ⟨l, rfl, hl⟩, hc⟩ := (OpensU.str Tryd.underlying9).op enc W fuel _ _ hf
  exact ⟨l, trep_one hc, by simp only [] at hl; omega⟩
theorem arg_sgs (hv : Value.okWide Tryd.prog W .any base 22 v) (h : DataW.Trod enc Tryd.prog W 0 (fun _ => true) true 22 v d p) :
    ∃ L : List Sg, TRep γ0 (inW W) W (tG L) v ∧ L.length ≤ Rows.uptoBulk d ∧ bndG L (Rows.uptoBulk d) := by
  obtain ⟨a, len, cap, rfl⟩ := okWide_slice Tryd.underlying22 hv
  obtain ⟨fuel, hf⟩ := h
  obtain ⟨ds, ⟨L, el, rfl, h1, h2, h3⟩, hc⟩ := opens_sgs.op enc W fuel _ _ hf
  exact ⟨L, drep_congr (trep_one (γ := γ0) hc) h1, h2, h3⟩
end
theorem glb_of {W : World} (hsh : W.ShapedOpen Tryd.prog) : glbP (inW W) W := by
  obtain ⟨m, hm⟩ := Tryd.laysM143.s1_3 W hsh
  have hm : W.cell? ⟨2, 0, none⟩ = some (.int .i64 m) := hm
  refine ⟨fun g hg o => ?_, m, ?_⟩
  · simp only [glbB, List.mem_cons, List.mem_nil_iff, or_false] at hg
    subst hg
    have := World.cells?_block (cells?_one (base := 0) (Nat.zero_le _) hm) (Nat.lt_succ_self 0)
    exact this
  · simpa [glbB] using hm
end Go.Proofs.YtkjekbgfmkfkjaaDoor
