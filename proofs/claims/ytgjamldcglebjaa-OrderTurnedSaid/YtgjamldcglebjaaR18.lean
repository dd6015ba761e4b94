/- law18: what came in, as notes and numbers. -/
import Derived.Test.YtgjamldcglebjaaD12
import Derived.Test.YtgjamldcglebjaaOa
import Derived.OpenShut
namespace Go.Proofs.Ytgjamldcglebjaa
open Go Go.RowKit Go.ChangeShapes Go.WideShapes Go.Deep Go.Proofs.Ytgjamldcglebjaa.DL
set_option linter.unusedVariables false

def I64 (n : Int) : Prop := -9223372036854775808 ≤ n ∧ n ≤ 9223372036854775807
theorem opens_int : Opens Try.prog 3 (fun ds => ∃ n, ds = [di n] ∧ I64 n) := (Opens.int Try.underlying3).mono fun ds ⟨n, h, hw⟩ => ⟨n, h, bounds_i64 hw⟩
/-- Words: kept as they came. -/
theorem opens_words : Opens Try.prog 54 (fun ds => ∃ d : DV, ds = [d]) := .mk fun enc W fuel cs x hx => by
  rcases open_slice Try.underlying54 hx with ⟨rfl, _⟩ | ⟨a, len, cap, m, n, D, Pl, rfl, _⟩
  · exact ⟨_, ⟨_, rfl⟩, Cells.one rfl⟩
  · exact ⟨_, ⟨_, rfl⟩, Cells.one rfl⟩
theorem opens_note : Opens Try.prog 56 (fun ds => ∃ y : NoteM, ds = noteD y) :=
  (Opens.struct Try.underlying56 [1, 1, 1, 1, 1] (by kernel_rfl) (by
    intro i f h
    match i, h with
    | 0, h => cases h; rfl
    | 1, h => cases h; rfl
    | 2, h => cases h; rfl
    | 3, h => cases h; rfl
    | 4, h => cases h; rfl
    | i + 5, h => cases h) (by kernel_rfl) (fun i ds => match i with
      | 3 => ∃ d : DV, ds = [d]
      | _ => ∃ n, ds = [di n] ∧ I64 n) (by
    intro i f h
    match i, h with
    | 0, h => cases h; exact opens_int
    | 1, h => cases h; exact opens_int
    | 2, h => cases h; exact opens_int
    | 3, h => cases h; exact opens_words
    | 4, h => cases h; exact opens_int
    | i + 5, h => cases h)).mono fun ds ⟨l, h1, h2, h3⟩ => by
    match l, h1 with
    | [a, b, c, d, e], _ =>
      obtain ⟨n0, rfl, _⟩ := h2 0 a rfl
      obtain ⟨n1, rfl, _⟩ := h2 1 b rfl
      obtain ⟨n2, rfl, _⟩ := h2 2 c rfl
      obtain ⟨n3, rfl⟩ := h2 3 d rfl
      obtain ⟨n4, rfl, _⟩ := h2 4 e rfl
      exact ⟨⟨n0, n1, n2, n3, n4⟩, by rw [h3]; rfl⟩
theorem notes_parts : ∀ (l : List (List DV)), (∀ p ∈ l, (∃ y : NoteM, p = noteD y) ∧ p.length = 5) → ∃ ys : List NoteM, l = ys.map noteD
  | [], _ => ⟨[], rfl⟩
  | p :: l, h => by
    obtain ⟨⟨y, rfl⟩, _⟩ := h p (List.mem_cons_self ..)
    obtain ⟨ys, h1⟩ := notes_parts l fun q hq => h q (List.mem_cons_of_mem _ hq)
    exact ⟨y :: ys, by rw [h1]; rfl⟩
theorem opens_notes : Opens Try.prog 52 (fun ds => ∃ l : List NoteM, ds = [notesD l] ∧ l.length ≤ 9223372036854775807) :=
  (Opens.slice Try.underlying52 (k := 5) (by kernel_rfl) (by omega) (di 0) opens_note).mono fun ds ⟨l, h1, h2, h3⟩ => by
    obtain ⟨ys, rfl⟩ := notes_parts l h2
    rw [List.length_map] at h1 h3
    refine ⟨ys, ?_, h1⟩
    rw [h3, notesD]
    congr 2
    funext i j
    by_cases hi : i < ys.length
    · simp [List.getD_eq_getElem?_getD, List.getElem?_eq_getElem hi]
    · have e1 : (ys.map noteD)[i]? = none := List.getElem?_eq_none (by simp; omega)
      have e2 : ys[i]? = none := List.getElem?_eq_none (by omega)
      simp only [List.getD_eq_getElem?_getD, e1, e2, Option.getD_none, List.getElem?_nil]
      match j with
      | 0 => rfl
      | 1 => rfl
      | 2 => rfl
      | 3 => rfl
      | 4 => rfl
      | j + 5 => rfl
theorem glb_none {Pr : Prot} {W : World} : glbP Pr W := ⟨fun g hg => absurd hg (by simp [glbB]), by simp [glbC]⟩
section
variable {H : Type} {enc : TypeId × Value → H} {W : World} {base : Nat} {v : Value} {d : DataW H} {p : List MemPlace}
theorem arg_notes (hv : Value.okWide Try.prog W .any base 52 v) (h : DataW.Trod enc Try.prog W 0 (fun _ => true) true 52 v d p) :
    ∃ l : List NoteM, TRep γ0 (inW W) W (.one (.d (notesD l))) v ∧ l.length ≤ 9223372036854775807 := by
  obtain ⟨a, len, cap, rfl⟩ := okWide_slice Try.underlying52 hv
  obtain ⟨fuel, hf⟩ := h
  obtain ⟨ds, ⟨l, rfl, h1⟩, hc⟩ := opens_notes.op enc W fuel _ _ hf
  exact ⟨l, trep_one hc, h1⟩
theorem arg_int (hv : Value.okWide Try.prog W .any base 3 v) (h : DataW.Trod enc Try.prog W 0 (fun _ => true) true 3 v d p) : ∃ n : Int, TRep γ0 (inW W) W (it n) v ∧ I64 n := by
  obtain ⟨m, rfl⟩ := okWide_int Try.underlying3 hv
  obtain ⟨fuel, hf⟩ := h
  obtain ⟨ds, ⟨n, rfl, hb⟩, hc⟩ := opens_int.op enc W fuel _ _ hf
  exact ⟨n, trep_one hc, hb⟩
end
end Go.Proofs.Ytgjamldcglebjaa
