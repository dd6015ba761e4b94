/- law21: what came in, as loads, a page and an area. -/
import Derived.Test.YtgjamldcglebjaaD12
import Derived.Test.YtgjamldcglebjaaC
import Derived.OpenShut
namespace Go.Proofs.Ytgjamldcglebjaa
open Go Go.RowKit Go.ChangeShapes Go.WideShapes Go.Proofs.Ytgjamldcglebjaa.DL

def I64 (n : Int) : Prop := -9223372036854775808 ≤ n ∧ n ≤ 9223372036854775807
theorem opens_i64 : Opens Try.prog 2 (fun ds => ∃ n, ds = [di n] ∧ I64 n) := (Opens.int Try.underlying2).mono fun ds ⟨n, h, hw⟩ => ⟨n, h, bounds_i64 hw⟩
theorem opens_int : Opens Try.prog 3 (fun ds => ∃ n, ds = [di n] ∧ I64 n) := (Opens.int Try.underlying3).mono fun ds ⟨n, h, hw⟩ => ⟨n, h, bounds_i64 hw⟩
theorem ints_flat : ∀ (l : List (List DV)), (∀ p ∈ l, ∃ n, p = [di n] ∧ I64 n) → ∃ xs : List Int, l.flatten = xs.map di ∧ xs.length = l.length ∧ ∀ x ∈ xs, I64 x
  | [], _ => ⟨[], rfl, rfl, fun x h => by cases h⟩
  | p :: l, h => by
    obtain ⟨n, rfl, hn⟩ := h p (List.mem_cons_self ..)
    obtain ⟨xs, h1, h2, h3⟩ := ints_flat l fun q hq => h q (List.mem_cons_of_mem _ hq)
    refine ⟨n :: xs, by rw [List.flatten_cons, h1]; rfl, by simp [h2], fun x hx => ?_⟩
    rcases List.mem_cons.1 hx with rfl | hx
    · exact hn
    · exact h3 x hx
theorem opens_arr : Opens Try.prog 23 (fun ds => ∃ xs : List Int, ds = xs.map di ∧ xs.length = 10 ∧ ∀ x ∈ xs, I64 x) :=
  (Opens.array Try.underlying23 (k := 1) (by kernel_rfl) (by kernel_rfl) opens_i64).mono fun ds ⟨l, h1, h2, h3⟩ => by
    obtain ⟨xs, e1, e2, e3⟩ := ints_flat l h2
    exact ⟨xs, by rw [h3, e1], by rw [e2, h1], e3⟩
theorem opens_load : Opens Try.prog 41 (fun ds => ∃ y : Load, ds = y.dv ∧ y.notes.length = 10 ∧ I64 y.main ∧ ∀ x ∈ y.notes, I64 x) :=
  (Opens.struct Try.underlying41 [1, 10] (by kernel_rfl) (by
    intro i f h
    match i, h with
    | 0, h => cases h; rfl
    | 1, h => cases h; rfl
    | i + 2, h => cases h) (by kernel_rfl) (fun i ds => match i with
      | 0 => ∃ n, ds = [di n] ∧ I64 n
      | _ => ∃ xs : List Int, ds = xs.map di ∧ xs.length = 10 ∧ ∀ x ∈ xs, I64 x) (by
    intro i f h
    match i, h with
    | 0, h => cases h; exact opens_i64
    | 1, h => cases h; exact opens_arr
    | i + 2, h => cases h)).mono fun ds ⟨l, h1, h2, h3⟩ => by
    match l, h1 with
    | [a, b], _ =>
      obtain ⟨n, rfl, hn⟩ := h2 0 a rfl
      obtain ⟨xs, rfl, hx, hb⟩ := h2 1 b rfl
      exact ⟨⟨n, xs⟩, by rw [h3]; simp [Load.dv], hx, hn, hb⟩
def Wide (l : List Load) : Prop := ∀ y ∈ l, I64 y.main ∧ ∀ x ∈ y.notes, I64 x
theorem loads_parts (z : DV) (hz : z = di 0) : ∀ (l : List (List DV)), (∀ p ∈ l, (∃ y : Load, p = y.dv ∧ y.notes.length = 10 ∧ I64 y.main ∧ ∀ x ∈ y.notes, I64 x) ∧ p.length = 11) → ∃ ys : List Load, l = ys.map Load.dv ∧ Tens ys ∧ Wide ys
  | [], _ => ⟨[], rfl, fun y hy => (List.not_mem_nil hy).elim, fun y hy => (List.not_mem_nil hy).elim⟩
  | p :: l, h => by
    obtain ⟨⟨y, rfl, h10, hm, hb⟩, _⟩ := h p (List.mem_cons_self ..)
    obtain ⟨ys, h1, h2, h3⟩ := loads_parts z hz l fun q hq => h q (List.mem_cons_of_mem _ hq)
    refine ⟨y :: ys, by rw [h1]; rfl, fun x hx => ?_, fun x hx => ?_⟩
    · rcases List.mem_cons.1 hx with rfl | hx
      · exact h10
      · exact h2 x hx
    · rcases List.mem_cons.1 hx with rfl | hx
      · exact ⟨hm, hb⟩
      · exact h3 x hx
theorem opens_loads : Opens Try.prog 22 (fun ds => ∃ l : List Load, ds = [loads l] ∧ l.length ≤ 9223372036854775807 ∧ Tens l ∧ Wide l) :=
  (Opens.slice Try.underlying22 (k := 11) (by kernel_rfl) (by omega) (di 0) opens_load).mono fun ds ⟨l, h1, h2, h3⟩ => by
    obtain ⟨ys, rfl, ht, hw⟩ := loads_parts (di 0) rfl l h2
    rw [List.length_map] at h1 h3
    refine ⟨ys, ?_, h1, ht, hw⟩
    rw [h3, loads]
    congr 2
    funext i j
    by_cases hi : i < ys.length
    · simp [List.getD_eq_getElem?_getD, List.getElem?_eq_getElem hi]
    · have e1 : (ys.map Load.dv)[i]? = none := List.getElem?_eq_none (by simp; omega)
      have e2 : ys[i]? = none := List.getElem?_eq_none (by omega)
      simp only [List.getD_eq_getElem?_getD, e1, e2, Option.getD_none, List.getElem?_nil]
      match j with
      | 0 => rfl
      | j + 1 => rfl
theorem opens_area : Opens Try.prog 27 (fun ds => ∃ a : Area, ds = [di a.height, di a.rule, di a.unit] ∧ I64 a.height ∧ I64 a.rule ∧ I64 a.unit) :=
  (Opens.struct Try.underlying27 [1, 1, 1] (by kernel_rfl) (by
    intro i f h
    match i, h with
    | 0, h => cases h; rfl
    | 1, h => cases h; rfl
    | 2, h => cases h; rfl
    | i + 3, h => cases h) (by kernel_rfl) (fun _ ds => ∃ n, ds = [di n] ∧ I64 n) (by
    intro i f h
    match i, h with
    | 0, h => cases h; exact opens_i64
    | 1, h => cases h; exact opens_i64
    | 2, h => cases h; exact opens_i64
    | i + 3, h => cases h)).mono fun ds ⟨l, h1, h2, h3⟩ => by
    match l, h1 with
    | [a, b, c], _ =>
      obtain ⟨n, rfl, hn⟩ := h2 0 a rfl
      obtain ⟨m, rfl, hm⟩ := h2 1 b rfl
      obtain ⟨k, rfl, hk⟩ := h2 2 c rfl
      exact ⟨⟨n, m, k⟩, by rw [h3]; rfl, hn, hm, hk⟩
def pageC (p n : Int) (left : List Int) : List CV := ci p :: ci n :: left.map ci
theorem opens_page : Opens Try.prog 25 (fun ds => ∃ (p n : Int) (left : List Int), ds = di p :: di n :: left.map di ∧ left.length = 10 ∧ I64 p ∧ I64 n ∧ ∀ x ∈ left, I64 x) :=
  (Opens.struct Try.underlying25 [1, 1, 10] (by kernel_rfl) (by
    intro i f h
    match i, h with
    | 0, h => cases h; rfl
    | 1, h => cases h; rfl
    | 2, h => cases h; rfl
    | i + 3, h => cases h) (by kernel_rfl) (fun i ds => match i with
      | 0 | 1 => ∃ n, ds = [di n] ∧ I64 n
      | _ => ∃ xs : List Int, ds = xs.map di ∧ xs.length = 10 ∧ ∀ x ∈ xs, I64 x) (by
    intro i f h
    match i, h with
    | 0, h => cases h; exact opens_int
    | 1, h => cases h; exact opens_int
    | 2, h => cases h; exact opens_arr
    | i + 3, h => cases h)).mono fun ds ⟨l, h1, h2, h3⟩ => by
    match l, h1 with
    | [a, b, c], _ =>
      obtain ⟨n, rfl, hn⟩ := h2 0 a rfl
      obtain ⟨m, rfl, hm⟩ := h2 1 b rfl
      obtain ⟨xs, rfl, hx, hb⟩ := h2 2 c rfl
      exact ⟨n, m, xs, by rw [h3]; simp, hx, hn, hm, hb⟩

section
variable {H : Type} {enc : TypeId × Value → H} {W : World} {base : Nat} {v : Value} {d : DataW H} {p : List MemPlace}
theorem arg_loads (hv : Value.okWide Try.prog W .any base 22 v) (h : DataW.Trod enc Try.prog W 0 (fun _ => true) true 22 v d p) :
    ∃ l : List Load, TRep γ0 (inW W) W (.one (.d (loads l))) v ∧ l.length ≤ 9223372036854775807 ∧ Tens l ∧ Wide l := by
  obtain ⟨a, len, cap, rfl⟩ := okWide_slice Try.underlying22 hv
  obtain ⟨fuel, hf⟩ := h
  obtain ⟨ds, ⟨l, rfl, h1, h2, h3⟩, hc⟩ := opens_loads.op enc W fuel _ _ hf
  exact ⟨l, trep_one hc, h1, h2, h3⟩
theorem arg_page (hv : Value.okWide Try.prog W .any base 25 v) (h : DataW.Trod enc Try.prog W 0 (fun _ => true) true 25 v d p) :
    ∃ (q n : Int) (left : List Int), TRep γ0 (inW W) W (.agg (pageC q n left)) v ∧ left.length = 10 ∧ I64 q ∧ I64 n ∧ ∀ x ∈ left, I64 x := by
  obtain ⟨cs, rfl, _⟩ := okWide_struct Try.underlying25 hv
  obtain ⟨fuel, hf⟩ := h
  obtain ⟨ds, ⟨q, n, left, rfl, h1, h2, h3, h4⟩, hc⟩ := opens_page.op enc W fuel _ _ hf
  refine ⟨q, n, left, ?_, h1, h2, h3, h4⟩
  have := trep_agg (γ := γ0) hc
  rw [List.map_cons, List.map_cons, List.map_map] at this
  exact this
theorem arg_area (hv : Value.okWide Try.prog W .any base 27 v) (h : DataW.Trod enc Try.prog W 0 (fun _ => true) true 27 v d p) :
    ∃ a : Area, TRep γ0 (inW W) W a.tv v ∧ I64 a.height ∧ I64 a.rule ∧ I64 a.unit := by
  obtain ⟨cs, rfl, _⟩ := okWide_struct Try.underlying27 hv
  obtain ⟨fuel, hf⟩ := h
  obtain ⟨ds, ⟨a, rfl, h1⟩, hc⟩ := opens_area.op enc W fuel _ _ hf
  exact ⟨a, trep_agg (γ := γ0) hc, h1⟩
end
end Go.Proofs.Ytgjamldcglebjaa
