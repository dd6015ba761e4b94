/- law22: what came in, as numbers. -/
import Derived.Test.YtgjamldcglebjaaR21
namespace Go.Proofs.Ytgjamldcglebjaa
open Go Go.RowKit Go.ChangeShapes Go.WideShapes Go.Proofs.Ytgjamldcglebjaa.DL

section
variable {H : Type} {enc : TypeId × Value → H} {W : World} {base : Nat} {v : Value} {d : DataW H} {p : List MemPlace}
theorem arg_int (hv : Value.okWide Try.prog W .any base 3 v) (h : DataW.Trod enc Try.prog W 0 (fun _ => true) true 3 v d p) : ∃ n : Int, TRep γ0 (inW W) W (it n) v ∧ I64 n := by
  obtain ⟨m, rfl⟩ := okWide_int Try.underlying3 hv
  obtain ⟨fuel, hf⟩ := h
  obtain ⟨ds, ⟨n, rfl, hb⟩, hc⟩ := opens_int.op enc W fuel _ _ hf
  exact ⟨n, trep_one hc, hb⟩
theorem arg_i64 (hv : Value.okWide Try.prog W .any base 2 v) (h : DataW.Trod enc Try.prog W 0 (fun _ => true) true 2 v d p) : ∃ n : Int, TRep γ0 (inW W) W (it n) v ∧ I64 n := by
  obtain ⟨m, rfl⟩ := okWide_int Try.underlying2 hv
  obtain ⟨fuel, hf⟩ := h
  obtain ⟨ds, ⟨n, rfl, hb⟩, hc⟩ := opens_i64.op enc W fuel _ _ hf
  exact ⟨n, trep_one hc, hb⟩
end
end Go.Proofs.Ytgjamldcglebjaa
