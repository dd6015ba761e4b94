/- Leaf: the plain law: lines without notes. No program in sight. -/
import Derived.Test.YtgjamldcglebjaaX
namespace Go.Proofs.Ytgjamldcglebjaa
open Go Go.RowKit Go.Proofs.Ytgjamldcglebjaa.DL
set_option linter.unusedVariables false

def plainL (l : List Load) : List Load := l.map fun y => ⟨y.main, zs10⟩
theorem plainL_tens (l : List Load) : Tens (plainL l) := fun x hx => by
  obtain ⟨y, _, rfl⟩ := List.mem_map.1 hx
  rfl
theorem plainL_length (l : List Load) : (plainL l).length = l.length := by simp [plainL]
theorem plainL_seg (l : List Load) (lo hi : Nat) : segL (plainL l) lo hi = plainL (segL l lo hi) := by simp [segL, plainL, List.map_take, List.map_drop]
theorem mE_plain : ∀ (l : List Load), mE (plainL l) = mE l
  | [] => rfl
  | y :: l => by
    show y.main + mE (plainL l) = _
    rw [mE_plain l]; rfl
theorem sE_plain : ∀ (l : List Load), sE (plainL l) zs10 = zs10
  | [] => rfl
  | y :: l => by
    show sE (plainL l) (addE zs10 zs10) = _
    rw [show addE zs10 zs10 = zs10 from rfl, sE_plain l]
theorem nd_plain (rule : Int) (l : List Load) : nd rule (plainL l) zs10 = mE l := by
  rw [nd, mE_plain, sE_plain]
  show mE l + highE rule zs10 = _
  rw [show highE rule zs10 = 0 from rfl, Int.add_zero]
theorem zero_amount (u : Int) : (rowA u zs10).all amountP = true := by simp [rowA, amountP, amountB, fitsB]
theorem sumP_plain (u : Int) : ∀ (l : List Load), (∀ y ∈ l, amountB y.main 1 = true ∧ (rowA u y.notes).all amountP = true) → sumP ((plainL l).flatMap (loadA u)) ≤ sumP (l.flatMap (loadA u))
  | [], _ => Int.le_refl _
  | y :: l, h => by
    have ih := sumP_plain u l fun x hx => h x (List.mem_cons_of_mem _ hx)
    have hn := sumP_row u y.notes (row_amt (h y (List.mem_cons_self ..)).2)
    show sumP (loadA u ⟨y.main, zs10⟩ ++ (plainL l).flatMap (loadA u)) ≤ sumP (loadA u y ++ l.flatMap (loadA u))
    rw [sumP_append, sumP_append]
    have e1 : sumP (loadA u ⟨y.main, zs10⟩) = y.main + 0 := rfl
    have e2 : sumP (loadA u y) = y.main + sumP (rowA u y.notes) := rfl
    omega
theorem mayW_plain {l : List Load} {a : Area} (ht : Tens l) (h : mayW l zs10 a = true) : mayW (plainL l) zs10 a = true := by
  have F := mayW_fair ht rfl h
  obtain ⟨h1, h2, h3⟩ := (mayW_iff l zs10 a).1 h
  refine (mayW_iff (plainL l) zs10 a).2 ⟨by rw [plainL_length]; exact h1, ?_, ?_⟩
  · rw [amounts, List.all_append, List.all_append, Bool.and_eq_true, Bool.and_eq_true] at h2 ⊢
    refine ⟨h2.1, List.all_eq_true.2 fun p hp => ?_⟩
    obtain ⟨y, hy, hp⟩ := List.mem_flatMap.1 hp
    obtain ⟨z, hz, rfl⟩ := List.mem_map.1 hy
    rcases List.mem_cons.1 hp with rfl | hp
    · exact (F.load z hz).1
    · exact List.all_eq_true.1 (zero_amount a.unit) p hp
  · have := sumP_plain a.unit l F.load
    rw [amounts, sumP_append, sumP_append] at h3 ⊢
    omega
theorem plain_fit (l : List Load) (p : Int) (a : Area) (ht : Tens l) (hm : mayR l zs10 a = true) (h0 : 0 ≤ p) (h1 : p ≤ l.length) :
    ∃ m : Nat, fitW (plainL l) p zs10 a = m ∧ p.toNat + m ≤ l.length ∧ mainsW (segL l p.toNat (p.toNat + m)) ≤ a.height ∧ (p.toNat + m < l.length → a.height < mainsW (segL l p.toNat (p.toNat + m + 1))) := by
  rw [may_same l zs10 a ht rfl] at hm
  have F := mayW_fair ht rfl hm
  have FL := F.list ht
  have hmp := mayW_plain ht hm
  have hpl := plainL_length l
  have hma : mayAt (plainL l) p zs10 a = true := mayAt_of h0 (by rw [hpl]; exact h1) hmp
  obtain ⟨f1, f2, f3⟩ := fit_holds (left := zs10) (plainL_tens l) rfl hma
  rw [hpl] at f1 f3
  have hk := F.len
  have hh := F.height
  have main_eq : ∀ n, p.toNat + n ≤ l.length → mainsW (segL l p.toNat (p.toNat + n)) = nd a.rule (segL (plainL l) p.toNat (p.toNat + n)) zs10 := fun n hn => by
    have hs := segL_length l p.toNat (p.toNat + n) hn
    rw [plainL_seg, nd_plain, mainsW_eq (FL.seg _ _) (by omega)]
  refine ⟨fitN (plainL l) p.toNat zs10 a, fitW_yes hma, by omega, ?_, fun hlt => ?_⟩
  · rw [main_eq _ (by omega)]
    by_cases hn : 0 < fitN (plainL l) p.toNat zs10 a
    · exact f2 hn
    · rw [show fitN (plainL l) p.toNat zs10 a = 0 by omega, plainL_seg, nd_plain]
      have : segL l p.toNat (p.toNat + 0) = [] := by simp [segL]
      rw [this, mE]; omega
  · have e : p.toNat + fitN (plainL l) p.toNat zs10 a + 1 = p.toNat + (fitN (plainL l) p.toNat zs10 a + 1) := by omega
    rw [e, main_eq _ (by omega)]
    exact f3 (by omega)
end Go.Proofs.Ytgjamldcglebjaa
