/- law21: the fixed calls; LeafTells. -/
import Derived.Test.YtgjamldcglebjaaM
import Derived.Test.YtgjamldcglebjaaD13
import Derived.Test.YtgjamldcglebjaaR21
namespace Go.Proofs.Ytgjamldcglebjaa
open Go Go.RowKit Go.Proofs.Ytgjamldcglebjaa.DL
attribute [local irreducible] DCode DOps OpVal DCalls DCallsM DCallsB thenQ seqQ inBlockQ endQ endQM OpNew

theorem loads_flat : ∀ (l : List Load), Tens l → ∀ p, p < l.length → ∀ q, q < 11 → (l.flatMap Load.dv)[p * 11 + q]? = some (((l.getD p ⟨0, []⟩).dv).getD q (di 0))
  | [], _, p, hp, _, _ => absurd hp (Nat.not_lt_zero _)
  | y :: l, ht, p, hp, q, hq => by
    have hy : y.dv.length = 11 := by simp [Load.dv, ht y (List.mem_cons_self ..)]
    rw [List.flatMap_cons]
    match p, hp with
    | 0, _ =>
      rw [Nat.zero_mul, Nat.zero_add, List.getElem?_append_left (by omega), List.getElem?_eq_getElem (by omega), List.getD_cons_zero, List.getD_eq_getElem?_getD, List.getElem?_eq_getElem (by omega), Option.getD_some]
    | p + 1, hp =>
      rw [List.getElem?_append_right (by omega), show (p + 1) * 11 + q - y.dv.length = p * 11 + q by omega, loads_flat l (fun x hx => ht x (List.mem_cons_of_mem _ hx)) p (by simpa using hp) q hq, List.getD_cons_succ]

abbrev plain3 : List Load := [⟨10, zs10⟩, ⟨10, zs10⟩, ⟨10, zs10⟩]
abbrev single : List Load := [⟨10, [30, 0, 0, 0, 0, 0, 0, 0, 0, 0]⟩]
theorem tens3 : Tens plain3 := fun x hx => by
  simp only [plain3, List.mem_cons, List.not_mem_nil, or_false] at hx
  rcases hx with rfl | rfl | rfl <;> rfl
theorem tens1 : Tens single := fun x hx => by
  simp only [single, List.mem_cons, List.not_mem_nil, or_false] at hx
  subst hx; rfl
set_option maxRecDepth 10000 in
set_option maxHeartbeats 2000000 in
theorem fixed_d : DCalls Try.prog 15 [] (fun ts => ts = [bt true]) := by
  have c1 := lTake_d plain3 0 zs10 ⟨25, 0, 1⟩ (by decide) tens3 rfl
  have c2 := lTake_d single 0 zs10 ⟨25, 1, 5⟩ (by decide) tens1 rfl
  have c3 := lTake_d plain3 0 zs10 ⟨9, 0, 1⟩ (by decide) tens3 rfl
  have c4 := lMay_d plain3 ⟨0, 0, 1⟩ (by decide) tens3
  have c5 := lNeed_d plain3 1 9 zs10 ⟨0, 0, 1⟩ (by decide) tens3 rfl
  rw [show takeW plain3 0 zs10 ⟨25, 0, 1⟩ = (⟨0, 2, zs10, zs10⟩, true) by kernel_rfl] at c1
  rw [show takeW single 0 zs10 ⟨25, 1, 5⟩ = (⟨0, 1, [10, 0, 0, 0, 0, 0, 0, 0, 0, 0], [20, 0, 0, 0, 0, 0, 0, 0, 0, 0]⟩, true) by kernel_rfl] at c2
  rw [show takeW plain3 0 zs10 ⟨9, 0, 1⟩ = (leaf0, false) by kernel_rfl] at c3
  rw [show mayW plain3 zs10 ⟨0, 0, 1⟩ = true by kernel_rfl] at c4
  rw [show needW plain3 1 9 zs10 ⟨0, 0, 1⟩ = 20 by kernel_rfl] at c5
  simp only [] at c1 c2 c3 c4 c5
  refine DCalls.enter tt_ok Try.func15 rfl Try.ntmps15 (by simp) (by repeat (first | exact pures_nil | refine pures_cons ?_ ?_ | exact pure_sc | exact arr_pure _ | exact Load.pure _ | exact Area.pure _ | exact pure_sl | exact dvs_pure _)) ?_
  repeat' (first | first | refine q_seq ?_ | refine q_seqX ?_ | refine q_seqR ?_ | refine q_then ?_ | refine q_thenX ?_ | refine q_thenR ?_ | refine q_block ?_ | refine q_blockX ?_ | refine q_blockY rfl ?_ | refine q_blockR ?_ | refine DCode.seq ?_ | refine DCode.region ?_ | refine DCode.block ?_ | refine DCode.skip ?_ | refine DCode.exit ?_ | refine DCode.ret ?_ | refine DCode.condT rfl ?_ | refine DCode.condF rfl ?_ | refine DCode.condD rfl (fun _ => ?_) (fun _ => ?_) | refine DOps.new (r := .v (.one (.d (loads plain3)))) rfl rfl rfl (OpNew.bsl tt_ok (plain3.flatMap Load.dv) _ rfl rfl rfl rfl rfl rfl rfl rfl rfl (by kernel_rfl) (loads_flat plain3 tens3)) ?_ | refine DOps.new (r := .v (.one (.d (loads single)))) rfl rfl rfl (OpNew.bsl tt_ok (single.flatMap Load.dv) _ rfl rfl rfl rfl rfl rfl rfl rfl rfl (by kernel_rfl) (loads_flat single tens1)) ?_ | first | refine DOps.nil ?_ | refine DOps.val rfl rfl rfl (OpVal.move rfl rfl) ?_ | refine DOps.val rfl rfl rfl (OpVal.moveT rfl rfl) ?_ | refine DOps.val rfl rfl rfl (OpVal.assign rfl rfl) ?_ | refine DOps.off rfl rfl rfl ?_ | refine DOps.cmpT rfl rfl rfl rfl rfl rfl rfl (by omega) ?_ | refine DOps.cmpF rfl rfl rfl rfl rfl rfl rfl (by omega) ?_ | refine DOps.val rfl rfl rfl (OpVal.add rfl rfl rfl (by omega) (by omega)) ?_ | refine DOps.val rfl rfl rfl (OpVal.sub rfl rfl rfl (by omega) (by omega)) ?_ | refine DOps.val rfl rfl rfl (OpVal.neg64 rfl rfl (by omega) (by omega)) ?_ | refine DOps.val rfl rfl rfl (OpVal.arith rfl rfl rfl rfl) ?_ | refine DOps.val rfl rfl rfl (OpVal.pickT rfl rfl rfl) ?_ | refine DOps.val rfl rfl rfl (OpVal.pickF rfl rfl rfl) ?_ | refine DOps.val rfl rfl rfl (OpVal.notB rfl rfl) ?_ | refine DOps.val rfl rfl rfl (OpVal.extract rfl rfl rfl) ?_ | refine DOps.val rfl rfl rfl (OpVal.fa tt_ok rfl rfl rfl rfl rfl rfl) ?_ | refine DOps.val rfl rfl rfl (OpVal.faD tt_ok rfl rfl rfl rfl rfl rfl) ?_ | refine DOps.val rfl rfl rfl (OpVal.load1 tt_ok rfl rfl rfl rfl rfl rfl) ?_ | refine DOps.val rfl rfl rfl (OpVal.lenD tt_ok rfl rfl rfl rfl rfl rfl rfl) ?_ | refine DOps.val rfl rfl rfl (OpVal.iaA tt_ok rfl rfl rfl rfl rfl (by omega) (by omega)) ?_ | refine DOps.val rfl rfl rfl (OpVal.iaD tt_ok rfl rfl rfl rfl rfl rfl (by omega) (by omega)) ?_ | refine DOps.val rfl rfl rfl (OpVal.iaDA tt_ok rfl rfl rfl rfl rfl (by omega) (by omega)) ?_ | refine DOps.val rfl rfl rfl (OpVal.nilCheckP rfl rfl) ?_ | refine DOps.val rfl rfl rfl (OpVal.nilCheckD rfl rfl) ?_ | refine DOps.val rfl rfl rfl (OpVal.buildS tt_ok rfl rfl rfl rfl rfl rfl rfl rfl) ?_ | refine DOps.val rfl rfl rfl (OpVal.buildA tt_ok rfl rfl rfl rfl rfl rfl rfl rfl) ?_ | refine DOps.boxS rfl rfl rfl rfl rfl rfl ?_ | refine DOps.alS tt_ok rfl rfl rfl rfl rfl rfl rfl ?_ | refine DOps.store tt_ok rfl rfl rfl rfl rfl rfl rfl rfl (Nat.le_of_ble_eq_true rfl) rfl ?_ | refine DOps.val rfl rfl rfl (OpVal.load tt_ok rfl rfl rfl rfl rfl rfl) ?_ | refine DOps.call1 (ts := [.one (.d (loads plain3)), it 0, arr zs10, Area.tv ⟨25, 0, 1⟩]) rfl rfl rfl rfl rfl Try.func16 rfl (by kernel_rfl) rfl (by repeat (first | exact pures_nil | refine pures_cons ?_ ?_ | exact pure_sc | exact arr_pure _ | exact Load.pure _ | exact Area.pure _ | exact pure_sl | exact dvs_pure _)) (c1) ?_ | refine DOps.call1 (ts := [.one (.d (loads single)), it 0, arr zs10, Area.tv ⟨25, 1, 5⟩]) rfl rfl rfl rfl rfl Try.func16 rfl (by kernel_rfl) rfl (by repeat (first | exact pures_nil | refine pures_cons ?_ ?_ | exact pure_sc | exact arr_pure _ | exact Load.pure _ | exact Area.pure _ | exact pure_sl | exact dvs_pure _)) (c2) ?_ | refine DOps.call1 (ts := [.one (.d (loads plain3)), it 0, arr zs10, Area.tv ⟨9, 0, 1⟩]) rfl rfl rfl rfl rfl Try.func16 rfl (by kernel_rfl) rfl (by repeat (first | exact pures_nil | refine pures_cons ?_ ?_ | exact pure_sc | exact arr_pure _ | exact Load.pure _ | exact Area.pure _ | exact pure_sl | exact dvs_pure _)) (c3) ?_ | refine DOps.call1 (ts := [.one (.d (loads plain3)), Area.tv ⟨0, 0, 1⟩]) rfl rfl rfl rfl rfl Try.func18 rfl (by kernel_rfl) rfl (by repeat (first | exact pures_nil | refine pures_cons ?_ ?_ | exact pure_sc | exact arr_pure _ | exact Load.pure _ | exact Area.pure _ | exact pure_sl | exact dvs_pure _)) (c4) ?_ | refine DOps.call1 (ts := [.one (.d (loads plain3)), it 1, it 9, arr zs10, Area.tv ⟨0, 0, 1⟩]) rfl rfl rfl rfl rfl Try.func20 rfl (by kernel_rfl) rfl (by repeat (first | exact pures_nil | refine pures_cons ?_ ?_ | exact pure_sc | exact arr_pure _ | exact Load.pure _ | exact Area.pure _ | exact pure_sl | exact dvs_pure _)) (c5) ?_ | refine DOps.cmpT rfl rfl rfl rfl rfl rfl rfl (by decide) ?_)
  exact endQ.ret rfl (.cons (.tmp rfl) .nil) (pures_cons pure_sc pures_nil) rfl
end Go.Proofs.Ytgjamldcglebjaa
