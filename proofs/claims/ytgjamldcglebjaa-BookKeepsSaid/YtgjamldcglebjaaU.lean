/- law21: LeafTells. -/
import Derived.Test.YtgjamldcglebjaaS
namespace Go.Proofs.Ytgjamldcglebjaa
open Go Go.RowKit Go.Proofs.Ytgjamldcglebjaa.DL
attribute [local irreducible] DCode DOps OpVal DCalls DCallsM DCallsB thenQ seqQ inBlockQ endQ endQM OpNew

theorem page_length (p n : Int) (left : List Int) (h10 : left.length = 10) : (pageC p n left).length = 12 := by simp [pageC, h10]
theorem page_left (p n : Int) (left : List Int) (h10 : left.length = 10) : ((pageC p n left).drop 2).take 10 = left.map ci := by
  show (left.map ci).take 10 = _
  rw [List.take_of_length_le (by simp [h10])]
theorem pageC_pure (p n : Int) (left : List Int) : ∀ c ∈ pageC p n left, c.pure := fun c hc => by
  simp only [pageC, List.mem_cons, List.mem_map] at hc
  rcases hc with rfl | rfl | ⟨_, _, rfl⟩ <;> trivial

theorem takeW_ten (l : List Load) (p : Int) (left : List Int) (a : Area) (ht : Tens l) (h10 : left.length = 10) : (takeW l p left a).1.ten := by
  unfold takeW
  by_cases h1 : mayAt l p left a = false
  · rw [if_pos h1]; exact ⟨rfl, rfl⟩
  rw [if_neg h1]
  by_cases h2 : 0 < fitN l p.toNat left a
  · rw [if_pos h2]; exact ⟨sumsW_length _ _ (ht.seg _ _) h10, rfl⟩
  rw [if_neg h2]
  by_cases h3 : left ≠ zs10
  · rw [if_pos h3]
    have := tightW_length left a.height a h10
    split
    · exact this
    · exact ⟨rfl, rfl⟩
  rw [if_neg h3]
  by_cases h4 : p < l.length
  · rw [if_pos h4]
    have hp : 0 ≤ p := by
      rcases Int.lt_or_le p 0 with h | h
      · exact absurd ((mayAt_iff l p left a).2 (.inl h)) h1
      · exact h
    have := tightW_length (l.getD p.toNat ⟨0, []⟩).notes (w64 (a.height - (l.getD p.toNat ⟨0, []⟩).main)) a (ht.get _ (by omega))
    split
    · exact this
    · exact ⟨rfl, rfl⟩
  · rw [if_neg h4]; exact ⟨rfl, rfl⟩
theorem leaf_eqv (x y : LeafM) (hx : x.ten) (hy : y.ten) : EqV Try.prog 2 30 (.agg (leafC x)) (.agg (leafC y)) (decide (x.first = y.first) && (decide (x.lines = y.lines) && (decide (x.shown = y.shown) && (decide (x.left = y.left) && true)))) := by
  have lx := leafC_length x hx
  have ly := leafC_length y hy
  have ls : ∀ z : LeafM, z.ten → ((leafC z).drop 12).take 10 = z.left.map ci := fun z hz => by
    have h : leafC z = (ci z.first :: ci z.lines :: z.shown.map ci) ++ z.left.map ci := rfl
    rw [h, List.drop_append_of_le_length (by simp [hz.1]), List.drop_of_length_le (by simp [hz.1]), List.nil_append, List.take_of_length_le (by simp [hz.2])]
  refine EqV.struct tt_ok rfl (by kernel_rfl) ?_
  refine ⟨_, .one (ci x.first), .one (ci y.first), _, _, by decide, rfl, ?_, ?_, EqV.le (Nat.zero_le 1) (EqV.int tt_ok rfl), ⟨_, .one (ci x.lines), .one (ci y.lines), _, _, by decide, rfl, ?_, ?_, EqV.le (Nat.zero_le 1) (EqV.int tt_ok rfl), ⟨_, arr x.shown, arr y.shown, _, _, by decide, rfl, ?_, ?_, EqV.arrI tt_ok rfl rfl hx.1 hy.1, ⟨_, arr x.left, arr y.left, _, _, by decide, rfl, ?_, ?_, EqV.arrI tt_ok rfl rfl hx.2 hy.2, rfl, rfl⟩, rfl⟩, rfl⟩, rfl⟩
  · exact ⟨_, rfl, rfl⟩
  · exact ⟨_, rfl, rfl⟩
  · exact ⟨_, rfl, rfl⟩
  · exact ⟨_, rfl, rfl⟩
  · exact ⟨by rw [lx]; decide, congrArg TV.agg (leaf_drop x hx.1).symm⟩
  · exact ⟨by rw [ly]; decide, congrArg TV.agg (leaf_drop y hy.1).symm⟩
  · exact ⟨by rw [lx]; decide, congrArg TV.agg (ls x hx).symm⟩
  · exact ⟨by rw [ly]; decide, congrArg TV.agg (ls y hy).symm⟩
theorem leaf_eqv_self (x : LeafM) (hx : x.ten) : EqV Try.prog 9 30 (.agg (leafC x)) (.agg (leafC x)) true := by
  have h := EqV.le (h' := 9) (by omega) (leaf_eqv x x hx hx)
  simpa using h

set_option maxRecDepth 10000 in
set_option maxHeartbeats 2000000 in
theorem leafTells_d (l : List Load) (p n : Int) (left : List Int) (a : Area) (hl : l.length ≤ 9223372036854775807) (ht : Tens l) (h10 : left.length = 10) : DCalls Try.prog 3 [.one (.d (loads l)), .agg (pageC p n left), a.tv] (fun ts => ts = [bt true]) := by
  have c16 := lTake_d l p left a hl ht h10
  have c17 := rTake_d l p left a hl ht h10
  rw [take_same l p left a ht h10] at c17
  have c18 := lMay_d l a hl ht
  have c19 := rMay_d l a hl ht
  rw [may_same l zs10 a ht rfl] at c19
  have c20 := lNeed_d l p n left a hl ht h10
  have c21 := rNeed_d l p n left a hl ht h10
  rw [need_same l p n left a ht h10] at c21
  have c22 := lFit_d l p left a hl ht h10
  have c23 := rFit_d l p left a hl ht h10
  rw [fit_same l p left a ht h10] at c23
  have hten : (takeW l p left a).1.ten := takeW_ten l p left a ht h10
  generalize takeW l p left a = t at c16 c17 hten
  refine DCalls.enter tt_ok Try.func3 rfl Try.ntmps3 (by simp) ?_ ?_
  · exact pures_cons pure_sl (pures_cons (pageC_pure p n left) (pures_cons (Area.pure a) pures_nil))
  repeat' (first | first | refine q_seq ?_ | refine q_seqX ?_ | refine q_seqR ?_ | refine q_then ?_ | refine q_thenX ?_ | refine q_thenR ?_ | refine q_block ?_ | refine q_blockX ?_ | refine q_blockY rfl ?_ | refine q_blockR ?_ | refine DCode.seq ?_ | refine DCode.region ?_ | refine DCode.block ?_ | refine DCode.skip ?_ | refine DCode.exit ?_ | refine DCode.ret ?_ | refine DCode.condT rfl ?_ | refine DCode.condF rfl ?_ | refine DCode.condD rfl (fun _ => ?_) (fun _ => ?_) | refine DOps.storeW (ns := leafC t.1) tt_ok rfl rfl rfl rfl rfl rfl rfl (leafC_length _ hten) rfl ?_ | first | refine DOps.nil ?_ | refine DOps.val rfl rfl rfl (OpVal.move rfl rfl) ?_ | refine DOps.val rfl rfl rfl (OpVal.moveT rfl rfl) ?_ | refine DOps.val rfl rfl rfl (OpVal.assign rfl rfl) ?_ | refine DOps.off rfl rfl rfl ?_ | refine DOps.cmpT rfl rfl rfl rfl rfl rfl rfl (by omega) ?_ | refine DOps.cmpF rfl rfl rfl rfl rfl rfl rfl (by omega) ?_ | refine DOps.val rfl rfl rfl (OpVal.add rfl rfl rfl (by omega) (by omega)) ?_ | refine DOps.val rfl rfl rfl (OpVal.sub rfl rfl rfl (by omega) (by omega)) ?_ | refine DOps.val rfl rfl rfl (OpVal.neg64 rfl rfl (by omega) (by omega)) ?_ | refine DOps.val rfl rfl rfl (OpVal.arith rfl rfl rfl rfl) ?_ | refine DOps.val rfl rfl rfl (OpVal.pickT rfl rfl rfl) ?_ | refine DOps.val rfl rfl rfl (OpVal.pickF rfl rfl rfl) ?_ | refine DOps.val rfl rfl rfl (OpVal.notB rfl rfl) ?_ | refine DOps.val rfl rfl rfl (OpVal.extract rfl rfl rfl) ?_ | refine DOps.val rfl rfl rfl (OpVal.fa tt_ok rfl rfl rfl rfl rfl rfl) ?_ | refine DOps.val rfl rfl rfl (OpVal.faD tt_ok rfl rfl rfl rfl rfl rfl) ?_ | refine DOps.val rfl rfl rfl (OpVal.load1 tt_ok rfl rfl rfl rfl rfl rfl) ?_ | refine DOps.val rfl rfl rfl (OpVal.lenD tt_ok rfl rfl rfl rfl rfl rfl rfl) ?_ | refine DOps.val rfl rfl rfl (OpVal.iaA tt_ok rfl rfl rfl rfl rfl (by omega) (by omega)) ?_ | refine DOps.val rfl rfl rfl (OpVal.iaD tt_ok rfl rfl rfl rfl rfl rfl (by omega) (by omega)) ?_ | refine DOps.val rfl rfl rfl (OpVal.iaDA tt_ok rfl rfl rfl rfl rfl (by omega) (by omega)) ?_ | refine DOps.val rfl rfl rfl (OpVal.nilCheckP rfl rfl) ?_ | refine DOps.val rfl rfl rfl (OpVal.nilCheckD rfl rfl) ?_ | refine DOps.val rfl rfl rfl (OpVal.buildS tt_ok rfl rfl rfl rfl rfl rfl rfl rfl) ?_ | refine DOps.val rfl rfl rfl (OpVal.buildA tt_ok rfl rfl rfl rfl rfl rfl rfl rfl) ?_ | refine DOps.boxS rfl rfl rfl rfl rfl rfl ?_ | refine DOps.alS tt_ok rfl rfl rfl rfl rfl rfl rfl ?_ | refine DOps.store tt_ok rfl rfl rfl rfl rfl rfl rfl rfl (Nat.le_of_ble_eq_true rfl) rfl ?_ | refine DOps.cmp rfl rfl rfl rfl rfl rfl rfl (fun _ => ?_) (fun _ => ?_) | refine DOps.val (r := .v (arr left)) rfl rfl rfl (OpVal.cast (OpVal.loadN tt_ok rfl rfl rfl rfl rfl (by show 0 + 2 + 10 ≤ (pageC p n left).length; rw [page_length _ _ _ h10]; decide)) (congrArg (fun z => SV.v (.agg z)) (page_left _ _ _ h10))) ?_ | refine DOps.val rfl rfl rfl (OpVal.load tt_ok rfl rfl rfl rfl rfl rfl) ?_ | refine DOps.call1 rfl rfl rfl rfl rfl Try.func15 rfl (by kernel_rfl) rfl (by repeat (first | exact pures_nil | refine pures_cons ?_ ?_ | exact pure_sc | exact arr_pure _ | exact Load.pure _ | exact Area.pure _ | exact pure_sl | exact dvs_pure _)) (fixed_d) ?_ | refine DOps.call1 rfl rfl rfl rfl rfl Try.func16 rfl (by kernel_rfl) rfl (by repeat (first | exact pures_nil | refine pures_cons ?_ ?_ | exact pure_sc | exact arr_pure _ | exact Load.pure _ | exact Area.pure _ | exact pure_sl | exact dvs_pure _)) (c16) ?_ | refine DOps.call1 rfl rfl rfl rfl rfl Try.func17 rfl (by kernel_rfl) rfl (by repeat (first | exact pures_nil | refine pures_cons ?_ ?_ | exact pure_sc | exact arr_pure _ | exact Load.pure _ | exact Area.pure _ | exact pure_sl | exact dvs_pure _)) (c17) ?_)
  · exact endQ.ret rfl (.cons (.tmp rfl) .nil) (pures_cons pure_sc pures_nil) rfl
  · refine DCode.draw 58 (by kernel_rfl) (by kernel_rfl) ?_
    repeat (first | first | refine DDr.val rfl rfl rfl (OpVal.move rfl rfl) ?_ | refine DDr.val rfl rfl rfl (OpVal.moveT rfl rfl) ?_ | refine DDr.val rfl rfl rfl (OpVal.assign rfl rfl) ?_ | refine DDr.off rfl rfl rfl ?_ | refine DDr.val rfl rfl rfl (OpVal.add rfl rfl rfl (by omega) (by omega)) ?_ | refine DDr.val rfl rfl rfl (OpVal.sub rfl rfl rfl (by omega) (by omega)) ?_ | refine DDr.val rfl rfl rfl (OpVal.neg64 rfl rfl (by omega) (by omega)) ?_ | refine DDr.val rfl rfl rfl (OpVal.arith rfl rfl rfl rfl) ?_ | refine DDr.val rfl rfl rfl (OpVal.pickT rfl rfl rfl) ?_ | refine DDr.val rfl rfl rfl (OpVal.pickF rfl rfl rfl) ?_ | refine DDr.val rfl rfl rfl (OpVal.notB rfl rfl) ?_ | refine DDr.val rfl rfl rfl (OpVal.extract rfl rfl rfl) ?_ | refine DDr.val rfl rfl rfl (OpVal.fa tt_ok rfl rfl rfl rfl rfl rfl) ?_ | refine DDr.val rfl rfl rfl (OpVal.faD tt_ok rfl rfl rfl rfl rfl rfl) ?_ | refine DDr.val rfl rfl rfl (OpVal.load1 tt_ok rfl rfl rfl rfl rfl rfl) ?_ | refine DDr.val rfl rfl rfl (OpVal.lenD tt_ok rfl rfl rfl rfl rfl rfl rfl) ?_ | refine DDr.val rfl rfl rfl (OpVal.iaA tt_ok rfl rfl rfl rfl rfl (by omega) (by omega)) ?_ | refine DDr.val rfl rfl rfl (OpVal.iaD tt_ok rfl rfl rfl rfl rfl rfl (by omega) (by omega)) ?_ | refine DDr.val rfl rfl rfl (OpVal.iaDA tt_ok rfl rfl rfl rfl rfl (by omega) (by omega)) ?_ | refine DDr.val rfl rfl rfl (OpVal.nilCheckP rfl rfl) ?_ | refine DDr.val rfl rfl rfl (OpVal.nilCheckD rfl rfl) ?_ | refine DDr.val rfl rfl rfl (OpVal.buildS tt_ok rfl rfl rfl rfl rfl rfl rfl rfl) ?_ | refine DDr.val rfl rfl rfl (OpVal.buildA tt_ok rfl rfl rfl rfl rfl rfl rfl rfl) ?_ | refine DDr.val (r := .v (arr left)) rfl rfl rfl (OpVal.cast (OpVal.loadN tt_ok rfl rfl rfl rfl rfl (by show 0 + 2 + 10 ≤ (pageC p n left).length; rw [page_length _ _ _ h10]; decide)) (congrArg (fun z => SV.v (.agg z)) (page_left _ _ _ h10))) ?_ | refine DDr.val (r := .v a.tv) rfl rfl rfl (OpVal.cast (OpVal.load tt_ok rfl rfl rfl rfl rfl rfl) rfl) ?_ | refine DDr.val rfl rfl rfl (OpVal.load tt_ok rfl rfl rfl rfl rfl (leafC_length _ hten)) ?_ | refine DDr.call rfl rfl rfl rfl rfl Try.func15 rfl (by kernel_rfl) rfl (by repeat (first | exact pures_nil | refine pures_cons ?_ ?_ | exact pure_sc | exact arr_pure _ | exact Load.pure _ | exact Area.pure _ | exact pure_sl | exact dvs_pure _)) (fixed_d) ?_ | refine DDr.call rfl rfl rfl rfl rfl Try.func18 rfl (by kernel_rfl) rfl (by repeat (first | exact pures_nil | refine pures_cons ?_ ?_ | exact pure_sc | exact arr_pure _ | exact Load.pure _ | exact Area.pure _ | exact pure_sl | exact dvs_pure _)) (c18) ?_ | refine DDr.call rfl rfl rfl rfl rfl Try.func19 rfl (by kernel_rfl) rfl (by repeat (first | exact pures_nil | refine pures_cons ?_ ?_ | exact pure_sc | exact arr_pure _ | exact Load.pure _ | exact Area.pure _ | exact pure_sl | exact dvs_pure _)) (c19) ?_ | refine DDr.call rfl rfl rfl rfl rfl Try.func20 rfl (by kernel_rfl) rfl (by repeat (first | exact pures_nil | refine pures_cons ?_ ?_ | exact pure_sc | exact arr_pure _ | exact Load.pure _ | exact Area.pure _ | exact pure_sl | exact dvs_pure _)) (c20) ?_ | refine DDr.call rfl rfl rfl rfl rfl Try.func21 rfl (by kernel_rfl) rfl (by repeat (first | exact pures_nil | refine pures_cons ?_ ?_ | exact pure_sc | exact arr_pure _ | exact Load.pure _ | exact Area.pure _ | exact pure_sl | exact dvs_pure _)) (c21) ?_ | refine DDr.call rfl rfl rfl rfl rfl Try.func22 rfl (by kernel_rfl) rfl (by repeat (first | exact pures_nil | refine pures_cons ?_ ?_ | exact pure_sc | exact arr_pure _ | exact Load.pure _ | exact Area.pure _ | exact pure_sl | exact dvs_pure _)) (c22) ?_ | refine DDr.call rfl rfl rfl rfl rfl Try.func23 rfl (by kernel_rfl) rfl (by repeat (first | exact pures_nil | refine pures_cons ?_ ?_ | exact pure_sc | exact arr_pure _ | exact Load.pure _ | exact Area.pure _ | exact pure_sl | exact dvs_pure _)) (c23) ?_ | refine DDr.val (r := vB true) rfl rfl rfl (OpVal.cast (OpVal.eqlBB tt_ok rfl rfl rfl rfl) (by simp)) ?_ | refine DDr.val (r := vB true) rfl rfl rfl (OpVal.cast (OpVal.eqlI rfl rfl rfl) (by simp)) ?_ | refine DDr.val rfl rfl rfl (OpVal.eqlA (xs := leafC t.1) (ys := leafC t.1) rfl rfl rfl (by kernel_rfl) (leaf_eqv_self _ hten)) ?_)
    refine DDr.done ?_
    repeat (first | first | refine q_seq ?_ | refine q_seqX ?_ | refine q_seqR ?_ | refine q_then ?_ | refine q_thenX ?_ | refine q_thenR ?_ | refine q_block ?_ | refine q_blockX ?_ | refine q_blockY rfl ?_ | refine q_blockR ?_ | refine DCode.seq ?_ | refine DCode.region ?_ | refine DCode.block ?_ | refine DCode.skip ?_ | refine DCode.exit ?_ | refine DCode.ret ?_ | refine DCode.condT rfl ?_ | refine DCode.condF rfl ?_ | refine DCode.condD rfl (fun _ => ?_) (fun _ => ?_) | first | refine DOps.nil ?_ | refine DOps.val rfl rfl rfl (OpVal.move rfl rfl) ?_ | refine DOps.val rfl rfl rfl (OpVal.moveT rfl rfl) ?_ | refine DOps.val rfl rfl rfl (OpVal.assign rfl rfl) ?_ | refine DOps.off rfl rfl rfl ?_ | refine DOps.cmpT rfl rfl rfl rfl rfl rfl rfl (by omega) ?_ | refine DOps.cmpF rfl rfl rfl rfl rfl rfl rfl (by omega) ?_ | refine DOps.val rfl rfl rfl (OpVal.add rfl rfl rfl (by omega) (by omega)) ?_ | refine DOps.val rfl rfl rfl (OpVal.sub rfl rfl rfl (by omega) (by omega)) ?_ | refine DOps.val rfl rfl rfl (OpVal.neg64 rfl rfl (by omega) (by omega)) ?_ | refine DOps.val rfl rfl rfl (OpVal.arith rfl rfl rfl rfl) ?_ | refine DOps.val rfl rfl rfl (OpVal.pickT rfl rfl rfl) ?_ | refine DOps.val rfl rfl rfl (OpVal.pickF rfl rfl rfl) ?_ | refine DOps.val rfl rfl rfl (OpVal.notB rfl rfl) ?_ | refine DOps.val rfl rfl rfl (OpVal.extract rfl rfl rfl) ?_ | refine DOps.val rfl rfl rfl (OpVal.fa tt_ok rfl rfl rfl rfl rfl rfl) ?_ | refine DOps.val rfl rfl rfl (OpVal.faD tt_ok rfl rfl rfl rfl rfl rfl) ?_ | refine DOps.val rfl rfl rfl (OpVal.load1 tt_ok rfl rfl rfl rfl rfl rfl) ?_ | refine DOps.val rfl rfl rfl (OpVal.lenD tt_ok rfl rfl rfl rfl rfl rfl rfl) ?_ | refine DOps.val rfl rfl rfl (OpVal.iaA tt_ok rfl rfl rfl rfl rfl (by omega) (by omega)) ?_ | refine DOps.val rfl rfl rfl (OpVal.iaD tt_ok rfl rfl rfl rfl rfl rfl (by omega) (by omega)) ?_ | refine DOps.val rfl rfl rfl (OpVal.iaDA tt_ok rfl rfl rfl rfl rfl (by omega) (by omega)) ?_ | refine DOps.val rfl rfl rfl (OpVal.nilCheckP rfl rfl) ?_ | refine DOps.val rfl rfl rfl (OpVal.nilCheckD rfl rfl) ?_ | refine DOps.val rfl rfl rfl (OpVal.buildS tt_ok rfl rfl rfl rfl rfl rfl rfl rfl) ?_ | refine DOps.val rfl rfl rfl (OpVal.buildA tt_ok rfl rfl rfl rfl rfl rfl rfl rfl) ?_ | refine DOps.boxS rfl rfl rfl rfl rfl rfl ?_ | refine DOps.alS tt_ok rfl rfl rfl rfl rfl rfl rfl ?_ | refine DOps.store tt_ok rfl rfl rfl rfl rfl rfl rfl rfl (Nat.le_of_ble_eq_true rfl) rfl ?_ | refine DOps.cmp rfl rfl rfl rfl rfl rfl rfl (fun _ => ?_) (fun _ => ?_))
    exact endQ.ret rfl (.cons (.tmp rfl) .nil) (pures_cons pure_sc pures_nil) rfl
end Go.Proofs.Ytgjamldcglebjaa
