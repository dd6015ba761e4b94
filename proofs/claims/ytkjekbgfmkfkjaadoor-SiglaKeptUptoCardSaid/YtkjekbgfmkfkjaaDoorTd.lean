/- law13: what the document fixes: the walk. -/
import Derived.Test.YtkjekbgfmkfkjaaDoorTb
import Derived.Test.YtkjekbgfmkfkjaaDoorSy
namespace Go.Proofs.YtkjekbgfmkfkjaaDoor
open Go Go.RowKit Go.Proofs.YtkjekbgfmkfkjaaDoor.DL
set_option linter.constructorNameAsVariable false
set_option linter.unusedVariables false
set_option linter.unusedSimpArgs false
attribute [local irreducible] DCode DOps OpVal DCalls DCallsM DCallsB DCallsR thenQ seqQ inBlockQ endQ endQM OpNew DCf

theorem fault_eq (a b c d : Int) : EqV Tryd.prog 9 27 (.agg [.d (di a), .d (di b)]) (.agg [.d (di c), .d (di d)]) (decide (a = c) && decide (b = d)) := by
  have h : EqV Tryd.prog 1 27 (.agg [.d (di a), .d (di b)]) (.agg [.d (di c), .d (di d)]) (decide (a = c) && (decide (b = d) && true)) := by
    refine EqV.struct tt_ok rfl (by kernel_rfl) ?_
    refine ⟨_, _, _, _, _, by decide, rfl, ⟨_, rfl, rfl⟩, ⟨_, rfl, rfl⟩, EqV.int tt_ok rfl, ?_, rfl⟩
    exact ⟨_, _, _, _, _, by decide, rfl, ⟨_, rfl, rfl⟩, ⟨_, rfl, rfl⟩, EqV.int tt_ok rfl, rfl, rfl⟩
  rw [Bool.and_true] at h
  exact EqV.le (by omega) h
theorem fault_same (a b : Int) : EqV Tryd.prog 9 27 (.agg [.d (di a), .d (di b)]) (.agg [.d (di a), .d (di b)]) true := by have := fault_eq a b a b; simpa using this

def fiveL : List Sg := [⟨[65], [97]⟩, ⟨[66], [98]⟩, ⟨[67], [99]⟩, ⟨[68], [100]⟩, ⟨[69], [101]⟩]
theorem five_may : mayT fiveL = true := by rfl
theorem bndG_may {t : List Sg} (h : mayT t = true) : bndG t 9223372036854775806 := fun i => by have := may_bnd h i; omega
set_option maxRecDepth 10000 in
set_option maxHeartbeats 8000000 in
theorem five_d : DCalls Tryd.prog 47 [] (fun ts => ts = [tG fiveL]) := by
  refine DCalls.enter tt_ok Tryd.func47 rfl Tryd.ntmps47 (by simp) pures_nil ?_
  repeat (first | first | refine q_seq ?_ | refine q_seqX ?_ | refine q_seqR ?_ | refine q_then ?_ | refine q_thenX ?_ | refine q_thenR ?_ | refine q_block ?_ | refine q_blockX ?_ | refine q_blockY rfl ?_ | refine q_blockR ?_ | refine DCode.seq ?_ | refine DCode.region ?_ | refine DCode.block ?_ | refine DCode.skip ?_ | refine DCode.exit ?_ | refine DCode.ret ?_ | refine DCode.condT rfl ?_ | refine DCode.condF rfl ?_ | refine DCode.condD rfl (fun _ => ?_) (fun _ => ?_) | (refine DOps.k 28 rfl ?_; refine DOps.new (r := .v (tG fiveL)) rfl rfl rfl (OpNew.bsl tt_ok (fiveL.flatMap Sg.dv) _ rfl rfl rfl rfl rfl rfl rfl rfl rfl rfl (flat_x (k := 2) _ (fun _ => rfl) fiveL)) ?_) | first | refine DOps.nil ?_ | refine DOps.off rfl rfl rfl ?_ | (refine DOps.valK 1 rfl rfl rfl rfl ?_; first | refine ⟨_, (OpVal.assign rfl rfl), ?_⟩) | (refine DOps.valK 25 rfl rfl rfl rfl ?_; first | refine ⟨_, (OpVal.buildS tt_ok rfl rfl rfl rfl rfl rfl rfl rfl), ?_⟩ | refine ⟨_, (OpVal.buildA tt_ok rfl rfl rfl rfl rfl rfl rfl rfl), ?_⟩))
  exact endQ.ret rfl (.cons (.tmp rfl) .nil) (pures_cons trivial pures_nil) rfl
abbrev kBACE : List (List UInt8) := [[66], [65], [67], [69]]
abbrev kAB : List (List UInt8) := [[65], [66]]
abbrev kABCE : List (List UInt8) := [[65], [66], [67], [69]]
abbrev sACE : List UInt8 := [65, 46, 46, 67, 32, 69]
abbrev sAX : List UInt8 := [65, 32, 88]
abbrev sFive : List UInt8 := [65, 32, 97, 10, 66, 32, 98, 10, 67, 32, 99, 10, 68, 32, 100, 10, 69, 32, 101, 10]
theorem fx1 : compactT fiveL kBACE = (sACE, 0, 0) := by rfl
theorem fx2 : compactT fiveL kAB = ([65, 32, 66], 0, 0) := by rfl
theorem fx3 : expandT fiveL sACE = (kABCE, 0, 0) := by rfl
theorem fx4 : expandT fiveL sAX = ([], 133, 1) := by rfl
theorem fx5 : parseT sFive = (fiveL, 0, 0) := by rfl
set_option maxRecDepth 10000 in
set_option maxHeartbeats 8000000 in
theorem fixed_d : DCalls Tryd.prog 14 [] (fun ts => ts = [bt true]) := by
  have hb := bndG_may five_may
  have hl : fiveL.length ≤ 9223372036854775806 := by decide
  have c5 := five_d
  have c1 := compact_d fiveL kBACE hl hb (by decide)
  have c2 := compact_d fiveL kAB hl hb (by decide)
  have c3 := expand_d fiveL sACE hl hb (by decide)
  have c4 := expand_d fiveL sAX hl hb (by decide)
  have c6 := parse_d sFive (by decide)
  have c7 := texts_d kABCE kABCE (by decide) (by decide)
  have c8 := same_d fiveL fiveL hl hl
  have c9 := may_d fiveL hl hb
  rw [fx1] at c1
  rw [fx2] at c2
  rw [fx3] at c3
  rw [fx4] at c4
  rw [fx5] at c6
  rw [five_may] at c9
  dsimp only at c1 c2 c3 c4 c6
  rw [decide_eq_true rfl] at c7 c8
  refine DCalls.enter tt_ok Tryd.func14 rfl Tryd.ntmps14 (by simp) pures_nil ?_
  repeat (first | first | refine q_seq ?_ | refine q_seqX ?_ | refine q_seqR ?_ | refine q_then ?_ | refine q_thenX ?_ | refine q_thenR ?_ | refine q_block ?_ | refine q_blockX ?_ | refine q_blockY rfl ?_ | refine q_blockR ?_ | refine DCode.seq ?_ | refine DCode.region ?_ | refine DCode.block ?_ | refine DCode.skip ?_ | refine DCode.exit ?_ | refine DCode.ret ?_ | refine DCode.condT rfl ?_ | refine DCode.condF rfl ?_ | refine DCode.condD rfl (fun _ => ?_) (fun _ => ?_) | refine DOps.call1 (ts := []) rfl rfl rfl rfl rfl Tryd.func47 rfl (by kernel_rfl) rfl (by repeat (first | exact pures_nil | refine pures_cons ?_ ?_ | exact trivial | exact pure_aggB rfl | exact arr_pure _ | exact Load.pure _ | exact Area.pure _ | exact dvs_pure _ | exact pure_sc | exact pure_sl)) (c5) ?_ | refine DOps.call1 (ts := [tG fiveL, tL kBACE]) rfl rfl rfl rfl rfl Tryd.func15 rfl (by kernel_rfl) rfl (by repeat (first | exact pures_nil | refine pures_cons ?_ ?_ | exact trivial | exact pure_aggB rfl | exact arr_pure _ | exact Load.pure _ | exact Area.pure _ | exact dvs_pure _ | exact pure_sc | exact pure_sl)) (c1) ?_ | refine DOps.call1 (ts := [tG fiveL, tL kAB]) rfl rfl rfl rfl rfl Tryd.func15 rfl (by kernel_rfl) rfl (by repeat (first | exact pures_nil | refine pures_cons ?_ ?_ | exact trivial | exact pure_aggB rfl | exact arr_pure _ | exact Load.pure _ | exact Area.pure _ | exact dvs_pure _ | exact pure_sc | exact pure_sl)) (c2) ?_ | refine DOps.call1 (ts := [tG fiveL, tT sACE]) rfl rfl rfl rfl rfl Tryd.func17 rfl (by kernel_rfl) rfl (by repeat (first | exact pures_nil | refine pures_cons ?_ ?_ | exact trivial | exact pure_aggB rfl | exact arr_pure _ | exact Load.pure _ | exact Area.pure _ | exact dvs_pure _ | exact pure_sc | exact pure_sl)) (c3) ?_ | refine DOps.call1 (ts := [tG fiveL, tT sAX]) rfl rfl rfl rfl rfl Tryd.func17 rfl (by kernel_rfl) rfl (by repeat (first | exact pures_nil | refine pures_cons ?_ ?_ | exact trivial | exact pure_aggB rfl | exact arr_pure _ | exact Load.pure _ | exact Area.pure _ | exact dvs_pure _ | exact pure_sc | exact pure_sl)) (c4) ?_ | refine DOps.call1 (ts := [tT sFive]) rfl rfl rfl rfl rfl Tryd.func22 rfl (by kernel_rfl) rfl (by repeat (first | exact pures_nil | refine pures_cons ?_ ?_ | exact trivial | exact pure_aggB rfl | exact arr_pure _ | exact Load.pure _ | exact Area.pure _ | exact dvs_pure _ | exact pure_sc | exact pure_sl)) (c6) ?_ | refine DOps.call1 (ts := [tL kABCE, tL kABCE]) rfl rfl rfl rfl rfl Tryd.func19 rfl (by kernel_rfl) rfl (by repeat (first | exact pures_nil | refine pures_cons ?_ ?_ | exact trivial | exact pure_aggB rfl | exact arr_pure _ | exact Load.pure _ | exact Area.pure _ | exact dvs_pure _ | exact pure_sc | exact pure_sl)) (c7) ?_ | refine DOps.call1 (ts := [tG fiveL, tG fiveL]) rfl rfl rfl rfl rfl Tryd.func23 rfl (by kernel_rfl) rfl (by repeat (first | exact pures_nil | refine pures_cons ?_ ?_ | exact trivial | exact pure_aggB rfl | exact arr_pure _ | exact Load.pure _ | exact Area.pure _ | exact dvs_pure _ | exact pure_sc | exact pure_sl)) (c8) ?_ | refine DOps.call1 (ts := [tG fiveL]) rfl rfl rfl rfl rfl Tryd.func24 rfl (by kernel_rfl) rfl (by repeat (first | exact pures_nil | refine pures_cons ?_ ?_ | exact trivial | exact pure_aggB rfl | exact arr_pure _ | exact Load.pure _ | exact Area.pure _ | exact dvs_pure _ | exact pure_sc | exact pure_sl)) (c9) ?_ | (refine DOps.k 28 rfl ?_; first | refine DOps.new (r := .v (tL kBACE)) rfl rfl rfl (OpNew.bsl tt_ok (kBACE.map dS) _ rfl rfl rfl rfl rfl rfl rfl rfl rfl rfl (strs_flat kBACE)) ?_ | refine DOps.new (r := .v (tL kABCE)) rfl rfl rfl (OpNew.bsl tt_ok (kABCE.map dS) _ rfl rfl rfl rfl rfl rfl rfl rfl rfl rfl (strs_flat kABCE)) ?_ | refine DOps.new (r := .v (tL kAB)) rfl rfl rfl (OpNew.bsl tt_ok (kAB.map dS) _ rfl rfl rfl rfl rfl rfl rfl rfl rfl rfl (strs_flat kAB)) ?_) | (refine DOps.valK 12 rfl rfl rfl rfl ?_; refine ⟨_, OpVal.eqlST rfl rfl rfl rfl, ?_⟩) | (refine DOps.valK 12 rfl rfl rfl rfl ?_; refine ⟨_, OpVal.eqlA rfl rfl rfl (by kernel_rfl) (fault_same 133 1), ?_⟩) | (refine DOps.valK 3 rfl rfl rfl rfl ?_; refine ⟨_, OpVal.load tt_ok rfl rfl rfl rfl rfl rfl, ?_⟩) | first | refine DOps.nil ?_ | refine DOps.off rfl rfl rfl ?_ | (refine DOps.valK 0 rfl rfl rfl rfl ?_; first | refine ⟨_, (OpVal.move rfl rfl), ?_⟩ | refine ⟨_, (OpVal.moveT rfl rfl), ?_⟩) | (refine DOps.valK 1 rfl rfl rfl rfl ?_; first | refine ⟨_, (OpVal.assign rfl rfl), ?_⟩) | (refine DOps.valK 3 rfl rfl rfl rfl ?_; first | refine ⟨_, (OpVal.ldS tt_ok rfl rfl rfl rfl (Int.toNat_natCast _)), ?_⟩ | refine ⟨_, (OpVal.load1 tt_ok rfl rfl rfl rfl rfl rfl), ?_⟩) | (refine DOps.valK 23 rfl rfl rfl rfl ?_; first | refine ⟨_, (OpVal.extract rfl rfl rfl), ?_⟩) | (refine DOps.valK 18 rfl rfl rfl rfl ?_; first | refine ⟨_, (OpVal.fa tt_ok rfl rfl rfl rfl rfl rfl), ?_⟩ | refine ⟨_, (OpVal.faD tt_ok rfl rfl rfl rfl rfl rfl), ?_⟩) | (refine DOps.valK 12 rfl rfl rfl rfl ?_; first | refine ⟨_, (OpVal.eqlST rfl rfl rfl (by first | assumption | with_reducible rfl)), ?_⟩ | refine ⟨_, (OpVal.eqlSF rfl rfl rfl (by first | assumption | with_reducible rfl)), ?_⟩) | (refine DOps.valK 2 rfl rfl rfl rfl ?_; first | refine ⟨_, (OpVal.pickT rfl rfl rfl), ?_⟩ | refine ⟨_, (OpVal.pickF rfl rfl rfl), ?_⟩) | (refine DOps.valK 25 rfl rfl rfl rfl ?_; first | refine ⟨_, (OpVal.buildS tt_ok rfl rfl rfl rfl rfl rfl rfl rfl), ?_⟩ | refine ⟨_, (OpVal.buildA tt_ok rfl rfl rfl rfl rfl rfl rfl rfl), ?_⟩) | (refine DOps.k 12 rfl ?_; first | refine DOps.cmpT rfl rfl rfl rfl rfl rfl rfl (by omega) ?_ | refine DOps.cmpF rfl rfl rfl rfl rfl rfl rfl (by omega) ?_) | (refine DOps.k 29 rfl ?_; refine DOps.alS tt_ok rfl rfl rfl rfl rfl rfl rfl ?_) | (refine DOps.k 31 rfl ?_; refine DOps.store tt_ok rfl rfl rfl rfl rfl rfl rfl rfl (Nat.le_of_ble_eq_true rfl) rfl ?_))
  exact endQ.ret rfl (.cons (.tmp rfl) .nil) (pures_cons trivial pures_nil) rfl
theorem parse_go_many : ∀ (L : List (List UInt8)) (i : Nat) (out : List Sg), (parseGo L i out).1.length ≤ out.length + L.length
  | [], _, _ => by simp [parseGo]
  | [l], i, out => by rw [parseGo]; split <;> simp
  | l :: l2 :: r, i, out => by
    rw [parseGo]
    split
    · simp
    · split
      · simp
      · split
        · simp
        · rename_i x _ _ _
          have := parse_go_many (l2 :: r) (i + 1) (out ++ [x])
          simp only [List.length_append, List.length_cons, List.length_nil] at this ⊢
          omega
theorem parse_go_cases : ∀ (L : List (List UInt8)) (i : Nat) (out : List Sg), L ≠ [] → mayT out = true → (parseGo L i out).1 = [] ∨ mayT (parseGo L i out).1 = true
  | [], _, _, h, _ => absurd rfl h
  | [l], i, out, _, hm => by
    rw [parseGo]
    split
    · exact .inr hm
    · exact .inl rfl
  | l :: l2 :: r, i, out, _, hm => by
    rw [parseGo]
    split
    · exact .inl rfl
    · rename_i x hx
      obtain ⟨e1, e2, e3⟩ := lineOf_some hx
      split
      · exact .inl rfl
      · split
        · exact .inl rfl
        · exact parse_go_cases (l2 :: r) (i + 1) (out ++ [x]) (by simp) (may_snoc hm e2 e3 (by omega) (by omega))
theorem parse_cases (s : List UInt8) : (parseT s).1 = [] ∨ mayT (parseT s).1 = true := parse_go_cases _ _ _ (spl_ne 10 s) may_nil
theorem parse_many (s : List UInt8) : (parseT s).1.length ≤ s.length + 1 := by
  have h := parse_go_many (spl 10 s) 0 []
  have h2 := (spl_len (c := 10) s).1
  simp only [List.length_nil, Nat.zero_add] at h
  exact Nat.le_trans h h2
end Go.Proofs.YtkjekbgfmkfkjaaDoor
