/- law25: a page file parsed: the walk. -/
import Derived.Test.YtejdeonbibbchaaGreatDoorHf
set_option linter.unusedVariables false
set_option linter.unusedSimpArgs false
set_option linter.constructorNameAsVariable false
namespace Go.Proofs.YtejdeonbibbchaaGreatDoor
open Go Go.RowKit Go.Proofs.YtejdeonbibbchaaGreatDoor.DL
set_option linter.unusedVariables false
set_option linter.unusedSimpArgs false
attribute [local irreducible] DCode DOps OpVal DCalls DCallsM DCallsB DCallsR thenQ seqQ inBlockQ endQ endQM OpNew DCf DDr

theorem numsOf_len : ∀ {W : List (List UInt8)} {n : List Int}, numsOf W = some n → n.length = W.length := fun h => by
  rw [(numsOf_some h).1, List.length_map]
theorem readW_len {L : List (List UInt8)} {w : List UInt8} {m : Nat} {n : List Int} (h : readW L w m = some n) : n.length = m := by
  rw [readW] at h
  by_cases hb : L.length < m + 1 ∨ L.getD 0 [] ≠ w
  · rw [if_pos hb] at h; cases h
  · rw [if_neg hb] at h
    rw [numsOf_len h, List.length_take, List.length_drop]
    have : ¬ L.length < m + 1 := fun q => hb (.inl q)
    omega
theorem headOf_bad {l : List UInt8} (h : (spl 32 l).length ≠ 4 ∨ readW (spl 32 l) pagesW 3 = none) : headOf l = none := by
  rw [headOf]
  by_cases h4 : (spl 32 l).length = 4
  · rcases h with h | h
    · exact absurd h4 h
    · rw [if_pos h4, h]
  · rw [if_neg h4]
theorem headOf_ok {l : List UInt8} {p q r : Int} (h4 : (spl 32 l).length = 4) (h : readW (spl 32 l) pagesW 3 = some [p, q, r]) : headOf l = some ⟨p, q, r, []⟩ := by
  rw [headOf, if_pos h4, h]; rfl
theorem boxOf_bad {l : List UInt8} (h : (spn 32 9 l).length ≠ 10 ∨ readW (spn 32 9 l) boxW 8 = none) : boxOf l = none := by
  rw [boxOf]
  by_cases h4 : (spn 32 9 l).length = 10
  · rcases h with h | h
    · exact absurd h4 h
    · rw [if_pos h4, h]
  · rw [if_neg h4]
theorem boxOf_ok {l : List UInt8} {n1 n2 n3 n4 n5 n6 n7 n8 : Int} (h4 : (spn 32 9 l).length = 10) (h : readW (spn 32 9 l) boxW 8 = some [n1, n2, n3, n4, n5, n6, n7, n8]) : boxOf l = some ⟨n1, n2, n3, n4, n5, n6, n7, n8, (spn 32 9 l).getD 9 []⟩ := by
  rw [boxOf, if_pos h4, h]; rfl
theorem parseL_one {l : List UInt8} : parseL [l] = (fl0, 250, 0) := rfl
theorem parseL_bad {l m : List UInt8} {r : List (List UInt8)} (h : headOf l = none) : parseL (l :: m :: r) = (fl0, 250, 0) := by rw [parseL, h]
theorem parseL_ok {l m : List UInt8} {r : List (List UInt8)} {g : Fl} (h : headOf l = some g) : parseL (l :: m :: r) = linesGo g (m :: r) 1 [] := by rw [parseL, h]
theorem getD_len {L : List (List UInt8)} {n : Nat} (h : ∀ a ∈ L, a.length ≤ n) (i : Nat) : (L.getD i []).length ≤ n := by
  rw [List.getD_eq_getElem?_getD]
  cases e : L[i]? with
  | none => simp
  | some x => exact h x (List.mem_of_getElem? e)
theorem drop_getD {L : List (List UInt8)} {i : Nat} (hi : i < L.length) : L.drop i = L.getD i [] :: L.drop (i + 1) := by
  rw [List.drop_eq_getElem_cons hi, List.getD_eq_getElem?_getD, List.getElem?_eq_getElem hi]
  rfl
theorem spl_no (c : UInt8) (s : List UInt8) (i : Nat) : c ∉ (spl c s).getD i [] := by
  rw [List.getD_eq_getElem?_getD]
  cases e : (spl c s)[i]? with
  | none => simp
  | some x => exact spl_mem x (List.mem_of_getElem? e)
theorem dropA (A : List (List UInt8)) (h : 1 ≤ A.length) : DEq (.sl (A.length - 1) 1 fun p q => elS A (1 + p) q) (lS (A.drop 1)) := by
  have : (A.drop 1).length = A.length - 1 := by rw [List.length_drop]
  rw [lS, this]
  refine DEq.sl fun p q hp hq => ?_
  rw [elS, elS]
  have e : (A.drop 1).getD p [] = A.getD (1 + p) [] := by
    rw [List.getD_eq_getElem?_getD, List.getD_eq_getElem?_getD, List.getElem?_drop]
  rw [e]
theorem bndB_of {L : List Bx} {n : Nat} (h : ∀ b ∈ L, b.text.length ≤ n) : bndB L n := fun i => by
  by_cases hi : i < L.length
  · exact h _ (getD_memB hi)
  · rw [List.getD_eq_getElem?_getD, List.getElem?_eq_none (by omega)]; simp
theorem rowOkB {t k n : Nat} {v : Value} {ds : List DV} {fz : Bool} {M : Mem} : (Blk.row t k n v (ds.map .d) fz).ok M := fun c hc => CV.pure_ok (pure_ds ds c hc)
abbrev boxR (p q r : Int) (v : Value) : Blk := .box 24 [.d (di p), .d (di q), .d (di r), .row 900 v]
theorem boxR_ok {p q r : Int} {v : Value} {M : Mem} : (boxR p q r v).ok M := fun c hc => by
  simp only [List.mem_cons, List.mem_nil_iff, or_false] at hc
  rcases hc with rfl | rfl | rfl | rfl <;> trivial

set_option maxRecDepth 10000 in
set_option maxHeartbeats 8000000 in
theorem parse_d (s : List UInt8) (hs : s.length ≤ 4294967000) : DCalls Tryz.prog 5 [tT s] (fun ts => ts = [(parseF s).1.tv, tFa (parseF s).2.1 (parseF s).2.2]) := by
  have csa := splitAfter_d s (by omega)
  rw [splitAL_aft] at csa
  have hL := spl_len (c := 10) s
  have hL0 := spl_ne 10 s
  have hno := spl_no 10 s
  have hp0 : parseF s = parseL (spl 10 s) := rfl
  generalize parseF s = R at *
  generalize spl 10 s = L at *
  have hA := aft_len 10 L
  have hAg := aft_get 10 L
  generalize hAe : aft 10 L = A at *
  have hLp : 0 < L.length := List.length_pos_iff.2 hL0
  have hld0 : ∀ (k : Nat), k = 0 → elS A k 0 = dS (A.getD 0 []) := fun k e => by rw [e, elS]
  have hll := getD_len hL.2
  have hA0 := hAg 0 hLp
  have cc0 := cutSuffix_c (A.getD 0 []) [10] (by
    rw [hA0]
    have := hll 0
    split
    · rw [List.length_append]; show _ + 1 ≤ _; omega
    · omega)
  by_cases h1 : L.length = 1
  · -- one line: without its end
    rw [if_neg (by omega)] at hA0
    obtain ⟨e1, e2⟩ := suf_miss (hno 0)
    rw [← hA0] at e1 e2
    rw [e1, e2] at cc0
    have hR : R = (fl0, 250, 0) := by
      match L, h1 with
      | [l], _ => rw [hp0]; rfl
    rw [hR]
    generalize hhd : A.getD 0 [] = hd at *
    have hdl : hd.length ≤ s.length := by rw [hA0]; exact hll 0
    have csp := split_c hd [32] (by simp) (by omega)
    rw [splitL_spl] at csp
    have crd := read_d (spl 32 hd) pagesW 3 (fun a ha => Nat.le_trans ((spl_len (c := 32) hd).2 a ha) (by omega)) (Nat.le_trans (spl_len (c := 32) hd).1 (by omega)) (by decide)
    refine DCalls.enter tt_ok Tryz.func5 rfl Tryz.ntmps5 (by simp) (by repeat (first | exact pures_nil | refine pures_cons ?_ ?_ | exact trivial | exact pure_aggB rfl | exact arr_pure _ | exact Load.pure _ | exact Area.pure _ | exact dvs_pure _ | exact pure_sc | exact pure_sl)) ?_
    cases hr : readW (spl 32 hd) pagesW 3 with
    | none =>
      rw [hr] at crd
      repeat (first | refine q_seq ?_ | refine q_seqR ?_ | refine DCode.seq ?_ | refine DCode.region ?_ | refine DCode.ret ?_ | refine DCode.condT rfl ?_ | refine DOps.cellReE (b := 2) (i := 3) (dB []) rfl rfl (DEq.nil 9 _) rfl ?_ | refine DOps.call1 (ts := [tT s, tT [10]]) rfl rfl rfl rfl rfl Tryz.func15 rfl (by kernel_rfl) rfl (by repeat (first | exact pures_nil | refine pures_cons ?_ ?_ | exact trivial | exact pure_aggB rfl | exact arr_pure _ | exact Load.pure _ | exact Area.pure _ | exact dvs_pure _ | exact pure_sc | exact pure_sl)) (csa) ?_ | refine DOps.call1 (ts := [tT hd, tT [10]]) rfl rfl rfl rfl rfl Tryz.func16 rfl (by kernel_rfl) rfl (by repeat (first | exact pures_nil | refine pures_cons ?_ ?_ | exact trivial | exact pure_aggB rfl | exact arr_pure _ | exact Load.pure _ | exact Area.pure _ | exact dvs_pure _ | exact pure_sc | exact pure_sl)) (cc0) ?_ | refine DOps.call1 (ts := [tT hd, tT [32]]) rfl rfl rfl rfl rfl Tryz.func17 rfl (by kernel_rfl) rfl (by repeat (first | exact pures_nil | refine pures_cons ?_ ?_ | exact trivial | exact pure_aggB rfl | exact arr_pure _ | exact Load.pure _ | exact Area.pure _ | exact dvs_pure _ | exact pure_sc | exact pure_sl)) (csp) ?_ | refine DOps.call1 (ts := [tL (spl 32 hd), tT pagesW, it 3]) rfl rfl rfl rfl rfl Tryz.func18 rfl (by kernel_rfl) rfl (by repeat (first | exact pures_nil | refine pures_cons ?_ ?_ | exact trivial | exact pure_aggB rfl | exact arr_pure _ | exact Load.pure _ | exact Area.pure _ | exact dvs_pure _ | exact pure_sc | exact pure_sl)) (crd) ?_ | (refine DOps.valK 3 rfl rfl rfl rfl ?_; refine ⟨_, OpVal.ld (y := dS hd) tt_ok rfl rfl rfl rfl (by omega) (hld0 _ rfl), ?_⟩) | refine DOps.nil ?_ | refine DOps.off rfl rfl rfl ?_ | (refine DOps.valK 0 rfl rfl rfl rfl ?_; first | refine ⟨_, (OpVal.move rfl rfl), ?_⟩ | refine ⟨_, (OpVal.moveT rfl rfl), ?_⟩) | (refine DOps.valK 1 rfl rfl rfl rfl ?_; first | refine ⟨_, (OpVal.assign rfl rfl), ?_⟩) | (refine DOps.valK 23 rfl rfl rfl rfl ?_; first | refine ⟨_, (OpVal.extract rfl rfl rfl), ?_⟩) | (refine DOps.valK 19 rfl rfl rfl rfl ?_; first | refine ⟨_, (OpVal.iaD tt_ok rfl rfl rfl rfl rfl rfl (by omega) (by omega)), ?_⟩) | (refine DOps.valK 2 rfl rfl rfl rfl ?_; first | refine ⟨_, (OpVal.pickT rfl rfl rfl), ?_⟩) | (refine DOps.valK 25 rfl rfl rfl rfl ?_; first | refine ⟨_, (OpVal.buildS tt_ok rfl rfl rfl rfl rfl rfl rfl rfl), ?_⟩) | (refine DOps.valK 16 rfl rfl rfl rfl ?_; first | refine ⟨_, (OpVal.notB rfl rfl), ?_⟩) | (refine DOps.k 29 rfl ?_; refine DOps.alS tt_ok rfl rfl rfl rfl rfl rfl rfl ?_) | (refine DOps.k 31 rfl ?_; refine DOps.store tt_ok rfl rfl rfl rfl rfl rfl rfl rfl (Nat.le_of_ble_eq_true rfl) rfl ?_))
      exact endQ.ret rfl (.cons (.cell rfl rfl rfl rfl rfl) (.cons (.cell rfl rfl rfl rfl rfl) .nil)) (by exact pures_cons (pure_aggB rfl) (pures_cons (pure_aggB rfl) pures_nil)) rfl
    | some n =>
      rw [hr] at crd
      repeat (first | refine q_seq ?_ | refine q_seqR ?_ | refine DCode.seq ?_ | refine DCode.region ?_ | refine DCode.ret ?_ | refine DCode.condT rfl ?_ | refine DOps.cellReE (b := 2) (i := 3) (dB []) rfl rfl (DEq.nil 9 _) rfl ?_ | refine DOps.call1 (ts := [tT s, tT [10]]) rfl rfl rfl rfl rfl Tryz.func15 rfl (by kernel_rfl) rfl (by repeat (first | exact pures_nil | refine pures_cons ?_ ?_ | exact trivial | exact pure_aggB rfl | exact arr_pure _ | exact Load.pure _ | exact Area.pure _ | exact dvs_pure _ | exact pure_sc | exact pure_sl)) (csa) ?_ | refine DOps.call1 (ts := [tT hd, tT [10]]) rfl rfl rfl rfl rfl Tryz.func16 rfl (by kernel_rfl) rfl (by repeat (first | exact pures_nil | refine pures_cons ?_ ?_ | exact trivial | exact pure_aggB rfl | exact arr_pure _ | exact Load.pure _ | exact Area.pure _ | exact dvs_pure _ | exact pure_sc | exact pure_sl)) (cc0) ?_ | refine DOps.call1 (ts := [tT hd, tT [32]]) rfl rfl rfl rfl rfl Tryz.func17 rfl (by kernel_rfl) rfl (by repeat (first | exact pures_nil | refine pures_cons ?_ ?_ | exact trivial | exact pure_aggB rfl | exact arr_pure _ | exact Load.pure _ | exact Area.pure _ | exact dvs_pure _ | exact pure_sc | exact pure_sl)) (csp) ?_ | refine DOps.call1 (ts := [tL (spl 32 hd), tT pagesW, it 3]) rfl rfl rfl rfl rfl Tryz.func18 rfl (by kernel_rfl) rfl (by repeat (first | exact pures_nil | refine pures_cons ?_ ?_ | exact trivial | exact pure_aggB rfl | exact arr_pure _ | exact Load.pure _ | exact Area.pure _ | exact dvs_pure _ | exact pure_sc | exact pure_sl)) (crd) ?_ | (refine DOps.valK 3 rfl rfl rfl rfl ?_; refine ⟨_, OpVal.ld (y := dS hd) tt_ok rfl rfl rfl rfl (by omega) (hld0 _ rfl), ?_⟩) | refine DOps.nil ?_ | refine DOps.off rfl rfl rfl ?_ | (refine DOps.valK 0 rfl rfl rfl rfl ?_; first | refine ⟨_, (OpVal.move rfl rfl), ?_⟩ | refine ⟨_, (OpVal.moveT rfl rfl), ?_⟩) | (refine DOps.valK 1 rfl rfl rfl rfl ?_; first | refine ⟨_, (OpVal.assign rfl rfl), ?_⟩) | (refine DOps.valK 23 rfl rfl rfl rfl ?_; first | refine ⟨_, (OpVal.extract rfl rfl rfl), ?_⟩) | (refine DOps.valK 19 rfl rfl rfl rfl ?_; first | refine ⟨_, (OpVal.iaD tt_ok rfl rfl rfl rfl rfl rfl (by omega) (by omega)), ?_⟩) | (refine DOps.valK 2 rfl rfl rfl rfl ?_; first | refine ⟨_, (OpVal.pickT rfl rfl rfl), ?_⟩ | refine ⟨_, (OpVal.pickF rfl rfl rfl), ?_⟩) | (refine DOps.valK 25 rfl rfl rfl rfl ?_; first | refine ⟨_, (OpVal.buildS tt_ok rfl rfl rfl rfl rfl rfl rfl rfl), ?_⟩) | (refine DOps.valK 16 rfl rfl rfl rfl ?_; first | refine ⟨_, (OpVal.notB rfl rfl), ?_⟩) | (refine DOps.k 29 rfl ?_; refine DOps.alS tt_ok rfl rfl rfl rfl rfl rfl rfl ?_) | (refine DOps.k 31 rfl ?_; refine DOps.store tt_ok rfl rfl rfl rfl rfl rfl rfl rfl (Nat.le_of_ble_eq_true rfl) rfl ?_))
      exact endQ.ret rfl (.cons (.cell rfl rfl rfl rfl rfl) (.cons (.cell rfl rfl rfl rfl rfl) .nil)) (by exact pures_cons (pure_aggB rfl) (pures_cons (pure_aggB rfl) pures_nil)) rfl
  rw [if_pos (by omega)] at hA0
  obtain ⟨e1, e2⟩ := suf_hit (L.getD 0 [])
  rw [← hA0] at e1 e2
  rw [e1, e2] at cc0
  generalize A.getD 0 [] = a0 at *
  have hdl := hll 0
  obtain ⟨l0, l1, lr, hLe⟩ : ∃ l0 l1 lr, L = l0 :: l1 :: lr := by
    match L, h1, hLp with
    | l0 :: l1 :: lr, _, _ => exact ⟨l0, l1, lr, rfl⟩
    | [l], h, _ => exact absurd rfl h
  have hg0 : L.getD 0 [] = l0 := by rw [hLe]; rfl
  have hdrop : L.drop 1 = l1 :: lr := by rw [hLe]; rfl
  have hpb : headOf (L.getD 0 []) = none → R = (fl0, 250, 0) := fun h => by rw [hp0, hLe]; rw [hg0] at h; exact parseL_bad h
  have hpo : ∀ g, headOf (L.getD 0 []) = some g → R = linesGo g (L.drop 1) 1 [] := fun g h => by rw [hdrop, hp0, hLe]; rw [hg0] at h; exact parseL_ok h
  generalize hhd : L.getD 0 [] = hd at *
  have csp := split_c hd [32] (by simp) (by omega)
  rw [splitL_spl] at csp
  have crd := read_d (spl 32 hd) pagesW 3 (fun a ha => Nat.le_trans ((spl_len (c := 32) hd).2 a ha) (by omega)) (Nat.le_trans (spl_len (c := 32) hd).1 (by omega)) (by decide)
  have hsl := (spl_len (c := 32) hd).1
  refine DCalls.enter tt_ok Tryz.func5 rfl Tryz.ntmps5 (by simp) (by repeat (first | exact pures_nil | refine pures_cons ?_ ?_ | exact trivial | exact pure_aggB rfl | exact arr_pure _ | exact Load.pure _ | exact Area.pure _ | exact dvs_pure _ | exact pure_sc | exact pure_sl)) ?_
  cases hr : readW (spl 32 hd) pagesW 3 with
  | none =>
    rw [hr] at crd
    rw [hpb (headOf_bad (.inr hr))]
    repeat (first | refine q_seq ?_ | refine q_seqR ?_ | refine DCode.seq ?_ | refine DCode.region ?_ | refine DCode.ret ?_ | refine DCode.condT rfl ?_ | refine DOps.cellReE (b := 2) (i := 3) (dB []) rfl rfl (DEq.nil 9 _) rfl ?_ | refine DOps.call1 (ts := [tT s, tT [10]]) rfl rfl rfl rfl rfl Tryz.func15 rfl (by kernel_rfl) rfl (by repeat (first | exact pures_nil | refine pures_cons ?_ ?_ | exact trivial | exact pure_aggB rfl | exact arr_pure _ | exact Load.pure _ | exact Area.pure _ | exact dvs_pure _ | exact pure_sc | exact pure_sl)) (csa) ?_ | refine DOps.call1 (ts := [tT a0, tT [10]]) rfl rfl rfl rfl rfl Tryz.func16 rfl (by kernel_rfl) rfl (by repeat (first | exact pures_nil | refine pures_cons ?_ ?_ | exact trivial | exact pure_aggB rfl | exact arr_pure _ | exact Load.pure _ | exact Area.pure _ | exact dvs_pure _ | exact pure_sc | exact pure_sl)) (cc0) ?_ | refine DOps.call1 (ts := [tT hd, tT [32]]) rfl rfl rfl rfl rfl Tryz.func17 rfl (by kernel_rfl) rfl (by repeat (first | exact pures_nil | refine pures_cons ?_ ?_ | exact trivial | exact pure_aggB rfl | exact arr_pure _ | exact Load.pure _ | exact Area.pure _ | exact dvs_pure _ | exact pure_sc | exact pure_sl)) (csp) ?_ | refine DOps.call1 (ts := [tL (spl 32 hd), tT pagesW, it 3]) rfl rfl rfl rfl rfl Tryz.func18 rfl (by kernel_rfl) rfl (by repeat (first | exact pures_nil | refine pures_cons ?_ ?_ | exact trivial | exact pure_aggB rfl | exact arr_pure _ | exact Load.pure _ | exact Area.pure _ | exact dvs_pure _ | exact pure_sc | exact pure_sl)) (crd) ?_ | (refine DOps.valK 3 rfl rfl rfl rfl ?_; refine ⟨_, OpVal.ld (y := dS a0) tt_ok rfl rfl rfl rfl (by omega) (hld0 _ rfl), ?_⟩) | refine DOps.nil ?_ | refine DOps.off rfl rfl rfl ?_ | (refine DOps.valK 0 rfl rfl rfl rfl ?_; first | refine ⟨_, (OpVal.move rfl rfl), ?_⟩ | refine ⟨_, (OpVal.moveT rfl rfl), ?_⟩) | (refine DOps.valK 1 rfl rfl rfl rfl ?_; first | refine ⟨_, (OpVal.assign rfl rfl), ?_⟩) | (refine DOps.valK 23 rfl rfl rfl rfl ?_; first | refine ⟨_, (OpVal.extract rfl rfl rfl), ?_⟩) | (refine DOps.valK 19 rfl rfl rfl rfl ?_; first | refine ⟨_, (OpVal.iaD tt_ok rfl rfl rfl rfl rfl rfl (by omega) (by omega)), ?_⟩) | (refine DOps.valK 2 rfl rfl rfl rfl ?_; first | refine ⟨_, (OpVal.pickT rfl rfl rfl), ?_⟩) | (refine DOps.valK 25 rfl rfl rfl rfl ?_; first | refine ⟨_, (OpVal.buildS tt_ok rfl rfl rfl rfl rfl rfl rfl rfl), ?_⟩) | (refine DOps.valK 16 rfl rfl rfl rfl ?_; first | refine ⟨_, (OpVal.notB rfl rfl), ?_⟩) | (refine DOps.k 29 rfl ?_; refine DOps.alS tt_ok rfl rfl rfl rfl rfl rfl rfl ?_) | (refine DOps.k 31 rfl ?_; refine DOps.store tt_ok rfl rfl rfl rfl rfl rfl rfl rfl (Nat.le_of_ble_eq_true rfl) rfl ?_))
    exact endQ.ret rfl (.cons (.cell rfl rfl rfl rfl rfl) (.cons (.cell rfl rfl rfl rfl rfl) .nil)) (by exact pures_cons (pure_aggB rfl) (pures_cons (pure_aggB rfl) pures_nil)) rfl
  | some n =>
  by_cases h4 : (spl 32 hd).length = 4
  rotate_left
  · rw [hr] at crd
    rw [hpb (headOf_bad (.inl h4))]
    repeat (first | refine q_seq ?_ | refine q_seqR ?_ | refine DCode.seq ?_ | refine DCode.region ?_ | refine DCode.ret ?_ | refine DCode.condT rfl ?_ | refine DOps.cellReE (b := 2) (i := 3) (dB []) rfl rfl (DEq.nil 9 _) rfl ?_ | refine DOps.call1 (ts := [tT s, tT [10]]) rfl rfl rfl rfl rfl Tryz.func15 rfl (by kernel_rfl) rfl (by repeat (first | exact pures_nil | refine pures_cons ?_ ?_ | exact trivial | exact pure_aggB rfl | exact arr_pure _ | exact Load.pure _ | exact Area.pure _ | exact dvs_pure _ | exact pure_sc | exact pure_sl)) (csa) ?_ | refine DOps.call1 (ts := [tT a0, tT [10]]) rfl rfl rfl rfl rfl Tryz.func16 rfl (by kernel_rfl) rfl (by repeat (first | exact pures_nil | refine pures_cons ?_ ?_ | exact trivial | exact pure_aggB rfl | exact arr_pure _ | exact Load.pure _ | exact Area.pure _ | exact dvs_pure _ | exact pure_sc | exact pure_sl)) (cc0) ?_ | refine DOps.call1 (ts := [tT hd, tT [32]]) rfl rfl rfl rfl rfl Tryz.func17 rfl (by kernel_rfl) rfl (by repeat (first | exact pures_nil | refine pures_cons ?_ ?_ | exact trivial | exact pure_aggB rfl | exact arr_pure _ | exact Load.pure _ | exact Area.pure _ | exact dvs_pure _ | exact pure_sc | exact pure_sl)) (csp) ?_ | refine DOps.call1 (ts := [tL (spl 32 hd), tT pagesW, it 3]) rfl rfl rfl rfl rfl Tryz.func18 rfl (by kernel_rfl) rfl (by repeat (first | exact pures_nil | refine pures_cons ?_ ?_ | exact trivial | exact pure_aggB rfl | exact arr_pure _ | exact Load.pure _ | exact Area.pure _ | exact dvs_pure _ | exact pure_sc | exact pure_sl)) (crd) ?_ | (refine DOps.valK 3 rfl rfl rfl rfl ?_; refine ⟨_, OpVal.ld (y := dS a0) tt_ok rfl rfl rfl rfl (by omega) (hld0 _ rfl), ?_⟩) | refine DOps.nil ?_ | (refine DOps.valK 0 rfl rfl rfl rfl ?_; first | refine ⟨_, (OpVal.move rfl rfl), ?_⟩ | refine ⟨_, (OpVal.moveT rfl rfl), ?_⟩) | (refine DOps.valK 1 rfl rfl rfl rfl ?_; first | refine ⟨_, (OpVal.assign rfl rfl), ?_⟩) | (refine DOps.valK 23 rfl rfl rfl rfl ?_; first | refine ⟨_, (OpVal.extract rfl rfl rfl), ?_⟩) | (refine DOps.valK 19 rfl rfl rfl rfl ?_; first | refine ⟨_, (OpVal.iaD tt_ok rfl rfl rfl rfl rfl rfl (by omega) (by omega)), ?_⟩) | (refine DOps.valK 17 rfl rfl rfl rfl ?_; first | refine ⟨_, (OpVal.lenD tt_ok rfl rfl rfl rfl rfl rfl rfl), ?_⟩) | (refine DOps.valK 2 rfl rfl rfl rfl ?_; first | refine ⟨_, (OpVal.pickF rfl rfl rfl), ?_⟩) | (refine DOps.valK 25 rfl rfl rfl rfl ?_; first | refine ⟨_, (OpVal.buildS tt_ok rfl rfl rfl rfl rfl rfl rfl rfl), ?_⟩) | (refine DOps.valK 16 rfl rfl rfl rfl ?_; first | refine ⟨_, (OpVal.notB rfl rfl), ?_⟩) | (refine DOps.k 13 rfl ?_; first | refine DOps.cmpT rfl rfl rfl rfl rfl rfl rfl (by omega) ?_ | refine DOps.cmpF rfl rfl rfl rfl rfl rfl rfl (by omega) ?_) | (refine DOps.k 29 rfl ?_; refine DOps.alS tt_ok rfl rfl rfl rfl rfl rfl rfl ?_) | (refine DOps.k 31 rfl ?_; refine DOps.store tt_ok rfl rfl rfl rfl rfl rfl rfl rfl (Nat.le_of_ble_eq_true rfl) rfl ?_))
    exact endQ.ret rfl (.cons (.cell rfl rfl rfl rfl rfl) (.cons (.cell rfl rfl rfl rfl rfl) .nil)) (by exact pures_cons (pure_aggB rfl) (pures_cons (pure_aggB rfl) pures_nil)) rfl
  have hn3 := readW_len hr
  obtain ⟨p, q, r, rfl⟩ : ∃ p q r, n = [p, q, r] := by
    match n, hn3 with
    | [p, q, r], _ => exact ⟨p, q, r, rfl⟩
  have hh := hpo _ (headOf_ok h4 hr)
  rw [hr] at crd
  have crd : DCalls Tryz.prog 18 [tL (spl 32 hd), tT pagesW, it 3] (fun ts => ts = [tN [p, q, r], bt true]) := crd
  repeat (first | refine q_seq ?_ | refine DCode.seq ?_ | refine DCode.region ?_ | refine DCode.skip ?_ | refine DCode.condF rfl ?_ | refine DOps.call1 (ts := [tT s, tT [10]]) rfl rfl rfl rfl rfl Tryz.func15 rfl (by kernel_rfl) rfl (by repeat (first | exact pures_nil | refine pures_cons ?_ ?_ | exact trivial | exact pure_aggB rfl | exact arr_pure _ | exact Load.pure _ | exact Area.pure _ | exact dvs_pure _ | exact pure_sc | exact pure_sl)) (csa) ?_ | refine DOps.call1 (ts := [tT a0, tT [10]]) rfl rfl rfl rfl rfl Tryz.func16 rfl (by kernel_rfl) rfl (by repeat (first | exact pures_nil | refine pures_cons ?_ ?_ | exact trivial | exact pure_aggB rfl | exact arr_pure _ | exact Load.pure _ | exact Area.pure _ | exact dvs_pure _ | exact pure_sc | exact pure_sl)) (cc0) ?_ | refine DOps.call1 (ts := [tT hd, tT [32]]) rfl rfl rfl rfl rfl Tryz.func17 rfl (by kernel_rfl) rfl (by repeat (first | exact pures_nil | refine pures_cons ?_ ?_ | exact trivial | exact pure_aggB rfl | exact arr_pure _ | exact Load.pure _ | exact Area.pure _ | exact dvs_pure _ | exact pure_sc | exact pure_sl)) (csp) ?_ | refine DOps.call1 (ts := [tL (spl 32 hd), tT pagesW, it 3]) rfl rfl rfl rfl rfl Tryz.func18 rfl (by kernel_rfl) rfl (by repeat (first | exact pures_nil | refine pures_cons ?_ ?_ | exact trivial | exact pure_aggB rfl | exact arr_pure _ | exact Load.pure _ | exact Area.pure _ | exact dvs_pure _ | exact pure_sc | exact pure_sl)) (crd) ?_ | (refine DOps.valK 3 rfl rfl rfl rfl ?_; refine ⟨_, OpVal.ld (y := dS a0) tt_ok rfl rfl rfl rfl (by omega) (hld0 _ rfl), ?_⟩) | refine DOps.nil ?_ | (refine DOps.valK 0 rfl rfl rfl rfl ?_; first | refine ⟨_, (OpVal.move rfl rfl), ?_⟩ | refine ⟨_, (OpVal.moveT rfl rfl), ?_⟩) | (refine DOps.valK 1 rfl rfl rfl rfl ?_; first | refine ⟨_, (OpVal.assign rfl rfl), ?_⟩) | (refine DOps.valK 23 rfl rfl rfl rfl ?_; first | refine ⟨_, (OpVal.extract rfl rfl rfl), ?_⟩) | (refine DOps.valK 19 rfl rfl rfl rfl ?_; first | refine ⟨_, (OpVal.iaD tt_ok rfl rfl rfl rfl rfl rfl (by omega) (by omega)), ?_⟩) | (refine DOps.valK 17 rfl rfl rfl rfl ?_; first | refine ⟨_, (OpVal.lenD tt_ok rfl rfl rfl rfl rfl rfl rfl), ?_⟩) | (refine DOps.valK 2 rfl rfl rfl rfl ?_; first | refine ⟨_, (OpVal.pickF rfl rfl rfl), ?_⟩) | (refine DOps.valK 16 rfl rfl rfl rfl ?_; first | refine ⟨_, (OpVal.notB rfl rfl), ?_⟩) | (refine DOps.k 13 rfl ?_; first | refine DOps.cmpT rfl rfl rfl rfl rfl rfl rfl (by omega) ?_ | refine DOps.cmpF rfl rfl rfl rfl rfl rfl rfl (by omega) ?_) | (refine DOps.k 29 rfl ?_; refine DOps.alS tt_ok rfl rfl rfl rfl rfl rfl rfl ?_))
  (repeat refine DCode.seq ?_) <;> refine DCode.conf [(10, 10, 1), (11, 10, 0)] [([10], []), ([10], []), ([10], []), ([10], []), ([10], []), ([10], []), ([10], []), ([10], []), ([10], []), ([10], [])] (by kernel_rfl) (by kernel_rfl) ?_
  repeat (first | (refine DCf.valK 19 rfl rfl (fun _ => rfl) rfl rfl ?_; refine ⟨_, fun _ _ _ => OpVal.iaD tt_ok rfl rfl rfl rfl rfl rfl (by simp) (by simp), ?_⟩) | (refine DCf.valK 3 rfl rfl (fun _ => rfl) rfl rfl ?_; refine ⟨_, fun _ _ _ => OpVal.cast (OpVal.ldN (X := [p, q, r]) (m := 0) tt_ok rfl rfl rfl rfl rfl) rfl, ?_⟩) | (refine DCf.valK 3 rfl rfl (fun _ => rfl) rfl rfl ?_; refine ⟨_, fun _ _ _ => OpVal.cast (OpVal.ldN (X := [p, q, r]) (m := 1) tt_ok rfl rfl rfl rfl rfl) rfl, ?_⟩) | (refine DCf.valK 3 rfl rfl (fun _ => rfl) rfl rfl ?_; refine ⟨_, fun _ _ _ => OpVal.cast (OpVal.ldN (X := [p, q, r]) (m := 2) tt_ok rfl rfl rfl rfl rfl) rfl, ?_⟩) | (refine DCf.valK 0 rfl rfl (fun _ => rfl) rfl rfl ?_; first | refine ⟨_, fun _ _ _ => (OpVal.move rfl rfl), ?_⟩) | (refine DCf.valK 25 rfl rfl (fun _ => rfl) rfl rfl ?_; first | refine ⟨_, fun _ _ _ => (OpVal.buildS tt_ok rfl rfl rfl rfl rfl rfl rfl rfl), ?_⟩) | (refine DCf.k 31 rfl ?_; refine DCf.store tt_ok rfl rfl (fun _ => rfl) rfl (fun _ => rfl) (fun _ => rfl) rfl rfl (fun _ _ => rfl) rfl (Nat.le_of_ble_eq_true rfl) rfl ?_) | (refine DCf.k 29 rfl ?_; refine DCf.alS tt_ok rfl (fun _ => rfl) rfl rfl rfl rfl rfl rfl (fun _ _ => rfl) ?_))
  refine DCf.done ?_
  repeat (first | refine q_seq ?_ | refine DCode.seq ?_ | refine DCode.region ?_ | (refine DOps.valK 0 rfl rfl rfl rfl ?_; first | refine ⟨_, (OpVal.move rfl rfl), ?_⟩))
  (refine DOps.valK 22 rfl rfl rfl rfl ?_; refine ⟨_, OpVal.slL tt_ok 1 rfl rfl rfl rfl rfl rfl (by omega), ?_⟩)
  refine DOps.re (y := lS (A.drop 1)) 59 rfl (dropA A (by omega)) ?_
  have hKl : (A.drop 1).length = L.length - 1 := by rw [List.length_drop, hA]
  have hKg : ∀ i, i < L.length - 1 → (A.drop 1).getD i [] = if i + 2 < L.length then (L.drop 1).getD i [] ++ [10] else (L.drop 1).getD i [] := fun i hi => by
    have e := hAg (1 + i) (by omega)
    have e' : (A.drop 1).getD i [] = A.getD (1 + i) [] := by
      rw [List.getD_eq_getElem?_getD, List.getD_eq_getElem?_getD, List.getElem?_drop]
    have e'' : (L.drop 1).getD i [] = L.getD (1 + i) [] := by
      rw [List.getD_eq_getElem?_getD, List.getD_eq_getElem?_getD, List.getElem?_drop]
    rw [e', e'', e, show 1 + i + 1 = i + 2 by omega]
  have hKno : ∀ i, (10 : UInt8) ∉ (L.drop 1).getD i [] := fun i => by
    have e'' : (L.drop 1).getD i [] = L.getD (1 + i) [] := by
      rw [List.getD_eq_getElem?_getD, List.getD_eq_getElem?_getD, List.getElem?_drop]
    rw [e'']; exact hno _
  have hKll : ∀ i, ((L.drop 1).getD i []).length ≤ s.length := fun i => by
    have e'' : (L.drop 1).getD i [] = L.getD (1 + i) [] := by
      rw [List.getD_eq_getElem?_getD, List.getD_eq_getElem?_getD, List.getElem?_drop]
    rw [e'']; exact hll _
  have hLK : (L.drop 1).length = L.length - 1 := List.length_drop
  generalize A.drop 1 = B at *
  generalize L.drop 1 = K at *
  have hLl := hL.1
  repeat (first | refine q_seq ?_ | refine DOps.nil ?_ | (refine DOps.valK 0 rfl rfl rfl rfl ?_; first | refine ⟨_, (OpVal.move rfl rfl), ?_⟩) | (refine DOps.valK 17 rfl rfl rfl rfl ?_; first | refine ⟨_, (OpVal.lenD tt_ok rfl rfl rfl rfl rfl rfl rfl), ?_⟩))
  refine DCode.cellRow (b := 10) 900 3 37 9 rfl rfl rfl ?_
  refine DCode.asF (b := 900) rfl ?_
  repeat (first | refine DCode.block ?_)
  refine DCode.loopG (fun s : Nat × List Bx × Value => [(61, vI .i64 (s.1 : Nat))]) [11, 12, 13, 14, 15, 16, 17, 61, 62, 63, 64, 65, 66, 67, 68, 69, 70, 71, 72, 73, 74, 75, 76, 77, 78, 79, 80, 81, 82, 83, 84, 85, 86, 87, 88, 89, 90, 91, 92, 93, 94, 95, 96, 97, 98, 99, 100, 101, 102, 103, 104, 105, 106, 107, 108, 109, 110, 111, 112, 113, 114, 115, 116, 117, 118, 119, 120, 121, 122, 123, 124, 125, 126, 127, 128, 129, 130, 131, 132, 133, 134, 135] (fun s => [(10, some (boxR p q r s.2.2)), (900, some (.row 37 9 s.2.1.length s.2.2 ((s.2.1.flatMap Bx.dv).map .d) true))]) (fun x => x.1 < K.length ∧ x.2.1.length = x.1 ∧ (∀ b ∈ x.2.1, b.text.length ≤ s.length) ∧ R = linesGo ⟨p, q, r, []⟩ (K.drop x.1) (x.1 + 1) x.2.1) (fun x => K.length - x.1) (0, [], .slice none 0 0) ⟨by show 0 < K.length; omega, rfl, (fun b hb => by cases hb), hh⟩ (fun i _ => ⟨trivial, trivial⟩) (fun i _ => ⟨⟨_, rfl, boxR_ok⟩, ⟨_, rfl, rowOkB⟩, trivial⟩) (by (repeat (first | exact Off.refl _ _ | refine Sub.base ?_ | refine Sub.junk ?_ | refine Sub.cons (by rfl) ?_ | refine Off.cons rfl ?_ | refine Off.junks rfl ?_))) (by (repeat (first | exact MSubX.nil | refine MSubX.skip rfl ?_ | refine MSubX.cons (by rfl) ?_))) ?_
  intro ⟨i, out, v⟩ ⟨hi, ho, hob, hp⟩
  simp only [] at hi ho hob hp
  show DCode _ _ _ _ _ ([(61, vI .i64 (i : Nat))] ++ junks _ _) ([(10, some (boxR p q r v)), (900, some (.row 37 9 out.length v ((out.flatMap Bx.dv).map .d) true))] ++ _)
  rw [drop_getD hi] at hp
  have hBi := hKg i (by omega)
  have htl := hKll i
  have htn := hKno i
  have hld : ∀ (k : Nat), k = i → elS B k 0 = dS (B.getD i []) := fun k e => by rw [e, elS]
  generalize K.getD i [] = tx at *
  generalize B.getD i [] = l at *
  have csn := splitN_c tx [32] 10 (by simp) (by omega) (by decide) (by decide)
  rw [splitNL_spn] at csn
  have hsnl := spn_le 32 9 tx
  have crb := read_d (spn 32 9 tx) boxW 8 (fun a ha => Nat.le_trans (spn_mem 9 tx a ha) (by omega)) (by omega) (by decide)
  by_cases hlast : i + 1 = K.length
  · rw [List.drop_eq_nil_of_le (by omega)] at hp
    rw [if_neg (by omega)] at hBi
    subst hBi
    obtain ⟨f1, f2⟩ := suf_miss htn
    have ccs := cutSuffix_c l [10] (by omega)
    rw [f1, f2] at ccs
    have hcast : (((i + 1 : Nat)) : Int) = (i : Int) + 1 := by omega
    by_cases hl : l = []
    · rw [hl, lines_end] at hp
      have ck := check_d ⟨p, q, r, out⟩ (by show out.length ≤ _; omega) (bndB_of fun b hb => Nat.le_trans (hob b hb) (by omega))
      have hp : R = if checkF ⟨p, q, r, out⟩ = 0 then (⟨p, q, r, out⟩, 0, 0) else (fl0, checkF ⟨p, q, r, out⟩, -1) := hp
      generalize checkF ⟨p, q, r, out⟩ = c at *
      by_cases hc : c = 0
      · rw [if_pos hc] at hp
        rw [hp]
        repeat (first | refine q_seq ?_ | refine q_seqX ?_ | refine q_thenX ?_ | refine q_blockX ?_ | refine q_blockY rfl ?_ | refine DCode.seq ?_ | refine DCode.region ?_ | refine DCode.block ?_ | refine DCode.skip ?_ | refine DCode.exit ?_ | refine DCode.ret ?_ | refine DCode.condT rfl ?_ | refine DCode.condF rfl ?_ | refine DOps.cellReE (b := 2) (i := 3) (dB []) rfl rfl (DEq.nil 9 _) rfl ?_ | (refine DOps.valK 3 rfl rfl rfl rfl ?_; refine ⟨_, OpVal.ld (y := dS l) tt_ok rfl rfl rfl rfl (by omega) (hld _ (Int.toNat_natCast _)), ?_⟩) | (refine DOps.valK 12 rfl rfl rfl rfl ?_; refine ⟨_, OpVal.eqlST rfl rfl rfl hl, ?_⟩) | refine DOps.freezeCell (b := 900) (c := 10) (i := 3) (out.flatMap Bx.dv) (elB out) rfl rfl (by decide) rfl (flat_x (k := 9) _ (fun _ => rfl) _) rfl ?_ | (refine DOps.valK 3 rfl rfl rfl rfl ?_; refine ⟨.v ((Fl.mk p q r out)).tv, OpVal.cast (OpVal.load tt_ok rfl rfl rfl rfl rfl rfl) rfl, ?_⟩) | refine DOps.call1 (ts := [(Fl.mk p q r out).tv]) rfl rfl rfl rfl rfl Tryz.func8 rfl (by kernel_rfl) rfl (by repeat (first | exact pures_nil | refine pures_cons ?_ ?_ | exact trivial | exact pure_aggB rfl | exact arr_pure _ | exact Load.pure _ | exact Area.pure _ | exact dvs_pure _ | exact pure_sc | exact pure_sl)) (ck) ?_ | refine DOps.nil ?_ | (refine DOps.valK 0 rfl rfl rfl rfl ?_; first | refine ⟨_, (OpVal.move rfl rfl), ?_⟩) | (refine DOps.valK 1 rfl rfl rfl rfl ?_; first | refine ⟨_, (OpVal.assign rfl rfl), ?_⟩) | (refine DOps.valK 19 rfl rfl rfl rfl ?_; first | refine ⟨_, (OpVal.iaD tt_ok rfl rfl rfl rfl rfl rfl (by omega) (by omega)), ?_⟩) | (refine DOps.valK 17 rfl rfl rfl rfl ?_; first | refine ⟨_, (OpVal.lenD tt_ok rfl rfl rfl rfl rfl rfl rfl), ?_⟩) | (refine DOps.valK 2 rfl rfl rfl rfl ?_; first | refine ⟨_, (OpVal.pickT rfl rfl rfl), ?_⟩) | (refine DOps.valK 25 rfl rfl rfl rfl ?_; first | refine ⟨_, (OpVal.buildS tt_ok rfl rfl rfl rfl rfl rfl rfl rfl), ?_⟩) | (refine DOps.valK 11 rfl rfl rfl rfl ?_; first | refine ⟨_, (OpVal.sub rfl rfl rfl (by omega) (by omega)), ?_⟩) | (refine DOps.k 12 rfl ?_; first | refine DOps.cmpT rfl rfl rfl rfl rfl rfl rfl (by omega) ?_ | refine DOps.cmpF rfl rfl rfl rfl rfl rfl rfl (by omega) ?_) | (refine DOps.k 13 rfl ?_; first | refine DOps.cmpT rfl rfl rfl rfl rfl rfl rfl (by omega) ?_ | refine DOps.cmpF rfl rfl rfl rfl rfl rfl rfl (by omega) ?_) | (refine DOps.k 14 rfl ?_; first | refine DOps.cmpT rfl rfl rfl rfl rfl rfl rfl (by omega) ?_ | refine DOps.cmpF rfl rfl rfl rfl rfl rfl rfl (by omega) ?_) | (refine DOps.k 31 rfl ?_; refine DOps.store tt_ok rfl rfl rfl rfl rfl rfl rfl rfl (Nat.le_of_ble_eq_true rfl) rfl ?_))
        exact endQ.ret rfl (.cons (.cell rfl rfl rfl rfl rfl) (.cons (.cell rfl rfl rfl rfl rfl) .nil)) (by exact pures_cons (pure_aggB rfl) (pures_cons (pure_aggB rfl) pures_nil)) rfl
      · rw [if_neg hc] at hp
        rw [hp]
        repeat (first | refine q_seq ?_ | refine q_seqX ?_ | refine q_seqR ?_ | refine q_thenX ?_ | refine q_blockX ?_ | refine q_blockY rfl ?_ | refine DCode.seq ?_ | refine DCode.region ?_ | refine DCode.block ?_ | refine DCode.skip ?_ | refine DCode.exit ?_ | refine DCode.ret ?_ | refine DCode.condT rfl ?_ | refine DOps.cellReE (b := 2) (i := 3) (dB []) rfl rfl (DEq.nil 9 _) rfl ?_ | (refine DOps.valK 3 rfl rfl rfl rfl ?_; refine ⟨_, OpVal.ld (y := dS l) tt_ok rfl rfl rfl rfl (by omega) (hld _ (Int.toNat_natCast _)), ?_⟩) | (refine DOps.valK 12 rfl rfl rfl rfl ?_; refine ⟨_, OpVal.eqlST rfl rfl rfl hl, ?_⟩) | refine DOps.freezeCell (b := 900) (c := 10) (i := 3) (out.flatMap Bx.dv) (elB out) rfl rfl (by decide) rfl (flat_x (k := 9) _ (fun _ => rfl) _) rfl ?_ | (refine DOps.valK 3 rfl rfl rfl rfl ?_; refine ⟨.v ((Fl.mk p q r out)).tv, OpVal.cast (OpVal.load tt_ok rfl rfl rfl rfl rfl rfl) rfl, ?_⟩) | refine DOps.call1 (ts := [(Fl.mk p q r out).tv]) rfl rfl rfl rfl rfl Tryz.func8 rfl (by kernel_rfl) rfl (by repeat (first | exact pures_nil | refine pures_cons ?_ ?_ | exact trivial | exact pure_aggB rfl | exact arr_pure _ | exact Load.pure _ | exact Area.pure _ | exact dvs_pure _ | exact pure_sc | exact pure_sl)) (ck) ?_ | refine DOps.nil ?_ | (refine DOps.valK 0 rfl rfl rfl rfl ?_; first | refine ⟨_, (OpVal.move rfl rfl), ?_⟩) | (refine DOps.valK 1 rfl rfl rfl rfl ?_; first | refine ⟨_, (OpVal.assign rfl rfl), ?_⟩) | (refine DOps.valK 19 rfl rfl rfl rfl ?_; first | refine ⟨_, (OpVal.iaD tt_ok rfl rfl rfl rfl rfl rfl (by omega) (by omega)), ?_⟩) | (refine DOps.valK 17 rfl rfl rfl rfl ?_; first | refine ⟨_, (OpVal.lenD tt_ok rfl rfl rfl rfl rfl rfl rfl), ?_⟩) | (refine DOps.valK 2 rfl rfl rfl rfl ?_; first | refine ⟨_, (OpVal.pickT rfl rfl rfl), ?_⟩) | (refine DOps.valK 25 rfl rfl rfl rfl ?_; first | refine ⟨_, (OpVal.buildS tt_ok rfl rfl rfl rfl rfl rfl rfl rfl), ?_⟩) | (refine DOps.valK 11 rfl rfl rfl rfl ?_; first | refine ⟨_, (OpVal.sub rfl rfl rfl (by omega) (by omega)), ?_⟩) | (refine DOps.k 12 rfl ?_; first | refine DOps.cmpT rfl rfl rfl rfl rfl rfl rfl (by omega) ?_ | refine DOps.cmpF rfl rfl rfl rfl rfl rfl rfl (by omega) ?_) | (refine DOps.k 13 rfl ?_; first | refine DOps.cmpT rfl rfl rfl rfl rfl rfl rfl (by omega) ?_ | refine DOps.cmpF rfl rfl rfl rfl rfl rfl rfl (by omega) ?_) | (refine DOps.k 14 rfl ?_; first | refine DOps.cmpT rfl rfl rfl rfl rfl rfl rfl (by omega) ?_ | refine DOps.cmpF rfl rfl rfl rfl rfl rfl rfl (by omega) ?_) | (refine DOps.k 31 rfl ?_; refine DOps.store tt_ok rfl rfl rfl rfl rfl rfl rfl rfl (Nat.le_of_ble_eq_true rfl) rfl ?_))
        exact endQ.ret rfl (.cons (.cell rfl rfl rfl rfl rfl) (.cons (.cell rfl rfl rfl rfl rfl) .nil)) (by exact pures_cons (pure_aggB rfl) (pures_cons (pure_aggB rfl) pures_nil)) rfl
    · rw [lines_last hl, hcast] at hp
      rw [hp]
      cases hrb : readW (spn 32 9 l) boxW 8 with
      | none =>
        rw [hrb] at crb
        repeat (first | refine q_seq ?_ | refine q_seqR ?_ | refine q_thenR ?_ | refine q_blockR ?_ | refine DCode.seq ?_ | refine DCode.region ?_ | refine DCode.block ?_ | refine DCode.skip ?_ | refine DCode.ret ?_ | refine DCode.condT rfl ?_ | refine DCode.condF rfl ?_ | refine DOps.cellReE (b := 2) (i := 3) (dB []) rfl rfl (DEq.nil 9 _) rfl ?_ | (refine DOps.valK 12 rfl rfl rfl rfl ?_; refine ⟨_, OpVal.eqlSF rfl rfl rfl hl, ?_⟩) | refine DOps.call1 (ts := [tT l, tT [10]]) rfl rfl rfl rfl rfl Tryz.func16 rfl (by kernel_rfl) rfl (by repeat (first | exact pures_nil | refine pures_cons ?_ ?_ | exact trivial | exact pure_aggB rfl | exact arr_pure _ | exact Load.pure _ | exact Area.pure _ | exact dvs_pure _ | exact pure_sc | exact pure_sl)) (ccs) ?_ | refine DOps.call1 (ts := [tT l, tT [32], it 10]) rfl rfl rfl rfl rfl Tryz.func19 rfl (by kernel_rfl) rfl (by repeat (first | exact pures_nil | refine pures_cons ?_ ?_ | exact trivial | exact pure_aggB rfl | exact arr_pure _ | exact Load.pure _ | exact Area.pure _ | exact dvs_pure _ | exact pure_sc | exact pure_sl)) (csn) ?_ | refine DOps.call1 (ts := [tL (spn 32 9 l), tT boxW, it 8]) rfl rfl rfl rfl rfl Tryz.func18 rfl (by kernel_rfl) rfl (by repeat (first | exact pures_nil | refine pures_cons ?_ ?_ | exact trivial | exact pure_aggB rfl | exact arr_pure _ | exact Load.pure _ | exact Area.pure _ | exact dvs_pure _ | exact pure_sc | exact pure_sl)) (crb) ?_ | (refine DOps.valK 3 rfl rfl rfl rfl ?_; refine ⟨_, OpVal.ld (y := dS l) tt_ok rfl rfl rfl rfl (by omega) (hld _ (Int.toNat_natCast _)), ?_⟩) | refine DOps.nil ?_ | refine DOps.off rfl rfl rfl ?_ | (refine DOps.valK 0 rfl rfl rfl rfl ?_; first | refine ⟨_, (OpVal.move rfl rfl), ?_⟩ | refine ⟨_, (OpVal.moveT rfl rfl), ?_⟩) | (refine DOps.valK 1 rfl rfl rfl rfl ?_; first | refine ⟨_, (OpVal.assign rfl rfl), ?_⟩) | (refine DOps.valK 10 rfl rfl rfl rfl ?_; first | refine ⟨_, (OpVal.add rfl rfl rfl (by omega) (by omega)), ?_⟩) | (refine DOps.valK 23 rfl rfl rfl rfl ?_; first | refine ⟨_, (OpVal.extract rfl rfl rfl), ?_⟩) | (refine DOps.valK 19 rfl rfl rfl rfl ?_; first | refine ⟨_, (OpVal.iaD tt_ok rfl rfl rfl rfl rfl rfl (by omega) (by omega)), ?_⟩) | (refine DOps.valK 17 rfl rfl rfl rfl ?_; first | refine ⟨_, (OpVal.lenD tt_ok rfl rfl rfl rfl rfl rfl rfl), ?_⟩) | (refine DOps.valK 2 rfl rfl rfl rfl ?_; first | refine ⟨_, (OpVal.pickT rfl rfl rfl), ?_⟩) | (refine DOps.valK 25 rfl rfl rfl rfl ?_; first | refine ⟨_, (OpVal.buildS tt_ok rfl rfl rfl rfl rfl rfl rfl rfl), ?_⟩) | (refine DOps.valK 11 rfl rfl rfl rfl ?_; first | refine ⟨_, (OpVal.sub rfl rfl rfl (by omega) (by omega)), ?_⟩) | (refine DOps.valK 16 rfl rfl rfl rfl ?_; first | refine ⟨_, (OpVal.notB rfl rfl), ?_⟩) | (refine DOps.k 12 rfl ?_; first | refine DOps.cmpT rfl rfl rfl rfl rfl rfl rfl (by omega) ?_ | refine DOps.cmpF rfl rfl rfl rfl rfl rfl rfl (by omega) ?_) | (refine DOps.k 14 rfl ?_; first | refine DOps.cmpT rfl rfl rfl rfl rfl rfl rfl (by omega) ?_ | refine DOps.cmpF rfl rfl rfl rfl rfl rfl rfl (by omega) ?_) | (refine DOps.k 31 rfl ?_; refine DOps.store tt_ok rfl rfl rfl rfl rfl rfl rfl rfl (Nat.le_of_ble_eq_true rfl) rfl ?_))
        exact endQ.ret rfl (.cons (.cell rfl rfl rfl rfl rfl) (.cons (.cell rfl rfl rfl rfl rfl) .nil)) (by exact pures_cons (pure_aggB rfl) (pures_cons (pure_aggB rfl) pures_nil)) rfl
      | some n =>
        rw [hrb] at crb
        repeat (first | refine q_seq ?_ | refine q_seqR ?_ | refine q_thenR ?_ | refine q_blockR ?_ | refine DCode.seq ?_ | refine DCode.region ?_ | refine DCode.block ?_ | refine DCode.skip ?_ | refine DCode.ret ?_ | refine DCode.condT rfl ?_ | refine DCode.condF rfl ?_ | refine DOps.cellReE (b := 2) (i := 3) (dB []) rfl rfl (DEq.nil 9 _) rfl ?_ | (refine DOps.valK 12 rfl rfl rfl rfl ?_; refine ⟨_, OpVal.eqlSF rfl rfl rfl hl, ?_⟩) | refine DOps.call1 (ts := [tT l, tT [10]]) rfl rfl rfl rfl rfl Tryz.func16 rfl (by kernel_rfl) rfl (by repeat (first | exact pures_nil | refine pures_cons ?_ ?_ | exact trivial | exact pure_aggB rfl | exact arr_pure _ | exact Load.pure _ | exact Area.pure _ | exact dvs_pure _ | exact pure_sc | exact pure_sl)) (ccs) ?_ | refine DOps.call1 (ts := [tT l, tT [32], it 10]) rfl rfl rfl rfl rfl Tryz.func19 rfl (by kernel_rfl) rfl (by repeat (first | exact pures_nil | refine pures_cons ?_ ?_ | exact trivial | exact pure_aggB rfl | exact arr_pure _ | exact Load.pure _ | exact Area.pure _ | exact dvs_pure _ | exact pure_sc | exact pure_sl)) (csn) ?_ | refine DOps.call1 (ts := [tL (spn 32 9 l), tT boxW, it 8]) rfl rfl rfl rfl rfl Tryz.func18 rfl (by kernel_rfl) rfl (by repeat (first | exact pures_nil | refine pures_cons ?_ ?_ | exact trivial | exact pure_aggB rfl | exact arr_pure _ | exact Load.pure _ | exact Area.pure _ | exact dvs_pure _ | exact pure_sc | exact pure_sl)) (crb) ?_ | (refine DOps.valK 3 rfl rfl rfl rfl ?_; refine ⟨_, OpVal.ld (y := dS l) tt_ok rfl rfl rfl rfl (by omega) (hld _ (Int.toNat_natCast _)), ?_⟩) | refine DOps.nil ?_ | refine DOps.off rfl rfl rfl ?_ | (refine DOps.valK 0 rfl rfl rfl rfl ?_; first | refine ⟨_, (OpVal.move rfl rfl), ?_⟩ | refine ⟨_, (OpVal.moveT rfl rfl), ?_⟩) | (refine DOps.valK 1 rfl rfl rfl rfl ?_; first | refine ⟨_, (OpVal.assign rfl rfl), ?_⟩) | (refine DOps.valK 10 rfl rfl rfl rfl ?_; first | refine ⟨_, (OpVal.add rfl rfl rfl (by omega) (by omega)), ?_⟩) | (refine DOps.valK 23 rfl rfl rfl rfl ?_; first | refine ⟨_, (OpVal.extract rfl rfl rfl), ?_⟩) | (refine DOps.valK 19 rfl rfl rfl rfl ?_; first | refine ⟨_, (OpVal.iaD tt_ok rfl rfl rfl rfl rfl rfl (by omega) (by omega)), ?_⟩) | (refine DOps.valK 17 rfl rfl rfl rfl ?_; first | refine ⟨_, (OpVal.lenD tt_ok rfl rfl rfl rfl rfl rfl rfl), ?_⟩) | (refine DOps.valK 2 rfl rfl rfl rfl ?_; first | refine ⟨_, (OpVal.pickT rfl rfl rfl), ?_⟩ | refine ⟨_, (OpVal.pickF rfl rfl rfl), ?_⟩) | (refine DOps.valK 25 rfl rfl rfl rfl ?_; first | refine ⟨_, (OpVal.buildS tt_ok rfl rfl rfl rfl rfl rfl rfl rfl), ?_⟩) | (refine DOps.valK 11 rfl rfl rfl rfl ?_; first | refine ⟨_, (OpVal.sub rfl rfl rfl (by omega) (by omega)), ?_⟩) | (refine DOps.valK 16 rfl rfl rfl rfl ?_; first | refine ⟨_, (OpVal.notB rfl rfl), ?_⟩) | (refine DOps.k 12 rfl ?_; first | refine DOps.cmpT rfl rfl rfl rfl rfl rfl rfl (by omega) ?_ | refine DOps.cmpF rfl rfl rfl rfl rfl rfl rfl (by omega) ?_) | (refine DOps.k 14 rfl ?_; first | refine DOps.cmpT rfl rfl rfl rfl rfl rfl rfl (by omega) ?_ | refine DOps.cmpF rfl rfl rfl rfl rfl rfl rfl (by omega) ?_) | (refine DOps.k 31 rfl ?_; refine DOps.store tt_ok rfl rfl rfl rfl rfl rfl rfl rfl (Nat.le_of_ble_eq_true rfl) rfl ?_))
        exact endQ.ret rfl (.cons (.cell rfl rfl rfl rfl rfl) (.cons (.cell rfl rfl rfl rfl rfl) .nil)) (by exact pures_cons (pure_aggB rfl) (pures_cons (pure_aggB rfl) pures_nil)) rfl
  rw [if_pos (by omega)] at hBi
  obtain ⟨f1, f2⟩ := suf_hit tx
  rw [← hBi] at f1 f2
  have hbl : l.length ≤ s.length + 1 := by rw [hBi, List.length_append]; show _ + 1 ≤ _; omega
  have ccs := cutSuffix_c l [10] (by omega)
  rw [f1, f2] at ccs
  have hcast : (((i + 1 : Nat)) : Int) = (i : Int) + 1 := by omega
  obtain ⟨m, rr, hmr⟩ : ∃ m rr, K.drop (i + 1) = m :: rr := ⟨_, _, drop_getD (by omega)⟩
  rw [hmr] at hp
  cases hrb : readW (spn 32 9 tx) boxW 8 with
  | none =>
    rw [lines_bad (boxOf_bad (.inr hrb)), hcast] at hp
    rw [hp]
    rw [hrb] at crb
    repeat (first | refine q_seq ?_ | refine q_seqR ?_ | refine q_thenR ?_ | refine q_blockR ?_ | refine DCode.seq ?_ | refine DCode.region ?_ | refine DCode.block ?_ | refine DCode.skip ?_ | refine DCode.ret ?_ | refine DCode.condT rfl ?_ | refine DCode.condF rfl ?_ | refine DOps.cellReE (b := 2) (i := 3) (dB []) rfl rfl (DEq.nil 9 _) rfl ?_ | refine DOps.call1 (ts := [tT l, tT [10]]) rfl rfl rfl rfl rfl Tryz.func16 rfl (by kernel_rfl) rfl (by repeat (first | exact pures_nil | refine pures_cons ?_ ?_ | exact trivial | exact pure_aggB rfl | exact arr_pure _ | exact Load.pure _ | exact Area.pure _ | exact dvs_pure _ | exact pure_sc | exact pure_sl)) (ccs) ?_ | refine DOps.call1 (ts := [tT tx, tT [32], it 10]) rfl rfl rfl rfl rfl Tryz.func19 rfl (by kernel_rfl) rfl (by repeat (first | exact pures_nil | refine pures_cons ?_ ?_ | exact trivial | exact pure_aggB rfl | exact arr_pure _ | exact Load.pure _ | exact Area.pure _ | exact dvs_pure _ | exact pure_sc | exact pure_sl)) (csn) ?_ | refine DOps.call1 (ts := [tL (spn 32 9 tx), tT boxW, it 8]) rfl rfl rfl rfl rfl Tryz.func18 rfl (by kernel_rfl) rfl (by repeat (first | exact pures_nil | refine pures_cons ?_ ?_ | exact trivial | exact pure_aggB rfl | exact arr_pure _ | exact Load.pure _ | exact Area.pure _ | exact dvs_pure _ | exact pure_sc | exact pure_sl)) (crb) ?_ | (refine DOps.valK 3 rfl rfl rfl rfl ?_; refine ⟨_, OpVal.ld (y := dS l) tt_ok rfl rfl rfl rfl (by omega) (hld _ (Int.toNat_natCast _)), ?_⟩) | refine DOps.nil ?_ | refine DOps.off rfl rfl rfl ?_ | (refine DOps.valK 0 rfl rfl rfl rfl ?_; first | refine ⟨_, (OpVal.move rfl rfl), ?_⟩ | refine ⟨_, (OpVal.moveT rfl rfl), ?_⟩) | (refine DOps.valK 1 rfl rfl rfl rfl ?_; first | refine ⟨_, (OpVal.assign rfl rfl), ?_⟩) | (refine DOps.valK 10 rfl rfl rfl rfl ?_; first | refine ⟨_, (OpVal.add rfl rfl rfl (by omega) (by omega)), ?_⟩) | (refine DOps.valK 23 rfl rfl rfl rfl ?_; first | refine ⟨_, (OpVal.extract rfl rfl rfl), ?_⟩) | (refine DOps.valK 19 rfl rfl rfl rfl ?_; first | refine ⟨_, (OpVal.iaD tt_ok rfl rfl rfl rfl rfl rfl (by omega) (by omega)), ?_⟩) | (refine DOps.valK 17 rfl rfl rfl rfl ?_; first | refine ⟨_, (OpVal.lenD tt_ok rfl rfl rfl rfl rfl rfl rfl), ?_⟩) | (refine DOps.valK 2 rfl rfl rfl rfl ?_; first | refine ⟨_, (OpVal.pickT rfl rfl rfl), ?_⟩ | refine ⟨_, (OpVal.pickF rfl rfl rfl), ?_⟩) | (refine DOps.valK 25 rfl rfl rfl rfl ?_; first | refine ⟨_, (OpVal.buildS tt_ok rfl rfl rfl rfl rfl rfl rfl rfl), ?_⟩) | (refine DOps.valK 11 rfl rfl rfl rfl ?_; first | refine ⟨_, (OpVal.sub rfl rfl rfl (by omega) (by omega)), ?_⟩) | (refine DOps.valK 16 rfl rfl rfl rfl ?_; first | refine ⟨_, (OpVal.notB rfl rfl), ?_⟩) | (refine DOps.k 12 rfl ?_; first | refine DOps.cmpT rfl rfl rfl rfl rfl rfl rfl (by omega) ?_ | refine DOps.cmpF rfl rfl rfl rfl rfl rfl rfl (by omega) ?_) | (refine DOps.k 14 rfl ?_; first | refine DOps.cmpT rfl rfl rfl rfl rfl rfl rfl (by omega) ?_ | refine DOps.cmpF rfl rfl rfl rfl rfl rfl rfl (by omega) ?_) | (refine DOps.k 31 rfl ?_; refine DOps.store tt_ok rfl rfl rfl rfl rfl rfl rfl rfl (Nat.le_of_ble_eq_true rfl) rfl ?_))
    exact endQ.ret rfl (.cons (.cell rfl rfl rfl rfl rfl) (.cons (.cell rfl rfl rfl rfl rfl) .nil)) (by exact pures_cons (pure_aggB rfl) (pures_cons (pure_aggB rfl) pures_nil)) rfl
  | some n =>
  by_cases h10 : (spn 32 9 tx).length = 10
  rotate_left
  · rw [lines_bad (boxOf_bad (.inl h10)), hcast] at hp
    rw [hp]
    rw [hrb] at crb
    repeat (first | refine q_seq ?_ | refine q_seqR ?_ | refine q_thenR ?_ | refine q_blockR ?_ | refine DCode.seq ?_ | refine DCode.region ?_ | refine DCode.block ?_ | refine DCode.skip ?_ | refine DCode.ret ?_ | refine DCode.condT rfl ?_ | refine DCode.condF rfl ?_ | refine DOps.cellReE (b := 2) (i := 3) (dB []) rfl rfl (DEq.nil 9 _) rfl ?_ | refine DOps.call1 (ts := [tT l, tT [10]]) rfl rfl rfl rfl rfl Tryz.func16 rfl (by kernel_rfl) rfl (by repeat (first | exact pures_nil | refine pures_cons ?_ ?_ | exact trivial | exact pure_aggB rfl | exact arr_pure _ | exact Load.pure _ | exact Area.pure _ | exact dvs_pure _ | exact pure_sc | exact pure_sl)) (ccs) ?_ | refine DOps.call1 (ts := [tT tx, tT [32], it 10]) rfl rfl rfl rfl rfl Tryz.func19 rfl (by kernel_rfl) rfl (by repeat (first | exact pures_nil | refine pures_cons ?_ ?_ | exact trivial | exact pure_aggB rfl | exact arr_pure _ | exact Load.pure _ | exact Area.pure _ | exact dvs_pure _ | exact pure_sc | exact pure_sl)) (csn) ?_ | refine DOps.call1 (ts := [tL (spn 32 9 tx), tT boxW, it 8]) rfl rfl rfl rfl rfl Tryz.func18 rfl (by kernel_rfl) rfl (by repeat (first | exact pures_nil | refine pures_cons ?_ ?_ | exact trivial | exact pure_aggB rfl | exact arr_pure _ | exact Load.pure _ | exact Area.pure _ | exact dvs_pure _ | exact pure_sc | exact pure_sl)) (crb) ?_ | (refine DOps.valK 3 rfl rfl rfl rfl ?_; refine ⟨_, OpVal.ld (y := dS l) tt_ok rfl rfl rfl rfl (by omega) (hld _ (Int.toNat_natCast _)), ?_⟩) | refine DOps.nil ?_ | refine DOps.off rfl rfl rfl ?_ | (refine DOps.valK 0 rfl rfl rfl rfl ?_; first | refine ⟨_, (OpVal.move rfl rfl), ?_⟩ | refine ⟨_, (OpVal.moveT rfl rfl), ?_⟩) | (refine DOps.valK 1 rfl rfl rfl rfl ?_; first | refine ⟨_, (OpVal.assign rfl rfl), ?_⟩) | (refine DOps.valK 10 rfl rfl rfl rfl ?_; first | refine ⟨_, (OpVal.add rfl rfl rfl (by omega) (by omega)), ?_⟩) | (refine DOps.valK 23 rfl rfl rfl rfl ?_; first | refine ⟨_, (OpVal.extract rfl rfl rfl), ?_⟩) | (refine DOps.valK 19 rfl rfl rfl rfl ?_; first | refine ⟨_, (OpVal.iaD tt_ok rfl rfl rfl rfl rfl rfl (by omega) (by omega)), ?_⟩) | (refine DOps.valK 17 rfl rfl rfl rfl ?_; first | refine ⟨_, (OpVal.lenD tt_ok rfl rfl rfl rfl rfl rfl rfl), ?_⟩) | (refine DOps.valK 2 rfl rfl rfl rfl ?_; first | refine ⟨_, (OpVal.pickF rfl rfl rfl), ?_⟩) | (refine DOps.valK 25 rfl rfl rfl rfl ?_; first | refine ⟨_, (OpVal.buildS tt_ok rfl rfl rfl rfl rfl rfl rfl rfl), ?_⟩) | (refine DOps.valK 11 rfl rfl rfl rfl ?_; first | refine ⟨_, (OpVal.sub rfl rfl rfl (by omega) (by omega)), ?_⟩) | (refine DOps.valK 16 rfl rfl rfl rfl ?_; first | refine ⟨_, (OpVal.notB rfl rfl), ?_⟩) | (refine DOps.k 12 rfl ?_; first | refine DOps.cmpT rfl rfl rfl rfl rfl rfl rfl (by omega) ?_ | refine DOps.cmpF rfl rfl rfl rfl rfl rfl rfl (by omega) ?_) | (refine DOps.k 13 rfl ?_; first | refine DOps.cmpT rfl rfl rfl rfl rfl rfl rfl (by omega) ?_ | refine DOps.cmpF rfl rfl rfl rfl rfl rfl rfl (by omega) ?_) | (refine DOps.k 14 rfl ?_; first | refine DOps.cmpT rfl rfl rfl rfl rfl rfl rfl (by omega) ?_ | refine DOps.cmpF rfl rfl rfl rfl rfl rfl rfl (by omega) ?_) | (refine DOps.k 31 rfl ?_; refine DOps.store tt_ok rfl rfl rfl rfl rfl rfl rfl rfl (Nat.le_of_ble_eq_true rfl) rfl ?_))
    exact endQ.ret rfl (.cons (.cell rfl rfl rfl rfl rfl) (.cons (.cell rfl rfl rfl rfl rfl) .nil)) (by exact pures_cons (pure_aggB rfl) (pures_cons (pure_aggB rfl) pures_nil)) rfl
  have hn8 := readW_len hrb
  obtain ⟨n1, n2, n3, n4, n5, n6, n7, n8, rfl⟩ : ∃ n1 n2 n3 n4 n5 n6 n7 n8, n = [n1, n2, n3, n4, n5, n6, n7, n8] := by
    match n, hn8 with
    | [n1, n2, n3, n4, n5, n6, n7, n8], _ => exact ⟨n1, n2, n3, n4, n5, n6, n7, n8, rfl⟩
  rw [lines_step (boxOf_ok h10 hrb)] at hp
  rw [hrb] at crb
  have crb : DCalls Tryz.prog 18 [tL (spn 32 9 tx), tT boxW, it 8] (fun ts => ts = [tN [n1, n2, n3, n4, n5, n6, n7, n8], bt true]) := crb
  have ht9 : ((spn 32 9 tx).getD 9 []).length ≤ s.length := Nat.le_trans (getD_len (fun a ha => spn_mem 9 tx a ha) 9) htl
  generalize hW : spn 32 9 tx = W at *
  have hl9 : ∀ (k : Nat), k = 9 → elS W k 0 = dS (W.getD 9 []) := fun k e => by rw [e, elS]
  generalize W.getD 9 [] = t9 at *
  repeat (first | refine q_seq ?_ | refine DCode.seq ?_ | refine DCode.region ?_ | refine DCode.block ?_ | refine DCode.skip ?_ | refine DCode.condT rfl ?_ | refine DCode.condF rfl ?_ | refine DOps.call1 (ts := [tT l, tT [10]]) rfl rfl rfl rfl rfl Tryz.func16 rfl (by kernel_rfl) rfl (by repeat (first | exact pures_nil | refine pures_cons ?_ ?_ | exact trivial | exact pure_aggB rfl | exact arr_pure _ | exact Load.pure _ | exact Area.pure _ | exact dvs_pure _ | exact pure_sc | exact pure_sl)) (ccs) ?_ | refine DOps.call1 (ts := [tT tx, tT [32], it 10]) rfl rfl rfl rfl rfl Tryz.func19 rfl (by kernel_rfl) rfl (by repeat (first | exact pures_nil | refine pures_cons ?_ ?_ | exact trivial | exact pure_aggB rfl | exact arr_pure _ | exact Load.pure _ | exact Area.pure _ | exact dvs_pure _ | exact pure_sc | exact pure_sl)) (csn) ?_ | refine DOps.call1 (ts := [tL W, tT boxW, it 8]) rfl rfl rfl rfl rfl Tryz.func18 rfl (by kernel_rfl) rfl (by repeat (first | exact pures_nil | refine pures_cons ?_ ?_ | exact trivial | exact pure_aggB rfl | exact arr_pure _ | exact Load.pure _ | exact Area.pure _ | exact dvs_pure _ | exact pure_sc | exact pure_sl)) (crb) ?_ | (refine DOps.valK 3 rfl rfl rfl rfl ?_; refine ⟨_, OpVal.ld (y := dS l) tt_ok rfl rfl rfl rfl (by omega) (hld _ (Int.toNat_natCast _)), ?_⟩) | refine DOps.nil ?_ | refine DOps.off rfl rfl rfl ?_ | (refine DOps.valK 0 rfl rfl rfl rfl ?_; first | refine ⟨_, (OpVal.move rfl rfl), ?_⟩ | refine ⟨_, (OpVal.moveT rfl rfl), ?_⟩) | (refine DOps.valK 1 rfl rfl rfl rfl ?_; first | refine ⟨_, (OpVal.assign rfl rfl), ?_⟩) | (refine DOps.valK 23 rfl rfl rfl rfl ?_; first | refine ⟨_, (OpVal.extract rfl rfl rfl), ?_⟩) | (refine DOps.valK 19 rfl rfl rfl rfl ?_; first | refine ⟨_, (OpVal.iaD tt_ok rfl rfl rfl rfl rfl rfl (by omega) (by omega)), ?_⟩) | (refine DOps.valK 17 rfl rfl rfl rfl ?_; first | refine ⟨_, (OpVal.lenD tt_ok rfl rfl rfl rfl rfl rfl rfl), ?_⟩) | (refine DOps.valK 2 rfl rfl rfl rfl ?_; first | refine ⟨_, (OpVal.pickF rfl rfl rfl), ?_⟩) | (refine DOps.valK 11 rfl rfl rfl rfl ?_; first | refine ⟨_, (OpVal.sub rfl rfl rfl (by omega) (by omega)), ?_⟩) | (refine DOps.valK 16 rfl rfl rfl rfl ?_; first | refine ⟨_, (OpVal.notB rfl rfl), ?_⟩) | (refine DOps.k 12 rfl ?_; first | refine DOps.cmpT rfl rfl rfl rfl rfl rfl rfl (by omega) ?_ | refine DOps.cmpF rfl rfl rfl rfl rfl rfl rfl (by omega) ?_) | (refine DOps.k 13 rfl ?_; first | refine DOps.cmpT rfl rfl rfl rfl rfl rfl rfl (by omega) ?_ | refine DOps.cmpF rfl rfl rfl rfl rfl rfl rfl (by omega) ?_) | (refine DOps.k 14 rfl ?_; first | refine DOps.cmpT rfl rfl rfl rfl rfl rfl rfl (by omega) ?_ | refine DOps.cmpF rfl rfl rfl rfl rfl rfl rfl (by omega) ?_))
  refine DCode.drawA 31 (by kernel_rfl) (by kernel_rfl) ?_
  repeat (first | refine DDr2.new (r := .v (.one (.d (.sl 1 9 fun _ j => (Bx.mk n1 n2 n3 n4 n5 n6 n7 n8 t9).dv.getD j (di 0))))) rfl rfl rfl (OpNew.bsl tt_ok (Bx.mk n1 n2 n3 n4 n5 n6 n7 n8 t9).dv _ rfl rfl rfl rfl rfl rfl rfl rfl rfl rfl (one_x (Bx.mk n1 n2 n3 n4 n5 n6 n7 n8 t9).dv rfl)) ?_ | (refine DDr2.valE rfl rfl rfl ?_; first | refine ⟨vI .i64 n1, (OpVal.cast (OpVal.ldN (X := [n1, n2, n3, n4, n5, n6, n7, n8]) (m := 0) tt_ok rfl rfl rfl rfl rfl) rfl), ?_⟩ | refine ⟨vI .i64 n2, (OpVal.cast (OpVal.ldN (X := [n1, n2, n3, n4, n5, n6, n7, n8]) (m := 1) tt_ok rfl rfl rfl rfl rfl) rfl), ?_⟩ | refine ⟨vI .i64 n3, (OpVal.cast (OpVal.ldN (X := [n1, n2, n3, n4, n5, n6, n7, n8]) (m := 2) tt_ok rfl rfl rfl rfl rfl) rfl), ?_⟩ | refine ⟨vI .i64 n4, (OpVal.cast (OpVal.ldN (X := [n1, n2, n3, n4, n5, n6, n7, n8]) (m := 3) tt_ok rfl rfl rfl rfl rfl) rfl), ?_⟩ | refine ⟨vI .i64 n5, (OpVal.cast (OpVal.ldN (X := [n1, n2, n3, n4, n5, n6, n7, n8]) (m := 4) tt_ok rfl rfl rfl rfl rfl) rfl), ?_⟩ | refine ⟨vI .i64 n6, (OpVal.cast (OpVal.ldN (X := [n1, n2, n3, n4, n5, n6, n7, n8]) (m := 5) tt_ok rfl rfl rfl rfl rfl) rfl), ?_⟩ | refine ⟨vI .i64 n7, (OpVal.cast (OpVal.ldN (X := [n1, n2, n3, n4, n5, n6, n7, n8]) (m := 6) tt_ok rfl rfl rfl rfl rfl) rfl), ?_⟩ | refine ⟨vI .i64 n8, (OpVal.cast (OpVal.ldN (X := [n1, n2, n3, n4, n5, n6, n7, n8]) (m := 7) tt_ok rfl rfl rfl rfl rfl) rfl), ?_⟩ | refine ⟨vT t9, (OpVal.ld (y := dS t9) tt_ok rfl rfl rfl rfl (by omega) (hl9 _ rfl)), ?_⟩ | refine ⟨_, (OpVal.iaD tt_ok rfl rfl rfl rfl rfl rfl (by simp) (by simp)), ?_⟩ | refine ⟨_, (OpVal.move rfl rfl), ?_⟩ | refine ⟨_, (OpVal.fa tt_ok rfl rfl rfl rfl rfl rfl), ?_⟩ | refine ⟨_, (OpVal.load1 tt_ok rfl rfl rfl rfl rfl rfl), ?_⟩ | refine ⟨_, (OpVal.iaD tt_ok rfl rfl rfl rfl rfl rfl (by omega) (by omega)), ?_⟩ | refine ⟨_, (OpVal.buildS tt_ok rfl rfl rfl rfl rfl rfl rfl rfl), ?_⟩))
  refine DDr2.done 3 rfl rfl ?_
  repeat' (first | refine DAny.intro _ _ rfl ?_ | refine DAny.fin rfl ?_ | exact DAlts.nil | refine DAlts.cons rfl ?_ ?_ | refine q_seq ?_ | refine q_then ?_ | refine q_block ?_ | refine DCode.region ?_ | refine DOps.appendF (n' := (out ++ [Bx.mk n1 n2 n3 n4 n5 n6 n7 n8 t9]).length) (cs' := ((out ++ [Bx.mk n1 n2 n3 n4 n5 n6 n7 n8 t9]).flatMap Bx.dv).map .d) tt_ok (Bx.dv (Bx.mk n1 n2 n3 n4 n5 n6 n7 n8 t9)) rfl rfl rfl rfl rfl rfl rfl rfl rfl rfl rfl rfl rfl (by omega) (by show ((out).length + 1) * 80 ≤ 140737488355328; omega) (by show (out).length + 1 ≤ 9223372036854775807; omega) rfl (one_x _ rfl) (by simp) (snoc_x _ _) fun v' => ?_ | refine DOps.nil ?_ | (refine DOps.valK 0 rfl rfl rfl rfl ?_; first | refine ⟨_, (OpVal.move rfl rfl), ?_⟩) | (refine DOps.valK 10 rfl rfl rfl rfl ?_; first | refine ⟨_, (OpVal.add rfl rfl rfl (by omega) (by omega)), ?_⟩) | (refine DOps.valK 18 rfl rfl rfl rfl ?_; first | refine ⟨_, (OpVal.fa tt_ok rfl rfl rfl rfl rfl rfl), ?_⟩) | (refine DOps.k 31 rfl ?_; refine DOps.store tt_ok rfl rfl rfl rfl rfl rfl rfl rfl (Nat.le_of_ble_eq_true rfl) rfl ?_))
  exact ⟨(i + 1, out ++ [⟨n1, n2, n3, n4, n5, n6, n7, n8, t9⟩], v'), ⟨by simp only []; omega, by simp; omega, (fun b hb => by
    rcases List.mem_append.1 hb with hb | hb
    · exact hob b hb
    · rw [List.mem_singleton] at hb; rw [hb]; exact ht9), by rw [hmr]; exact hp⟩, by simp only []; omega, Sub.cons (vI_congr (by simp only []; omega)) (by (repeat (first | exact Off.refl _ _ | refine Sub.base ?_ | refine Sub.junk ?_ | refine Sub.cons (by rfl) ?_ | refine Off.cons rfl ?_ | refine Off.junks rfl ?_))), by (repeat (first | exact MSubX.nil | refine MSubX.skip rfl ?_ | refine MSubX.cons (by rfl) ?_))⟩
end Go.Proofs.YtejdeonbibbchaaGreatDoor
