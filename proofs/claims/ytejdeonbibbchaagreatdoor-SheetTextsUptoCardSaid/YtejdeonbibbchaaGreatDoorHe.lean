/- law25: a line's numbers: the walk. -/
import Derived.Test.YtejdeonbibbchaaGreatDoorHd
set_option linter.unusedVariables false
set_option linter.unusedSimpArgs false
set_option linter.constructorNameAsVariable false
namespace Go.Proofs.YtejdeonbibbchaaGreatDoor
open Go Go.RowKit Go.Proofs.YtejdeonbibbchaaGreatDoor.DL
set_option linter.unusedVariables false
set_option linter.unusedSimpArgs false
attribute [local irreducible] DCode DOps OpVal DCalls DCallsM DCallsB DCallsR thenQ seqQ inBlockQ endQ endQM OpNew DCf

theorem numsOf_snoc : ∀ {A : List (List UInt8)} {w : List UInt8} {l : List Int} {v : Int}, numsOf A = some l → numW w = some v → numsOf (A ++ [w]) = some (l ++ [v])
  | [], w, l, v, h, hv => by
    injection h with h
    subst h
    rw [List.nil_append, numsOf, hv, numsOf]; rfl
  | a :: A, w, l, v, h, hv => by
    rw [numsOf] at h
    cases h1 : numW a with
    | none => rw [h1] at h; cases h
    | some x =>
      rw [h1] at h
      cases h2 : numsOf A with
      | none => rw [h2] at h; cases h
      | some m =>
        rw [h2] at h
        injection h with h
        subst h
        rw [List.cons_append, numsOf, h1, numsOf_snoc h2 hv]
        rfl
theorem numsOf_bad : ∀ {A : List (List UInt8)} {w : List UInt8}, w ∈ A → numW w = none → numsOf A = none
  | [], w, h, _ => by cases h
  | a :: A, w, h, hv => by
    rw [numsOf]
    rcases List.mem_cons.1 h with rfl | h
    · rw [hv]
    · cases numW a with
      | none => rfl
      | some x => rw [numsOf_bad h hv]
theorem partL (L : List (List UInt8)) (m : Nat) (h : m + 1 ≤ L.length) : DEq (.sl (m + 1 - 1) 1 fun p q => elS L (1 + p) q) (lS ((L.drop 1).take m)) := by
  have : ((L.drop 1).take m).length = m + 1 - 1 := by rw [List.length_take, List.length_drop]; omega
  rw [lS, this]
  refine DEq.sl fun p q hp hq => ?_
  rw [elS, elS]
  have e : ((L.drop 1).take m).getD p [] = L.getD (1 + p) [] := by
    rw [List.getD_eq_getElem?_getD, List.getD_eq_getElem?_getD, List.getElem?_take, if_pos (by omega), List.getElem?_drop]
  rw [e]
theorem take_snoc {α : Type} {L : List α} {i : Nat} {x : α} (h : L[i]? = some x) : L.take (i + 1) = L.take i ++ [x] := by
  rw [List.take_add_one, h]; rfl
abbrev resN (r : Option (List Int)) : List TV := [tN (r.getD []), bt r.isSome]
set_option maxRecDepth 10000 in
set_option maxHeartbeats 8000000 in
theorem read_d (L : List (List UInt8)) (word : List UInt8) (m : Nat) (hL : ∀ a ∈ L, a.length ≤ 4294967280) (hl : L.length ≤ 4294967296) (hm : m ≤ 100) : DCalls Tryz.prog 18 [tL L, tT word, it m] (fun ts => ts = resN (readW L word m)) := by
  refine DCalls.enter tt_ok Tryz.func18 rfl Tryz.ntmps18 (by simp) (by repeat (first | exact pures_nil | refine pures_cons ?_ ?_ | exact trivial | exact pure_aggB rfl | exact arr_pure _ | exact Load.pure _ | exact Area.pure _ | exact dvs_pure _ | exact pure_sc | exact pure_sl)) ?_
  by_cases h1 : L.length < m + 1
  · rw [show readW L word m = none by rw [readW, if_pos (.inl h1)]]
    repeat (first | refine q_seq ?_ | refine q_seqR ?_ | refine DCode.seq ?_ | refine DCode.region ?_ | refine DCode.ret ?_ | refine DCode.condT rfl ?_ | refine DOps.re (x := .sc (.slice none 0 0)) (y := lN []) 6 rfl (DEq.nil 1 _) ?_ | refine DOps.nil ?_ | refine DOps.off rfl rfl rfl ?_ | (refine DOps.valK 0 rfl rfl rfl rfl ?_; first | refine ⟨_, (OpVal.move rfl rfl), ?_⟩) | (refine DOps.valK 1 rfl rfl rfl rfl ?_; first | refine ⟨_, (OpVal.assign rfl rfl), ?_⟩) | (refine DOps.valK 10 rfl rfl rfl rfl ?_; first | refine ⟨_, (OpVal.add rfl rfl rfl (by omega) (by omega)), ?_⟩) | (refine DOps.valK 17 rfl rfl rfl rfl ?_; first | refine ⟨_, (OpVal.lenD tt_ok rfl rfl rfl rfl rfl rfl rfl), ?_⟩) | (refine DOps.valK 2 rfl rfl rfl rfl ?_; first | refine ⟨_, (OpVal.pickT rfl rfl rfl), ?_⟩) | (refine DOps.k 14 rfl ?_; first | refine DOps.cmpT rfl rfl rfl rfl rfl rfl rfl (by omega) ?_ | refine DOps.cmpF rfl rfl rfl rfl rfl rfl rfl (by omega) ?_))
    exact endQ.ret rfl (.cons (.tmp rfl) (.cons (.tmp rfl) .nil)) (pures_cons trivial (pures_cons trivial pures_nil)) rfl
  have h0 : L.getD 0 [] = L.getD 0 [] := rfl
  have hld0 : ∀ (q : Nat), q = 0 → elS L q 0 = dS (L.getD 0 []) := fun q e => by rw [e, elS]
  by_cases h2 : L.getD 0 [] = word
  rotate_left
  · rw [show readW L word m = none by rw [readW, if_pos (.inr h2)]]
    repeat (first | refine q_seq ?_ | refine q_seqR ?_ | refine DCode.seq ?_ | refine DCode.region ?_ | refine DCode.ret ?_ | refine DCode.condT rfl ?_ | refine DOps.re (x := .sc (.slice none 0 0)) (y := lN []) 6 rfl (DEq.nil 1 _) ?_ | (refine DOps.valK 3 rfl rfl rfl rfl ?_; refine ⟨_, OpVal.ld (y := dS (L.getD 0 [])) tt_ok rfl rfl rfl rfl (by omega) (hld0 _ rfl), ?_⟩) | (refine DOps.valK 13 rfl rfl rfl rfl ?_; refine ⟨_, OpVal.neqST rfl rfl rfl h2, ?_⟩) | refine DOps.nil ?_ | (refine DOps.valK 0 rfl rfl rfl rfl ?_; first | refine ⟨_, (OpVal.move rfl rfl), ?_⟩) | (refine DOps.valK 1 rfl rfl rfl rfl ?_; first | refine ⟨_, (OpVal.assign rfl rfl), ?_⟩) | (refine DOps.valK 10 rfl rfl rfl rfl ?_; first | refine ⟨_, (OpVal.add rfl rfl rfl (by omega) (by omega)), ?_⟩) | (refine DOps.valK 19 rfl rfl rfl rfl ?_; first | refine ⟨_, (OpVal.iaD tt_ok rfl rfl rfl rfl rfl rfl (by omega) (by omega)), ?_⟩) | (refine DOps.valK 17 rfl rfl rfl rfl ?_; first | refine ⟨_, (OpVal.lenD tt_ok rfl rfl rfl rfl rfl rfl rfl), ?_⟩) | (refine DOps.valK 2 rfl rfl rfl rfl ?_; first | refine ⟨_, (OpVal.pickF rfl rfl rfl), ?_⟩) | (refine DOps.k 14 rfl ?_; first | refine DOps.cmpT rfl rfl rfl rfl rfl rfl rfl (by omega) ?_ | refine DOps.cmpF rfl rfl rfl rfl rfl rfl rfl (by omega) ?_))
    exact endQ.ret rfl (.cons (.tmp rfl) (.cons (.tmp rfl) .nil)) (pures_cons trivial (pures_cons trivial pures_nil)) rfl
  have hR : readW L word m = numsOf ((L.drop 1).take m) := by
    rw [readW, if_neg]
    exact fun h => h.elim h1 fun h => h h2
  rw [hR]
  repeat (first | refine q_seq ?_ | refine DCode.seq ?_ | refine DCode.region ?_ | refine DCode.skip ?_ | refine DCode.condF rfl ?_ | refine DOps.val (d := 8) (r := .v (.one (.row 900 (.slice none 0 0)))) rfl rfl rfl (OpVal.nilRow (.inl rfl) rfl) ?_ | (refine DOps.valK 3 rfl rfl rfl rfl ?_; refine ⟨_, OpVal.ld (y := dS (L.getD 0 [])) tt_ok rfl rfl rfl rfl (by omega) (hld0 _ rfl), ?_⟩) | (refine DOps.valK 13 rfl rfl rfl rfl ?_; refine ⟨_, OpVal.neqSF rfl rfl rfl h2, ?_⟩) | refine DOps.nil ?_ | (refine DOps.valK 0 rfl rfl rfl rfl ?_; first | refine ⟨_, (OpVal.move rfl rfl), ?_⟩) | (refine DOps.valK 1 rfl rfl rfl rfl ?_; first | refine ⟨_, (OpVal.assign rfl rfl), ?_⟩) | (refine DOps.valK 10 rfl rfl rfl rfl ?_; first | refine ⟨_, (OpVal.add rfl rfl rfl (by omega) (by omega)), ?_⟩) | (refine DOps.valK 19 rfl rfl rfl rfl ?_; first | refine ⟨_, (OpVal.iaD tt_ok rfl rfl rfl rfl rfl rfl (by omega) (by omega)), ?_⟩) | (refine DOps.valK 17 rfl rfl rfl rfl ?_; first | refine ⟨_, (OpVal.lenD tt_ok rfl rfl rfl rfl rfl rfl rfl), ?_⟩) | (refine DOps.valK 2 rfl rfl rfl rfl ?_; first | refine ⟨_, (OpVal.pickF rfl rfl rfl), ?_⟩) | (refine DOps.k 14 rfl ?_; first | refine DOps.cmpT rfl rfl rfl rfl rfl rfl rfl (by omega) ?_ | refine DOps.cmpF rfl rfl rfl rfl rfl rfl rfl (by omega) ?_))
  (refine DOps.valK 22 rfl rfl rfl rfl ?_; refine ⟨_, OpVal.slB tt_ok 1 (m + 1) rfl rfl rfl rfl rfl rfl rfl (by omega) (by omega), ?_⟩)
  have hWl : ((L.drop 1).take m).length = m := by rw [List.length_take, List.length_drop]; omega
  have hWm : ∀ a ∈ (L.drop 1).take m, a.length ≤ 4294967280 := fun a ha => hL a (List.mem_of_mem_drop (List.mem_of_mem_take ha))
  refine DOps.re (y := lS ((L.drop 1).take m)) 28 rfl (partL L m (by omega)) ?_
  generalize (L.drop 1).take m = W at *
  repeat (first | refine q_seq ?_ | refine DCode.block ?_ | refine DOps.nil ?_ | (refine DOps.valK 0 rfl rfl rfl rfl ?_; first | refine ⟨_, (OpVal.move rfl rfl), ?_⟩) | (refine DOps.valK 17 rfl rfl rfl rfl ?_; first | refine ⟨_, (OpVal.lenD tt_ok rfl rfl rfl rfl rfl rfl rfl), ?_⟩))
  refine DCode.nilRow 900 2 1 ?_
  refine DCode.loopG (fun s : Nat × List Int × Value => [(30, vI .i64 (s.1 : Nat)), (8, .v (.one (.row 900 s.2.2)))]) [6, 7, 8, 10, 11, 12, 30, 31, 32, 33, 34, 35, 36, 37, 38, 39, 40, 41, 42, 43, 44, 45, 46, 47, 48, 49, 50, 51] (fun s => [(900, some (.row 2 1 s.2.1.length s.2.2 (ic s.2.1) false))]) (fun x => x.1 ≤ W.length ∧ x.2.1.length = x.1 ∧ numsOf (W.take x.1) = some x.2.1) (fun x => W.length - x.1) (0, [], .slice none 0 0) ⟨Nat.zero_le _, rfl, rfl⟩ (fun i _ => ⟨trivial, trivial, trivial⟩) (fun i _ => ⟨⟨_, rfl, fun c hc => CV.pure_ok (ic_pure _ c hc)⟩, trivial⟩) (by (repeat (first | exact Off.refl _ _ | refine Sub.base ?_ | refine Sub.junk ?_ | refine Sub.cons (by rfl) ?_ | refine Off.cons rfl ?_ | refine Off.junks rfl ?_))) (by (repeat (first | exact MSubX.nil | refine MSubX.skip rfl ?_ | refine MSubX.cons (by rfl) ?_))) ?_
  intro ⟨i, out, v⟩ ⟨hi, ho, he⟩
  simp only [] at hi ho he
  show DCode _ _ _ _ _ ([(30, vI .i64 (i : Nat)), (8, .v (.one (.row 900 v)))] ++ junks _ _) ([(900, some (.row 2 1 out.length v (ic out) false))] ++ _)
  by_cases hlt : i < W.length
  rotate_left
  · obtain rfl : i = W.length := by omega
    rw [List.take_length] at he
    rw [he]
    repeat (first | refine q_seq ?_ | refine q_seqX ?_ | refine q_thenX ?_ | refine q_blockX ?_ | refine DCode.seq ?_ | refine DCode.region ?_ | refine DCode.exit ?_ | refine DCode.ret ?_ | refine DCode.condF rfl ?_ | refine DOps.freeze (b := 900) (d := 52) (iD out) (elN out) (by rw [← ic_map]; rfl) rfl (ints_flat _) ?_ | refine DOps.nil ?_ | (refine DOps.valK 0 rfl rfl rfl rfl ?_; first | refine ⟨_, (OpVal.move rfl rfl), ?_⟩) | (refine DOps.valK 1 rfl rfl rfl rfl ?_; first | refine ⟨_, (OpVal.assign rfl rfl), ?_⟩) | (refine DOps.k 14 rfl ?_; first | refine DOps.cmpT rfl rfl rfl rfl rfl rfl rfl (by omega) ?_ | refine DOps.cmpF rfl rfl rfl rfl rfl rfl rfl (by omega) ?_))
    exact endQ.ret rfl (.cons (.tmp rfl) (.cons (.tmp rfl) .nil)) (pures_cons trivial (pures_cons trivial pures_nil)) rfl
  obtain ⟨b, hb⟩ : ∃ b, W[i]? = some b := ⟨W[i], List.getElem?_eq_getElem hlt⟩
  have hmem := List.mem_of_getElem? hb
  have hbl := hWm b hmem
  have hgd : W.getD i [] = b := by rw [List.getD_eq_getElem?_getD, hb]; rfl
  have hld : ∀ (q : Nat), q = i → elS W q 0 = dS b := fun q e => by rw [e, elS, hgd]
  have hsn := take_snoc hb
  by_cases hp : ∃ x, Lib.parseIntB 64 b = .ok x
  rotate_left
  · have cp := parseErr_c b (by omega) fun x hx => hp ⟨x, hx⟩
    have hno : numW b = none := by
      unfold numW
      split
      · rename_i x hx; exact absurd ⟨x, hx⟩ hp
      · rfl
    rw [numsOf_bad hmem hno]
    generalize parseV b = pv at *
    repeat (first | refine q_seq ?_ | refine q_seqR ?_ | refine q_thenR ?_ | refine q_blockR ?_ | refine DCode.seq ?_ | refine DCode.region ?_ | refine DCode.block ?_ | refine DCode.skip ?_ | refine DCode.ret ?_ | refine DCode.condT rfl ?_ | refine DOps.re (x := .sc (.slice none 0 0)) (y := lN []) 6 rfl (DEq.nil 1 _) ?_ | (refine DOps.valK 3 rfl rfl rfl rfl ?_; refine ⟨_, OpVal.ld (y := dS b) tt_ok rfl rfl rfl rfl (by omega) (hld _ (Int.toNat_natCast _)), ?_⟩) | refine DOps.call1 (ts := [tT b, it 10, it 64]) rfl rfl rfl rfl rfl Tryz.func39 rfl (by kernel_rfl) rfl (by repeat (first | exact pures_nil | refine pures_cons ?_ ?_ | exact trivial | exact pure_aggB rfl | exact arr_pure _ | exact Load.pure _ | exact Area.pure _ | exact dvs_pure _ | exact pure_sc | exact pure_sl)) (cp) ?_ | (refine DOps.valK 13 rfl rfl rfl rfl ?_; refine ⟨_, OpVal.neNilT tt_ok rfl rfl rfl, ?_⟩) | refine DOps.nil ?_ | refine DOps.off rfl rfl rfl ?_ | (refine DOps.valK 0 rfl rfl rfl rfl ?_; first | refine ⟨_, (OpVal.move rfl rfl), ?_⟩ | refine ⟨_, (OpVal.moveT rfl rfl), ?_⟩) | (refine DOps.valK 1 rfl rfl rfl rfl ?_; first | refine ⟨_, (OpVal.assign rfl rfl), ?_⟩) | (refine DOps.valK 23 rfl rfl rfl rfl ?_; first | refine ⟨_, (OpVal.extract rfl rfl rfl), ?_⟩) | (refine DOps.valK 19 rfl rfl rfl rfl ?_; first | refine ⟨_, (OpVal.iaD tt_ok rfl rfl rfl rfl rfl rfl (by omega) (by omega)), ?_⟩) | (refine DOps.valK 2 rfl rfl rfl rfl ?_; first | refine ⟨_, (OpVal.pickT rfl rfl rfl), ?_⟩) | (refine DOps.k 14 rfl ?_; first | refine DOps.cmpT rfl rfl rfl rfl rfl rfl rfl (by omega) ?_ | refine DOps.cmpF rfl rfl rfl rfl rfl rfl rfl (by omega) ?_))
    exact endQ.ret rfl (.cons (.tmp rfl) (.cons (.tmp rfl) .nil)) (pures_cons trivial (pures_cons trivial pures_nil)) rfl
  obtain ⟨x, hx⟩ := hp
  obtain ⟨x0, x1⟩ := pi_in hx
  have cp := parseInt_c b x (by omega) hx
  have cf := formatInt_c x x0 x1
  by_cases hq : Lib.itoa x = b
  rotate_left
  · have hno : numW b = none := by rw [numW, hx]; exact if_neg hq
    rw [numsOf_bad hmem hno]
    repeat (first | refine q_seq ?_ | refine q_seqR ?_ | refine q_thenR ?_ | refine q_blockR ?_ | refine DCode.seq ?_ | refine DCode.region ?_ | refine DCode.block ?_ | refine DCode.skip ?_ | refine DCode.ret ?_ | refine DCode.condT rfl ?_ | refine DOps.re (x := .sc (.slice none 0 0)) (y := lN []) 6 rfl (DEq.nil 1 _) ?_ | (refine DOps.valK 3 rfl rfl rfl rfl ?_; refine ⟨_, OpVal.ld (y := dS b) tt_ok rfl rfl rfl rfl (by omega) (hld _ (Int.toNat_natCast _)), ?_⟩) | refine DOps.call1 (ts := [tT b, it 10, it 64]) rfl rfl rfl rfl rfl Tryz.func39 rfl (by kernel_rfl) rfl (by repeat (first | exact pures_nil | refine pures_cons ?_ ?_ | exact trivial | exact pure_aggB rfl | exact arr_pure _ | exact Load.pure _ | exact Area.pure _ | exact dvs_pure _ | exact pure_sc | exact pure_sl)) (cp) ?_ | refine DOps.call1 (ts := [it x, it 10]) rfl rfl rfl rfl rfl Tryz.func40 rfl (by kernel_rfl) rfl (by repeat (first | exact pures_nil | refine pures_cons ?_ ?_ | exact trivial | exact pure_aggB rfl | exact arr_pure _ | exact Load.pure _ | exact Area.pure _ | exact dvs_pure _ | exact pure_sc | exact pure_sl)) (cf) ?_ | (refine DOps.valK 13 rfl rfl rfl rfl ?_; refine ⟨_, OpVal.neNilF tt_ok rfl rfl rfl, ?_⟩) | (refine DOps.valK 13 rfl rfl rfl rfl ?_; refine ⟨_, OpVal.neqST rfl rfl rfl hq, ?_⟩) | refine DOps.nil ?_ | (refine DOps.valK 0 rfl rfl rfl rfl ?_; first | refine ⟨_, (OpVal.move rfl rfl), ?_⟩ | refine ⟨_, (OpVal.moveT rfl rfl), ?_⟩) | (refine DOps.valK 1 rfl rfl rfl rfl ?_; first | refine ⟨_, (OpVal.assign rfl rfl), ?_⟩) | (refine DOps.valK 23 rfl rfl rfl rfl ?_; first | refine ⟨_, (OpVal.extract rfl rfl rfl), ?_⟩) | (refine DOps.valK 19 rfl rfl rfl rfl ?_; first | refine ⟨_, (OpVal.iaD tt_ok rfl rfl rfl rfl rfl rfl (by omega) (by omega)), ?_⟩) | (refine DOps.valK 2 rfl rfl rfl rfl ?_; first | refine ⟨_, (OpVal.pickF rfl rfl rfl), ?_⟩) | (refine DOps.k 14 rfl ?_; first | refine DOps.cmpT rfl rfl rfl rfl rfl rfl rfl (by omega) ?_ | refine DOps.cmpF rfl rfl rfl rfl rfl rfl rfl (by omega) ?_))
    exact endQ.ret rfl (.cons (.tmp rfl) (.cons (.tmp rfl) .nil)) (pures_cons trivial (pures_cons trivial pures_nil)) rfl
  have hyes : numW b = some x := by rw [numW, hx]; exact if_pos hq
  have hnx := numsOf_snoc he hyes
  rw [← hsn] at hnx
  repeat (first | refine q_seq ?_ | refine DCode.seq ?_ | refine DCode.region ?_ | refine DCode.block ?_ | refine DCode.skip ?_ | refine DCode.condT rfl ?_ | refine DCode.condF rfl ?_ | (refine DOps.k 28 rfl ?_; refine DOps.new (r := .v (tN [x])) rfl rfl rfl (OpNew.bsl tt_ok (iD [x]) _ rfl rfl rfl rfl rfl rfl rfl rfl rfl rfl (ints_flat [x])) ?_) | (refine DOps.valK 3 rfl rfl rfl rfl ?_; refine ⟨_, OpVal.ld (y := dS b) tt_ok rfl rfl rfl rfl (by omega) (hld _ (Int.toNat_natCast _)), ?_⟩) | refine DOps.call1 (ts := [tT b, it 10, it 64]) rfl rfl rfl rfl rfl Tryz.func39 rfl (by kernel_rfl) rfl (by repeat (first | exact pures_nil | refine pures_cons ?_ ?_ | exact trivial | exact pure_aggB rfl | exact arr_pure _ | exact Load.pure _ | exact Area.pure _ | exact dvs_pure _ | exact pure_sc | exact pure_sl)) (cp) ?_ | refine DOps.call1 (ts := [it x, it 10]) rfl rfl rfl rfl rfl Tryz.func40 rfl (by kernel_rfl) rfl (by repeat (first | exact pures_nil | refine pures_cons ?_ ?_ | exact trivial | exact pure_aggB rfl | exact arr_pure _ | exact Load.pure _ | exact Area.pure _ | exact dvs_pure _ | exact pure_sc | exact pure_sl)) (cf) ?_ | (refine DOps.valK 13 rfl rfl rfl rfl ?_; refine ⟨_, OpVal.neNilF tt_ok rfl rfl rfl, ?_⟩) | (refine DOps.valK 13 rfl rfl rfl rfl ?_; refine ⟨_, OpVal.neqSF rfl rfl rfl hq, ?_⟩) | refine DOps.nil ?_ | (refine DOps.valK 0 rfl rfl rfl rfl ?_; first | refine ⟨_, (OpVal.move rfl rfl), ?_⟩ | refine ⟨_, (OpVal.moveT rfl rfl), ?_⟩) | (refine DOps.valK 1 rfl rfl rfl rfl ?_; first | refine ⟨_, (OpVal.assign rfl rfl), ?_⟩) | (refine DOps.valK 23 rfl rfl rfl rfl ?_; first | refine ⟨_, (OpVal.extract rfl rfl rfl), ?_⟩) | (refine DOps.valK 19 rfl rfl rfl rfl ?_; first | refine ⟨_, (OpVal.iaD tt_ok rfl rfl rfl rfl rfl rfl (by omega) (by omega)), ?_⟩) | (refine DOps.valK 2 rfl rfl rfl rfl ?_; first | refine ⟨_, (OpVal.pickF rfl rfl rfl), ?_⟩) | (refine DOps.k 14 rfl ?_; first | refine DOps.cmpT rfl rfl rfl rfl rfl rfl rfl (by omega) ?_ | refine DOps.cmpF rfl rfl rfl rfl rfl rfl rfl (by omega) ?_))
  refine DOps.appendI (xs := out) (ys := [x]) (zs := out ++ [x]) (n' := (out ++ [x]).length) tt_ok rfl rfl rfl rfl rfl rfl rfl rfl rfl (fun q hq => rfl) rfl (by simp only [List.length_cons, List.length_nil]; omega) (by simp) rfl (fun v2 => ?_)
  repeat (first | refine q_seq ?_ | refine q_then ?_ | refine q_block ?_ | refine DCode.region ?_ | refine DOps.nil ?_ | (refine DOps.valK 0 rfl rfl rfl rfl ?_; first | refine ⟨_, (OpVal.move rfl rfl), ?_⟩) | (refine DOps.valK 1 rfl rfl rfl rfl ?_; first | refine ⟨_, (OpVal.assign rfl rfl), ?_⟩) | (refine DOps.valK 10 rfl rfl rfl rfl ?_; first | refine ⟨_, (OpVal.add rfl rfl rfl (by omega) (by omega)), ?_⟩))
  exact ⟨(i + 1, out ++ [x], v2), ⟨hlt, by simp; omega, hnx⟩, by simp only []; omega, Sub.cons (vI_congr (by simp only []; omega)) (by (repeat (first | exact Off.refl _ _ | refine Sub.base ?_ | refine Sub.junk ?_ | refine Sub.cons (by rfl) ?_ | refine Off.cons rfl ?_ | refine Off.junks rfl ?_))), by (repeat (first | exact MSubX.nil | refine MSubX.skip rfl ?_ | refine MSubX.cons (by rfl) ?_))⟩
end Go.Proofs.YtejdeonbibbchaaGreatDoor
