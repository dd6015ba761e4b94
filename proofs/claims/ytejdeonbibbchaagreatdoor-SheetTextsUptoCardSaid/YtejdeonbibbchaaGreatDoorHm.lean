/- law25: a side's words, in order: the walk. -/
import Derived.Test.YtejdeonbibbchaaGreatDoorHl
import Derived.Test.YtejdeonbibbchaaGreatDoorHh
set_option linter.unusedVariables false
set_option linter.unusedSimpArgs false
set_option linter.constructorNameAsVariable false
namespace Go.Proofs.YtejdeonbibbchaaGreatDoor
open Go Go.RowKit Go.Proofs.YtejdeonbibbchaaGreatDoor.DL
set_option linter.unusedVariables false
set_option linter.unusedSimpArgs false
attribute [local irreducible] DCode DOps OpVal DCalls DCallsM DCallsB DCallsR thenQ seqQ inBlockQ endQ endQM OpNew DCf

/-- The places of n boxes, as they come. -/
def idx (n : Nat) : List Int := (List.range n).map fun k => ((k : Nat) : Int)
theorem idx_len (n : Nat) : (idx n).length = n := by simp [idx]
theorem idx_inR (l : List Bx) : InR l (idx l.length) := fun x hx => by
  obtain ⟨k, hk, rfl⟩ := List.mem_map.1 hx
  have := List.mem_range.1 hk
  omega
theorem idx_map (l : List Bx) : (idx l.length).map (gB l) = l := by
  apply List.ext_getElem?
  intro i
  rw [idx, List.map_map, List.getElem?_map]
  by_cases h : i < l.length
  · rw [List.getElem?_range h, List.getElem?_eq_getElem h]
    show some (gB l ((i : Nat) : Int)) = _
    rw [gB, Int.toNat_natCast, List.getD_eq_getElem?_getD, List.getElem?_eq_getElem h]
    rfl
  · rw [List.getElem?_eq_none (by simpa using h), List.getElem?_eq_none (by omega)]
    rfl
theorem stabA_perm (lt : Int → Int → Bool) (n : Nat) : ∀ (f : Nat) (xs : List Int) (a : Nat), n - a ≤ f → n ≤ xs.length → (stabA lt n xs a).Perm xs
  | f, xs, a, hf, hn => by
    rw [stabA]
    split
    · rename_i h
      cases f with
      | zero => omega
      | succ f =>
        have p1 := insUp_perm lt a xs (a + 20 - (a + 1)) (by omega)
        exact (stabA_perm lt n f _ _ (by omega) (by rw [p1.length_eq]; exact hn)).trans p1
    · exact insUp_perm lt a xs _ (by omega)
theorem stabB_perm (lt : Int → Int → Bool) (n : Nat) : ∀ (f : Nat) (xs : List Int) (bs : Nat), n - bs ≤ f → n ≤ xs.length → (stabB lt n xs bs).Perm xs
  | f, xs, bs, hf, hn => by
    rw [stabB]
    split
    · rename_i h
      cases f with
      | zero => omega
      | succ f =>
        have p1 := passA_perm lt n bs h.1 _ xs 0 (Nat.le_refl _) hn
        exact (stabB_perm lt n f _ _ (by omega) (by rw [p1.length_eq]; exact hn)).trans p1
    · exact .refl _
theorem sortS_perm (lt : Int → Int → Bool) (xs : List Int) : (sortS lt xs).Perm xs := by
  have p1 := stabA_perm lt xs.length _ xs 0 (Nat.le_refl _) (Nat.le_refl _)
  exact (stabB_perm lt xs.length _ _ 20 (Nat.le_refl _) (by rw [p1.length_eq]; exact Nat.le_refl _)).trans p1
/-- Boxes, in order. -/
def sortB (l : List Bx) : List Bx := (sortS (ltX l) (idx l.length)).map (gB l)
theorem sortB_perm (l : List Bx) : (sortB l).Perm l := by
  have := (sortS_perm (ltX l) (idx l.length)).map (gB l)
  rwa [idx_map] at this
theorem sortB_len (l : List Bx) : (sortB l).length = l.length := (sortB_perm l).length_eq
def wordB (side : Int) (b : Bx) : Bool := decide (b.kind = 0) && decide (b.side = side)
def readB (f : Fl) (side : Int) : List Bx := sortB (f.boxes.filter (wordB side))
theorem filter_snoc {L : List Bx} {p : Bx → Bool} {i : Nat} (h : i < L.length) : (L.take (i + 1)).filter p = (L.take i).filter p ++ if p (L.getD i bx0) then [L.getD i bx0] else [] := by
  obtain ⟨b, hb⟩ : ∃ b, L[i]? = some b := ⟨L[i], List.getElem?_eq_getElem h⟩
  rw [take_snoc hb, List.getD_eq_getElem?_getD, hb, List.filter_append]
  simp only [Option.getD_some]
  cases hp : p b <;> simp [hp]
set_option maxRecDepth 10000 in
set_option maxHeartbeats 8000000 in
theorem reads_d (f : Fl) (side : Int) (hn : f.boxes.length ≤ 4194304) : DCalls Tryz.prog 14 [f.tv, it side] (fun ts => ts = [tB (readB f side)]) := by
  refine DCalls.enter tt_ok Tryz.func14 rfl Tryz.ntmps14 (by simp) (by repeat (first | exact pures_nil | refine pures_cons ?_ ?_ | exact trivial | exact pure_aggB rfl | exact arr_pure _ | exact Load.pure _ | exact Area.pure _ | exact dvs_pure _ | exact pure_sc | exact pure_sl)) ?_
  repeat (first | refine q_seq ?_ | refine DCode.seq ?_ | refine DCode.region ?_ | refine DCode.block ?_ | refine DOps.val (d := 5) (r := .v (.one (.row 900 (.slice none 0 0)))) rfl rfl rfl (OpVal.nilRow (.inl rfl) rfl) ?_ | refine DOps.nil ?_ | (refine DOps.valK 0 rfl rfl rfl rfl ?_; first | refine ⟨_, (OpVal.move rfl rfl), ?_⟩) | (refine DOps.valK 1 rfl rfl rfl rfl ?_; first | refine ⟨_, (OpVal.assign rfl rfl), ?_⟩) | (refine DOps.valK 3 rfl rfl rfl rfl ?_; first | refine ⟨_, (OpVal.load1 tt_ok rfl rfl rfl rfl rfl rfl), ?_⟩) | (refine DOps.valK 18 rfl rfl rfl rfl ?_; first | refine ⟨_, (OpVal.fa tt_ok rfl rfl rfl rfl rfl rfl), ?_⟩) | (refine DOps.valK 17 rfl rfl rfl rfl ?_; first | refine ⟨_, (OpVal.lenD tt_ok rfl rfl rfl rfl rfl rfl rfl), ?_⟩) | (refine DOps.k 30 rfl ?_; refine DOps.boxS rfl rfl rfl rfl rfl rfl ?_))
  refine DCode.nilRow 900 37 9 ?_
  refine DCode.loopG (fun s : Nat × List Bx × Value => [(11, vI .i64 (s.1 : Nat)), (5, .v (.one (.row 900 s.2.2)))]) [5, 7, 11, 12, 13, 14, 15, 16, 17, 18, 19, 20, 21, 22, 23, 24, 25, 26, 27, 28] (fun s => [(900, some (.row 37 9 s.2.1.length s.2.2 ((s.2.1.flatMap Bx.dv).map .d) false))]) (fun x => x.1 ≤ f.boxes.length ∧ x.2.1 = (f.boxes.take x.1).filter (wordB side)) (fun x => f.boxes.length - x.1) (0, [], .slice none 0 0) ⟨Nat.zero_le _, rfl⟩ (fun i _ => ⟨trivial, trivial, trivial⟩) (fun i _ => ⟨⟨_, rfl, rowOkB⟩, trivial⟩) (by (repeat (first | exact Off.refl _ _ | refine Sub.base ?_ | refine Sub.junk ?_ | refine Sub.cons (by rfl) ?_ | refine Off.cons rfl ?_ | refine Off.junks rfl ?_))) (by (repeat (first | exact MSubX.nil | refine MSubX.skip rfl ?_ | refine MSubX.cons (by rfl) ?_))) ?_
  intro ⟨i, out, v⟩ ⟨hi, ho⟩
  simp only [] at hi ho
  show DCode _ _ _ _ _ ([(11, vI .i64 (i : Nat)), (5, .v (.one (.row 900 v)))] ++ junks _ _) ([(900, some (.row 37 9 out.length v ((out.flatMap Bx.dv).map .d) false))] ++ _)
  have hol : out.length ≤ i := by
    rw [ho]
    exact Nat.le_trans (List.length_filter_le _ _) (by rw [List.length_take]; exact Nat.min_le_left _ _)
  by_cases hlt : i < f.boxes.length
  · have hsn := filter_snoc (p := wordB side) hlt
    rw [← ho] at hsn
    by_cases h1 : (f.boxes.getD i bx0).kind = 0
    · by_cases h2 : (f.boxes.getD i bx0).side = side
      · rw [if_pos (by rw [wordB, decide_eq_true h1, decide_eq_true h2]; rfl)] at hsn
        repeat (first | refine q_seq ?_ | refine DCode.seq ?_ | refine DCode.region ?_ | refine DCode.block ?_ | refine DCode.skip ?_ | refine DCode.condT rfl ?_ | (refine DOps.valK 3 rfl rfl rfl rfl ?_; refine ⟨_, OpVal.ldX tt_ok rfl rfl rfl (Int.toNat_natCast i) rfl, ?_⟩) | (refine DOps.valK 3 rfl rfl rfl rfl ?_; refine ⟨.v ((f.boxes.getD i bx0)).tv, OpVal.cast (OpVal.load tt_ok rfl rfl rfl rfl rfl rfl) rfl, ?_⟩) | (refine DOps.k 28 rfl ?_; refine DOps.new (r := .v (.one (.d (.sl 1 ((f.boxes.getD i bx0).dv).length fun _ j => ((f.boxes.getD i bx0).dv).getD j (di 0))))) rfl rfl rfl (OpNew.bsl tt_ok ((f.boxes.getD i bx0).dv) _ rfl rfl rfl rfl rfl rfl rfl rfl rfl rfl (one_x ((f.boxes.getD i bx0).dv) rfl)) ?_) | refine DOps.nil ?_ | (refine DOps.valK 0 rfl rfl rfl rfl ?_; first | refine ⟨_, (OpVal.move rfl rfl), ?_⟩) | (refine DOps.valK 3 rfl rfl rfl rfl ?_; first | refine ⟨_, (OpVal.load1 tt_ok rfl rfl rfl rfl rfl rfl), ?_⟩) | (refine DOps.valK 18 rfl rfl rfl rfl ?_; first | refine ⟨_, (OpVal.fa tt_ok rfl rfl rfl rfl rfl rfl), ?_⟩) | (refine DOps.valK 19 rfl rfl rfl rfl ?_; first | refine ⟨_, (OpVal.iaD tt_ok rfl rfl rfl rfl rfl rfl (by omega) (by omega)), ?_⟩) | (refine DOps.valK 2 rfl rfl rfl rfl ?_; first | refine ⟨_, (OpVal.pickT rfl rfl rfl), ?_⟩) | (refine DOps.k 12 rfl ?_; first | refine DOps.cmpT rfl rfl rfl rfl rfl rfl rfl (by omega) ?_ | refine DOps.cmpF rfl rfl rfl rfl rfl rfl rfl (by omega) ?_) | (refine DOps.k 14 rfl ?_; first | refine DOps.cmpT rfl rfl rfl rfl rfl rfl rfl (by omega) ?_ | refine DOps.cmpF rfl rfl rfl rfl rfl rfl rfl (by omega) ?_) | (refine DOps.k 29 rfl ?_; refine DOps.alS tt_ok rfl rfl rfl rfl rfl rfl rfl ?_) | (refine DOps.k 31 rfl ?_; refine DOps.store tt_ok rfl rfl rfl rfl rfl rfl rfl rfl (Nat.le_of_ble_eq_true rfl) rfl ?_))
        generalize f.boxes.getD i bx0 = bb at *
        refine DOps.appendF (n' := (out ++ [bb]).length) (cs' := ((out ++ [bb]).flatMap Bx.dv).map .d) tt_ok (Bx.dv (bb)) rfl rfl rfl rfl rfl rfl rfl rfl rfl rfl rfl rfl rfl (by omega) (by show ((out).length + 1) * 80 ≤ 140737488355328; omega) (by show (out).length + 1 ≤ 9223372036854775807; omega) rfl (one_x _ rfl) (by simp) (snoc_x _ _) fun v' => ?_
        repeat (first | refine q_seq ?_ | refine q_then ?_ | refine q_block ?_ | refine DCode.region ?_ | refine DOps.nil ?_ | (refine DOps.valK 0 rfl rfl rfl rfl ?_; first | refine ⟨_, (OpVal.move rfl rfl), ?_⟩) | (refine DOps.valK 1 rfl rfl rfl rfl ?_; first | refine ⟨_, (OpVal.assign rfl rfl), ?_⟩) | (refine DOps.valK 10 rfl rfl rfl rfl ?_; first | refine ⟨_, (OpVal.add rfl rfl rfl (by omega) (by omega)), ?_⟩))
        exact ⟨(i + 1, out ++ [bb], v'), ⟨hlt, hsn.symm⟩, by simp only []; omega, Sub.cons (vI_congr (by simp only []; omega)) (by (repeat (first | exact Off.refl _ _ | refine Sub.base ?_ | refine Sub.junk ?_ | refine Sub.cons (by rfl) ?_ | refine Off.cons rfl ?_ | refine Off.junks rfl ?_))), by (repeat (first | exact MSubX.nil | refine MSubX.skip rfl ?_ | refine MSubX.cons (by rfl) ?_))⟩
      · rw [if_neg (by rw [wordB, decide_eq_false h2]; simp), List.append_nil] at hsn
        repeat (first | refine q_seq ?_ | refine q_then ?_ | refine q_block ?_ | refine DCode.seq ?_ | refine DCode.region ?_ | refine DCode.block ?_ | refine DCode.skip ?_ | refine DCode.condT rfl ?_ | refine DCode.condF rfl ?_ | (refine DOps.valK 3 rfl rfl rfl rfl ?_; refine ⟨_, OpVal.ldX tt_ok rfl rfl rfl (Int.toNat_natCast i) rfl, ?_⟩) | refine DOps.nil ?_ | (refine DOps.valK 0 rfl rfl rfl rfl ?_; first | refine ⟨_, (OpVal.move rfl rfl), ?_⟩) | (refine DOps.valK 3 rfl rfl rfl rfl ?_; first | refine ⟨_, (OpVal.load1 tt_ok rfl rfl rfl rfl rfl rfl), ?_⟩) | (refine DOps.valK 10 rfl rfl rfl rfl ?_; first | refine ⟨_, (OpVal.add rfl rfl rfl (by omega) (by omega)), ?_⟩) | (refine DOps.valK 18 rfl rfl rfl rfl ?_; first | refine ⟨_, (OpVal.fa tt_ok rfl rfl rfl rfl rfl rfl), ?_⟩) | (refine DOps.valK 19 rfl rfl rfl rfl ?_; first | refine ⟨_, (OpVal.iaD tt_ok rfl rfl rfl rfl rfl rfl (by omega) (by omega)), ?_⟩) | (refine DOps.valK 2 rfl rfl rfl rfl ?_; first | refine ⟨_, (OpVal.pickT rfl rfl rfl), ?_⟩) | (refine DOps.k 12 rfl ?_; first | refine DOps.cmpT rfl rfl rfl rfl rfl rfl rfl (by omega) ?_ | refine DOps.cmpF rfl rfl rfl rfl rfl rfl rfl (by omega) ?_) | (refine DOps.k 14 rfl ?_; first | refine DOps.cmpT rfl rfl rfl rfl rfl rfl rfl (by omega) ?_ | refine DOps.cmpF rfl rfl rfl rfl rfl rfl rfl (by omega) ?_) | (refine DOps.k 29 rfl ?_; refine DOps.alS tt_ok rfl rfl rfl rfl rfl rfl rfl ?_) | (refine DOps.k 31 rfl ?_; refine DOps.store tt_ok rfl rfl rfl rfl rfl rfl rfl rfl (Nat.le_of_ble_eq_true rfl) rfl ?_))
        exact ⟨(i + 1, out, v), ⟨hlt, hsn.symm⟩, by simp only []; omega, Sub.cons (vI_congr (by simp only []; omega)) (by (repeat (first | exact Off.refl _ _ | refine Sub.base ?_ | refine Sub.junk ?_ | refine Sub.cons (by rfl) ?_ | refine Off.cons rfl ?_ | refine Off.junks rfl ?_))), by (repeat (first | exact MSubX.nil | refine MSubX.skip rfl ?_ | refine MSubX.cons (by rfl) ?_))⟩
    · rw [if_neg (by rw [wordB, decide_eq_false h1]; simp), List.append_nil] at hsn
      repeat (first | refine q_seq ?_ | refine q_then ?_ | refine q_block ?_ | refine DCode.seq ?_ | refine DCode.region ?_ | refine DCode.block ?_ | refine DCode.skip ?_ | refine DCode.condT rfl ?_ | refine DCode.condF rfl ?_ | (refine DOps.valK 3 rfl rfl rfl rfl ?_; refine ⟨_, OpVal.ldX tt_ok rfl rfl rfl (Int.toNat_natCast i) rfl, ?_⟩) | refine DOps.nil ?_ | refine DOps.off rfl rfl rfl ?_ | (refine DOps.valK 0 rfl rfl rfl rfl ?_; first | refine ⟨_, (OpVal.move rfl rfl), ?_⟩) | (refine DOps.valK 3 rfl rfl rfl rfl ?_; first | refine ⟨_, (OpVal.load1 tt_ok rfl rfl rfl rfl rfl rfl), ?_⟩) | (refine DOps.valK 10 rfl rfl rfl rfl ?_; first | refine ⟨_, (OpVal.add rfl rfl rfl (by omega) (by omega)), ?_⟩) | (refine DOps.valK 18 rfl rfl rfl rfl ?_; first | refine ⟨_, (OpVal.fa tt_ok rfl rfl rfl rfl rfl rfl), ?_⟩) | (refine DOps.valK 19 rfl rfl rfl rfl ?_; first | refine ⟨_, (OpVal.iaD tt_ok rfl rfl rfl rfl rfl rfl (by omega) (by omega)), ?_⟩) | (refine DOps.valK 2 rfl rfl rfl rfl ?_; first | refine ⟨_, (OpVal.pickF rfl rfl rfl), ?_⟩) | (refine DOps.k 12 rfl ?_; first | refine DOps.cmpT rfl rfl rfl rfl rfl rfl rfl (by omega) ?_ | refine DOps.cmpF rfl rfl rfl rfl rfl rfl rfl (by omega) ?_) | (refine DOps.k 14 rfl ?_; first | refine DOps.cmpT rfl rfl rfl rfl rfl rfl rfl (by omega) ?_ | refine DOps.cmpF rfl rfl rfl rfl rfl rfl rfl (by omega) ?_) | (refine DOps.k 29 rfl ?_; refine DOps.alS tt_ok rfl rfl rfl rfl rfl rfl rfl ?_) | (refine DOps.k 31 rfl ?_; refine DOps.store tt_ok rfl rfl rfl rfl rfl rfl rfl rfl (Nat.le_of_ble_eq_true rfl) rfl ?_))
      exact ⟨(i + 1, out, v), ⟨hlt, hsn.symm⟩, by simp only []; omega, Sub.cons (vI_congr (by simp only []; omega)) (by (repeat (first | exact Off.refl _ _ | refine Sub.base ?_ | refine Sub.junk ?_ | refine Sub.cons (by rfl) ?_ | refine Off.cons rfl ?_ | refine Off.junks rfl ?_))), by (repeat (first | exact MSubX.nil | refine MSubX.skip rfl ?_ | refine MSubX.cons (by rfl) ?_))⟩
  · obtain rfl : i = f.boxes.length := by omega
    rw [List.take_length] at ho
    have hR : readB f side = sortB out := by rw [readB, ho]
    rw [hR]
    have e : (out.flatMap Bx.dv).map CV.d = bC out (idx out.length) := by rw [bC, idx_map]; rfl
    rw [e]
    have cs := sortStable_d out (idx out.length) (by rw [idx_len]; omega) (idx_inR out)
    rw [idx_len, show bC out (sortS (ltX out) (idx out.length)) = ((sortB out).flatMap Bx.dv).map CV.d from rfl] at cs
    have hsl := sortB_len out
    generalize sortB out = S at *
    generalize bC out (idx out.length) = C0 at *
    have hp0 : ∀ c ∈ C0, c.pure := by rw [← e]; exact pure_ds _
    repeat (first | refine q_seq ?_ | refine q_seqX ?_ | refine q_thenX ?_ | refine q_blockX ?_ | refine DCode.seq ?_ | refine DCode.region ?_ | refine DCode.exit ?_ | refine DCode.condF rfl ?_ | refine DOps.nil ?_ | (refine DOps.valK 0 rfl rfl rfl rfl ?_; first | refine ⟨_, (OpVal.move rfl rfl), ?_⟩) | (refine DOps.k 14 rfl ?_; first | refine DOps.cmpT rfl rfl rfl rfl rfl rfl rfl (by omega) ?_ | refine DOps.cmpF rfl rfl rfl rfl rfl rfl rfl (by omega) ?_))
    refine DOps.callRow rfl rfl rfl rfl Tryz.func32 rfl (by kernel_rfl) rfl rfl (by exact pures_cons trivial pures_nil) hp0 cs (fun cs' h => ?_)
    subst h
    refine DOps.nil ?_
    repeat (first | refine q_then ?_ | refine q_thenX ?_ | refine q_thenR ?_ | refine q_block ?_ | refine q_blockX ?_ | refine q_blockR ?_ | refine q_seq ?_ | refine q_seqX ?_ | refine q_seqR ?_)
    rw [← hsl]
    refine DCode.freeze (b := 900) (d := 5) (S.flatMap Bx.dv) (elB S) rfl rfl (flat_x (k := 9) _ (fun _ => rfl) _) ?_
    repeat (first | refine q_seq ?_ | refine DCode.seq ?_ | refine DCode.region ?_ | refine DCode.ret ?_ | refine DOps.nil ?_ | (refine DOps.valK 0 rfl rfl rfl rfl ?_; first | refine ⟨_, (OpVal.move rfl rfl), ?_⟩) | (refine DOps.valK 1 rfl rfl rfl rfl ?_; first | refine ⟨_, (OpVal.assign rfl rfl), ?_⟩))
    exact endQ.ret rfl (.cons (.tmp rfl) .nil) (pures_cons trivial pures_nil) rfl
end Go.Proofs.YtejdeonbibbchaaGreatDoor
