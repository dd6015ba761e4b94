/- law02: ScaledLaws: the walk, all cases. -/
import Derived.Test.YtkjekbgfmkfkjaaDoorNoA
import Derived.Test.YtkjekbgfmkfkjaaDoorNoB
import Derived.Test.YtkjekbgfmkfkjaaDoorNoC
import Derived.Test.YtkjekbgfmkfkjaaDoorNoD
import Derived.Test.YtkjekbgfmkfkjaaDoorNoE
import Derived.Test.YtkjekbgfmkfkjaaDoorNoF
import Derived.Test.YtkjekbgfmkfkjaaDoorNoG
import Derived.Test.YtkjekbgfmkfkjaaDoorNoH
import Derived.Test.YtkjekbgfmkfkjaaDoorNoI
import Derived.Test.YtkjekbgfmkfkjaaDoorNoJ
import Derived.Test.YtkjekbgfmkfkjaaDoorNoK
import Derived.Test.YtkjekbgfmkfkjaaDoorNoL
import Derived.Test.YtkjekbgfmkfkjaaDoorNoM
import Derived.Test.YtkjekbgfmkfkjaaDoorNoN
import Derived.Test.YtkjekbgfmkfkjaaDoorNoO
import Derived.Test.YtkjekbgfmkfkjaaDoorNoP
namespace Go.Proofs.YtkjekbgfmkfkjaaDoor
open Go Go.RowKit Go.Proofs.YtkjekbgfmkfkjaaDoor.DL
set_option linter.constructorNameAsVariable false
set_option linter.unusedVariables false
set_option linter.unusedSimpArgs false
attribute [local irreducible] DCode DOps OpVal DCalls DCallsM DCallsB DCallsR thenQ seqQ inBlockQ endQ endQM OpNew DCf

set_option maxRecDepth 10000 in
set_option maxHeartbeats 8000000 in
theorem laws_d (a b c : Int) : DCalls Tryd.prog 12 [threeT a b c] (fun ts => ts = [bt true]) := by
  have cf := fixed_d
  have f1 := fits_d a
  have c1 := add_d a b
  have d1 := add_d b a
  rw [add_comm'] at d1
  have c3 := over_d a b
  have c4 := part_d a 65536 65536
  obtain ⟨x4, y4, e4, h4⟩ := part_four a
  rw [e4] at c4
  have c5 := part_d a b c
  have c6 := part_d (IntKind.i64.wrap (a - 1)) b c
  have ho := over_cases a b
  have hp := part_cases a b c
  have hf5 := fun h => (part_true (a := a) (num := b) (den := c) h).1
  generalize overW a b = R3 at *
  generalize partW a b c = R5 at *
  generalize hwe : IntKind.i64.wrap (a - 1) = w at *
  generalize partW w b c = R6 at *
  obtain ⟨x3, z3, y3⟩ := R3
  obtain ⟨x5, y5⟩ := R5
  obtain ⟨x6, y6⟩ := R6
  simp only [] at c3 c4 c5 c6 hp hf5
  generalize fitsB a = fa at *
  rcases sub_cases a b with ⟨hs, hb⟩ | hs
  · have c2 := sub_d a b
    have d2 := add_d (a - b) b
    rw [hs] at c2
    rw [hb] at d2
    simp only [] at c2 d2
    generalize addW a b = R1 at *
    obtain ⟨x1, y1⟩ := R1
    simp only [] at c1 d1
    rcases ho with ⟨q, r, ho, hq, r1, r2, l1, l2, hr⟩ | ho
    · obtain ⟨rfl, rfl, rfl⟩ : x3 = q ∧ z3 = r ∧ y3 = true := by
        simp only [Prod.mk.injEq] at ho; exact ho
      rcases hr with hr | ⟨hr1, hr2⟩ | ⟨hr1, hr2⟩
      · skip
        rcases h4 with ⟨rfl, rfl, rfl⟩ | ⟨rfl, rfl, rfl⟩
        · exact laws_s0f (x2 := 0) (y2 := true) (q := x3) (r := z3) cf f1 c1 d1 c2 d2 c3 c4 c5 c6 hwe hq r1 r2 l1 l2 hr hp
        · have h5 : y5 = false := by
            cases y5 with
            | false => rfl
            | true => exact absurd (hf5 rfl) (by simp)
          subst h5
          exact laws_s0g (x2 := 0) (y2 := true) (q := x3) (r := z3) (y5 := false) cf f1 c1 d1 c2 d2 c3 c4 c5 c6 hwe hq r1 r2 l1 l2 hr
      · skip
        rcases h4 with ⟨rfl, rfl, rfl⟩ | ⟨rfl, rfl, rfl⟩
        · exact laws_s1f (x2 := 0) (y2 := true) (q := x3) (r := z3) cf f1 c1 d1 c2 d2 c3 c4 c5 c6 hwe hq r1 r2 l1 l2 hr1 hr2 hp
        · have h5 : y5 = false := by
            cases y5 with
            | false => rfl
            | true => exact absurd (hf5 rfl) (by simp)
          subst h5
          exact laws_s1g (x2 := 0) (y2 := true) (q := x3) (r := z3) (y5 := false) cf f1 c1 d1 c2 d2 c3 c4 c5 c6 hwe hq r1 r2 l1 l2 hr1 hr2
      · skip
        rcases h4 with ⟨rfl, rfl, rfl⟩ | ⟨rfl, rfl, rfl⟩
        · exact laws_s2f (x2 := 0) (y2 := true) (q := x3) (r := z3) cf f1 c1 d1 c2 d2 c3 c4 c5 c6 hwe hq r1 r2 l1 l2 hr1 hr2 hp
        · have h5 : y5 = false := by
            cases y5 with
            | false => rfl
            | true => exact absurd (hf5 rfl) (by simp)
          subst h5
          exact laws_s2g (x2 := 0) (y2 := true) (q := x3) (r := z3) (y5 := false) cf f1 c1 d1 c2 d2 c3 c4 c5 c6 hwe hq r1 r2 l1 l2 hr1 hr2
    · obtain ⟨rfl, rfl, rfl⟩ : x3 = 0 ∧ z3 = 0 ∧ y3 = false := by
        simp only [Prod.mk.injEq] at ho; exact ho
      rcases h4 with ⟨rfl, rfl, rfl⟩ | ⟨rfl, rfl, rfl⟩
      · exact laws_s3f (x2 := 0) (y2 := true) (q := 0) (r := 0) cf f1 c1 d1 c2 d2 c3 c4 c5 c6 hwe hp
      · have h5 : y5 = false := by
          cases y5 with
          | false => rfl
          | true => exact absurd (hf5 rfl) (by simp)
        subst h5
        exact laws_s3g (x2 := 0) (y2 := true) (q := 0) (r := 0) (y5 := false) cf f1 c1 d1 c2 d2 c3 c4 c5 c6 hwe
  · have c2 := sub_d a b
    have d2 := add_d 0 b
    rw [hs] at c2
    generalize addW 0 b = R2 at *
    obtain ⟨x2, y2⟩ := R2
    simp only [] at c2 d2
    generalize addW a b = R1 at *
    obtain ⟨x1, y1⟩ := R1
    simp only [] at c1 d1
    rcases ho with ⟨q, r, ho, hq, r1, r2, l1, l2, hr⟩ | ho
    · obtain ⟨rfl, rfl, rfl⟩ : x3 = q ∧ z3 = r ∧ y3 = true := by
        simp only [Prod.mk.injEq] at ho; exact ho
      rcases hr with hr | ⟨hr1, hr2⟩ | ⟨hr1, hr2⟩
      · skip
        rcases h4 with ⟨rfl, rfl, rfl⟩ | ⟨rfl, rfl, rfl⟩
        · exact laws_n0f (x2 := x2) (y2 := y2) (q := x3) (r := z3) cf f1 c1 d1 c2 d2 c3 c4 c5 c6 hwe hq r1 r2 l1 l2 hr hp
        · have h5 : y5 = false := by
            cases y5 with
            | false => rfl
            | true => exact absurd (hf5 rfl) (by simp)
          subst h5
          exact laws_n0g (x2 := x2) (y2 := y2) (q := x3) (r := z3) (y5 := false) cf f1 c1 d1 c2 d2 c3 c4 c5 c6 hwe hq r1 r2 l1 l2 hr
      · skip
        rcases h4 with ⟨rfl, rfl, rfl⟩ | ⟨rfl, rfl, rfl⟩
        · exact laws_n1f (x2 := x2) (y2 := y2) (q := x3) (r := z3) cf f1 c1 d1 c2 d2 c3 c4 c5 c6 hwe hq r1 r2 l1 l2 hr1 hr2 hp
        · have h5 : y5 = false := by
            cases y5 with
            | false => rfl
            | true => exact absurd (hf5 rfl) (by simp)
          subst h5
          exact laws_n1g (x2 := x2) (y2 := y2) (q := x3) (r := z3) (y5 := false) cf f1 c1 d1 c2 d2 c3 c4 c5 c6 hwe hq r1 r2 l1 l2 hr1 hr2
      · skip
        rcases h4 with ⟨rfl, rfl, rfl⟩ | ⟨rfl, rfl, rfl⟩
        · exact laws_n2f (x2 := x2) (y2 := y2) (q := x3) (r := z3) cf f1 c1 d1 c2 d2 c3 c4 c5 c6 hwe hq r1 r2 l1 l2 hr1 hr2 hp
        · have h5 : y5 = false := by
            cases y5 with
            | false => rfl
            | true => exact absurd (hf5 rfl) (by simp)
          subst h5
          exact laws_n2g (x2 := x2) (y2 := y2) (q := x3) (r := z3) (y5 := false) cf f1 c1 d1 c2 d2 c3 c4 c5 c6 hwe hq r1 r2 l1 l2 hr1 hr2
    · obtain ⟨rfl, rfl, rfl⟩ : x3 = 0 ∧ z3 = 0 ∧ y3 = false := by
        simp only [Prod.mk.injEq] at ho; exact ho
      rcases h4 with ⟨rfl, rfl, rfl⟩ | ⟨rfl, rfl, rfl⟩
      · exact laws_n3f (x2 := x2) (y2 := y2) (q := 0) (r := 0) cf f1 c1 d1 c2 d2 c3 c4 c5 c6 hwe hp
      · have h5 : y5 = false := by
          cases y5 with
          | false => rfl
          | true => exact absurd (hf5 rfl) (by simp)
        subst h5
        exact laws_n3g (x2 := x2) (y2 := y2) (q := 0) (r := 0) (y5 := false) cf f1 c1 d1 c2 d2 c3 c4 c5 c6 hwe
end Go.Proofs.YtkjekbgfmkfkjaaDoor
