/- The plain law of lemma (layer 15): words without their soft hyphens, counts, marks, heads. No program in sight. -/
import Derived.Lib.Join
import Derived.Lib.ReplaceLaws
import Derived.Lib.CountLaws
import Derived.Lib.ItoaNum
namespace Go.Proofs.YtdneiepigllnkaaDoor
open Go

/-! ### Plain -/
def pl : List UInt8 → List UInt8
  | [] => []
  | [x] => [x]
  | x :: y :: r => if x = 194 ∧ y = 173 then pl r else x :: pl (y :: r)
section
variable (sub : List UInt8)
end
theorem nDigits_le : ∀ (k u : Nat), u < 10 ^ (k + 1) → Lib.nDigits u ≤ k + 1
  | 0, u, h => by rw [Lib.nDigits_small (by simpa using h)]; exact Nat.le_refl _
  | k + 1, u, h => by
    by_cases h9 : u < 10
    · rw [Lib.nDigits_small h9]; omega
    · rw [Lib.nDigits_big h9]
      have := nDigits_le k (u / 10) (by rw [Nat.pow_succ] at h; omega)
      omega
theorem dec_length (u : Nat) (h : u < 18446744073709551616) : (Lib.decDigits u).length ≤ 20 := by
  rw [Lib.decDigits_length]
  exact nDigits_le 19 u (by omega)
theorem dec_step (u : Nat) (h : ¬ u < 10) : Lib.decDigits u = Lib.decDigits (u / 10) ++ [UInt8.ofNat (48 + u % 10)] := by
  rw [Lib.decDigits, dif_neg h]

/-! ### Words of a line -/
/-- How many of the first k words are plain as x. -/
def same (L : List (List UInt8)) (x : List UInt8) (k : Nat) : Nat := (L.take k).countP fun y => decide (pl y = pl x)
/-- The which a word is of those like it, and how many these are. -/
def cnt (L : List (List UInt8)) (at_ : Int) : Nat × Nat :=
  if 0 ≤ at_ ∧ at_ < L.length then (same L (L.getD at_.toNat []) (at_.toNat + 1), same L (L.getD at_.toNat []) L.length) else (0, 0)
def mark (L : List (List UInt8)) (at_ : Int) : List UInt8 :=
  if (cnt L at_).2 = 0 then [] else if (cnt L at_).2 = 1 then pl (L.getD at_.toNat []) else pl (L.getD at_.toNat []) ++ ([94] ++ Lib.itoa (cnt L at_).1)
def marks (L : List (List UInt8)) (a b : Nat) : List (List UInt8) := (List.range (b - a)).map fun i => mark L ((a + i : Nat) : Int)
end Go.Proofs.YtdneiepigllnkaaDoor
