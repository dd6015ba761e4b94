/- The plain law of lemma (layer 15): marks tell words apart; what heads begin and end with. No program in sight. -/
import Derived.Test.YtdneiepigllnkaaDoorLA
namespace Go.Proofs.YtdneiepigllnkaaDoor
open Go

/-! ### A number's digits tell it -/
theorem digit_toNat {d : Nat} (h : d < 10) : (UInt8.ofNat (48 + d)).toNat = 48 + d := by
  rw [UInt8.toNat_ofNat', Nat.mod_eq_of_lt (by omega)]
theorem itoa_nat (n : Nat) : Lib.itoa (n : Int) = Lib.decDigits n := by
  rw [Lib.itoa, if_neg (by omega)]; rfl
end Go.Proofs.YtdneiepigllnkaaDoor
