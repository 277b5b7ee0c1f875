/- The threshold of a level, as a number (plain Lean). -/
import Derived.Test.YtgodgfnfaiiohaaGreatDoorBase
namespace Go.Proofs.YtgodgfnfaiiohaaGreatDoor

def lev (n : Nat) : Int := 72057594037927936 - 72057594037927936 / 2 ^ n
theorem lev_lo (n : Nat) : 0 ≤ lev n := by
  unfold lev
  have : (72057594037927936 : Int) / 2 ^ n ≤ 72057594037927936 := Int.ediv_le_self _ (by omega)
  omega
theorem lev_hi (n : Nat) : lev n ≤ 72057594037927936 := by
  unfold lev
  have : 0 ≤ (72057594037927936 : Int) / 2 ^ n := Int.ediv_nonneg (by omega) (Int.le_of_lt (Int.pow_pos (by omega)))
  omega
end Go.Proofs.YtgodgfnfaiiohaaGreatDoor
