/- Contracts of gate.Keep and gate.Level: what each call returns, and that memory stays as it is. -/
import Derived.Test.YtlkcdknbkchglaaBase
namespace Go.Proofs.Ytlkcdknbkchglaa
open Go.ChangeShapes Go.WideShapes Go.ChangeAt Go.RowKit

/-- Keep where both numbers are draws. -/
theorem keep_c (th r : Int) (h1 : 0 ≤ th) (h2 : th < 72057594037927936) (h3 : 0 ≤ r) (h4 : r < 72057594037927936) (w : World) :
    Calls Try.prog 15 #[.int .i64 th, .int .i64 r] w fun e w' => e = .returned (.tuple #[.bool (decide (th ≤ r)), .int .i64 0]) ∧ w = w' := by
  go_enter Try.func15, Try.ntmps15
  go_wp2
  go_ret2
  exact ⟨rfl, rfl⟩

def lev (n : Nat) : Int := 72057594037927936 - 72057594037927936 / 2 ^ n
theorem lev_nat (n : Nat) : lev n = 72057594037927936 - ((72057594037927936 / 2 ^ n : Nat) : Int) := by
  unfold lev; rw [Int.natCast_ediv, Int.natCast_pow]; rfl
theorem lev_lo (n : Nat) : 0 ≤ lev n := by
  unfold lev
  have : (72057594037927936 : Int) / 2 ^ n ≤ 72057594037927936 := Int.ediv_le_self _ (by omega)
  omega
theorem lev_hi (n : Nat) : lev n ≤ 72057594037927936 := by
  unfold lev
  have : 0 ≤ (72057594037927936 : Int) / 2 ^ n := Int.ediv_nonneg (by omega) (Int.le_of_lt (Int.pow_pos (by omega)))
  omega
/-- Level within its bounds. -/
theorem level_c (n : Int) (h1 : 0 ≤ n) (h2 : n ≤ 20) (w : World) :
    Calls Try.prog 22 #[.int .i64 n] w fun e w' => e = .returned (.tuple #[.int .i64 (lev n.toNat), .int .i64 0]) ∧ w = w' := by
  go_enter Try.func22, Try.ntmps22
  go_wp2
  go_ret2
  have a := lev_lo n.toNat
  have b := lev_hi n.toNat
  exact ⟨ret_tup_ii (IntWalk.wrap64_in _ ⟨by show -_ ≤ lev n.toNat; omega, by show lev n.toNat ≤ _; omega⟩) rfl, rfl⟩
end Go.Proofs.Ytlkcdknbkchglaa
