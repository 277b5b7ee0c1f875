/- Contract of comb.Ways: what the call returns, and that memory stays as it is. -/
import Derived.Test.YtpdigiefldnpaaaBase
import Derived.Test.YtpdigiefldnpaaaCombMath
namespace Go.Proofs.Ytpdigiefldnpaaa
open Go.ChangeShapes Go.WideShapes Go.ChangeAt Go.RowKit
set_option maxRecDepth 20000
open CombMath

/-- Ways within its bounds. -/
theorem ways_nat (n k : Nat) (h1 : n ≤ 30) (h2 : k ≤ n) (w : World) :
    Calls Try.prog 20 #[.int .i64 n, .int .i64 k] w fun e w' => e = .returned (.tuple #[.int .i64 (wl n k), .int .i64 0]) ∧ w = w' := by
  go_enter Try.func20, Try.ntmps20
  go_wp2
  go_loop [6, 24] (fun o i => ∃ j : Nat, j ≤ k ∧ i = .int .i64 j ∧ o = .int .i64 (wl n j)) (fun _ i => k - (intOf i).toNat)
  case atStart => exact ⟨0, Nat.zero_le _, rfl, rfl⟩
  case round =>
    obtain ⟨j, hj, rfl, rfl⟩ := hrel
    have hb := wl_le n (by omega) j (by omega)
    have hm : wl n j * (n - j) ≤ 155117520 * 30 := Nat.mul_le_mul hb.1 (by omega)
    have hm' : ((wl n j : Int) * ((n : Int) - (j : Int))) ≤ 4653525600 := by
      have : ((wl n j * (n - j) : Nat) : Int) ≤ ((155117520 * 30 : Nat) : Int) := by exact_mod_cast hm
      rw [Int.natCast_mul, Int.natCast_sub (by omega)] at this
      exact this
    have hm0 : 0 ≤ ((wl n j : Int) * ((n : Int) - (j : Int))) := Int.mul_nonneg (by omega) (by omega)
    by_cases hlt : j < k
    · go_wp2
      go_round
      case rel =>
        refine ⟨j + 1, by omega, by go_num, ?_⟩
        refine v_int ?_
        show _ = ((wl n j * (n - j) / (j + 1) : Nat) : Int)
        rw [Int.natCast_ediv, Int.natCast_mul, Int.natCast_sub (by omega)]
        rfl
      case measure => simp [intOf]; omega
    · go_wp2
      go_ret2
      obtain rfl : j = k := by omega
      exact ⟨rfl, rfl⟩

theorem ways_c (n k : Int) (h0 : 0 ≤ k) (h1 : n ≤ 30) (h2 : k ≤ n) (w : World) :
    Calls Try.prog 20 #[.int .i64 n, .int .i64 k] w fun e w' => e = .returned (.tuple #[.int .i64 (wl n.toNat k.toNat), .int .i64 0]) ∧ w = w' := by
  obtain ⟨K, rfl⟩ := Int.eq_ofNat_of_zero_le h0
  obtain ⟨N, rfl⟩ := Int.eq_ofNat_of_zero_le (show 0 ≤ n by omega)
  exact ways_nat N K (by omega) (by omega) w
end Go.Proofs.Ytpdigiefldnpaaa
