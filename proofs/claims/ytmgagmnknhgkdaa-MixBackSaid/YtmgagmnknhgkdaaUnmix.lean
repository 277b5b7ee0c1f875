/- Contracts of mix.inverse, mix.unshift and mix.Unmix. -/
import Derived.Test.YtmgagmnknhgkdaaMix
import Derived.Test.YtmgagmnknhgkdaaUnmixMath
import Derived.Test.YtmgagmnknhgkdaaShelf
import Derived.Laws.Bits64
namespace Go.Proofs.Ytmgagmnknhgkdaa
open Go.ChangeShapes Go.WideShapes Go.ChangeAt Go.RowKit
open MixMath

theorem len_two (w : World) : Calls Try.prog 58 #[.int .u64 2] w fun e w' => e = .returned (.int .i64 2) ∧ w = w' :=
  (Try.bits_Len 2 w (by omega) (by omega)).mono fun e w' h => ⟨h.1.trans (by rw [show Lib.bitLen (2 : Int).toNat = 2 from by decide +kernel]; rfl), h.2.symm⟩
theorem inv_lt (a : Nat) (h : a < M64) : ∀ k, inv a k < M64
  | 0 => h
  | _ + 1 => Nat.mod_lt _ (by decide)
theorem inv_step (a X : Nat) (ha : a < M64) (hX : X < M64) : IntKind.u64.wrap ((X : Int) * IntKind.u64.wrap (2 - IntKind.u64.wrap ((a : Int) * (X : Int)))) = ((X * ((2 + M64 * M64 - a * X) % M64) % M64 : Nat) : Int) := by
  have hle : a * X ≤ M64 * M64 := Nat.mul_le_mul (Nat.le_of_lt ha) (Nat.le_of_lt hX)
  rw [IntKind.wrap_u64, IntKind.wrap_u64, IntKind.wrap_u64, Int.natCast_emod, Int.natCast_mul, Int.natCast_emod, Int.natCast_sub (by omega), Int.natCast_mul]
  unfold M64
  congr 2
  generalize (a : Int) * (X : Int) = z
  omega
theorem inverse_c (a : Nat) (ha : a < 18446744073709551616) (w : World) :
    Calls Try.prog 46 #[.int .u64 a] w fun e w' => e = .returned (.int .u64 (inv a 6 : Nat)) ∧ w = w' := by
  have HA := hidp ha
  clear ha
  go_enter Try.func46, Try.ntmps46
  go_wp2_with fail
  go_loop [3, 5] (fun x i => ∃ k : Nat, k ≤ 6 ∧ i = .int .i64 k ∧ x = .int .u64 (inv a k : Nat)) (fun _ i => 6 - (intOf i).toNat)
  case atStart => exact ⟨0, by omega, rfl, rfl⟩
  case round =>
    obtain ⟨k, hk, rfl, rfl⟩ := hrel
    by_cases hlt : k < 6
    · have hlt' : (k : Int) < 6 := by omega
      go_wp2_with fail
      go_round
      case rel => exact ⟨k + 1, by omega, by go_num, v_int (inv_step a _ HA.out (inv_lt a HA.out k))⟩
      case measure => simp [intOf]; omega
    · obtain rfl : k = 6 := by omega
      go_wp2_with fail
      go_ret
      exact ⟨rfl, rfl⟩
theorem xor_step (y X n : Nat) (hy : y < M64) (hX : X < M64) : bits BinOp.xor IntKind.u64 (y : Int) ((X : Int) / 2 ^ n) = ((y ^^^ X / 2 ^ n : Nat) : Int) := by
  have e : (X : Int) / 2 ^ n = ((X / 2 ^ n : Nat) : Int) := by rw [Int.natCast_ediv, Int.natCast_pow]; rfl
  rw [e]
  exact bits_xor_u64_nat y _ hy (Nat.lt_of_le_of_lt (Nat.div_le_self _ _) hX)
theorem unshift_c (y n : Nat) (hy : y < 18446744073709551616) (hn : 27 ≤ n) (hn' : n ≤ 31) (w : World) :
    Calls Try.prog 45 #[.int .u64 y, .int .i64 n] w fun e w' => e = .returned (.int .u64 (un n y 5 : Nat)) ∧ w = w' := by
  have HY := hidp hy
  have hd : (64 : Int) / (n : Int) = 2 := by
    have : n = 27 ∨ n = 28 ∨ n = 29 ∨ n = 30 ∨ n = 31 := by omega
    rcases this with rfl | rfl | rfl | rfl | rfl <;> decide
  clear hy
  go_enter Try.func45, Try.ntmps45
  go_wp2_with fail
  refine (len_two _).mono ?_; rintro e w' ⟨rfl, rfl⟩
  go_wp2_with fail
  go_loop [5, 12] (fun x i => ∃ k : Nat, k ≤ 5 ∧ i = .int .i64 k ∧ x = .int .u64 (un n y k : Nat)) (fun _ i => 5 - (intOf i).toNat)
  case atStart => exact ⟨0, by omega, rfl, rfl⟩
  case round =>
    obtain ⟨k, hk, rfl, rfl⟩ := hrel
    by_cases hlt : k < 5
    · have hlt' : (k : Int) < 5 := by omega
      go_wp2_with fail
      go_round
      case rel => exact ⟨k + 1, by omega, by go_num, v_int (xor_step y _ n HY.out (un_lt n y HY.out k))⟩
      case measure => simp [intOf]; omega
    · obtain rfl : k = 5 := by omega
      go_wp2_with fail
      go_ret
      exact ⟨rfl, rfl⟩
theorem unmix_c (x : Nat) (hx : x < 18446744073709551616) (w : World) :
    Calls Try.prog 19 #[.int .u64 x] w fun e w' => e = .returned (.int .u64 (unmixN x : Nat)) ∧ w = w' := by
  have m1 : ∀ a, a % M64 < M64 := fun a => Nat.mod_lt _ (by decide)
  have M1 := hidp m1
  have HX := hidp hx
  have C2' := hidp (fun w => by have := inverse_c C2 (by decide) w; rw [inv_two] at this; exact this)
  have C1' := hidp (fun w => by have := inverse_c C1 (by decide) w; rw [inv_one] at this; exact this)
  have E1 := hidp (fun (a b : Nat) => show IntKind.u64.wrap ((a : Int) * (b : Int)) = ((a * b % M64 : Nat) : Int) by rw [IntKind.wrap_u64, Int.natCast_emod, Int.natCast_mul]; rfl)
  clear hx m1
  go_enter Try.func19, Try.ntmps19
  go_wp2_with fail
  refine (unshift_c x 31 HX.out (by omega) (by omega) _).mono ?_; rintro e w' ⟨rfl, rfl⟩
  go_wp2_with fail
  refine (C2'.out _).mono ?_; rintro e w' ⟨rfl, rfl⟩
  go_wp2_with fail
  rw [E1.out]
  refine (unshift_c _ 27 (M1.out _) (by omega) (by omega) _).mono ?_; rintro e w' ⟨rfl, rfl⟩
  go_wp2_with fail
  refine (C1'.out _).mono ?_; rintro e w' ⟨rfl, rfl⟩
  go_wp2_with fail
  rw [E1.out]
  refine (unshift_c _ 30 (M1.out _) (by omega) (by omega) _).mono ?_; rintro e w' ⟨rfl, rfl⟩
  go_wp2_with fail
  go_ret
  exact ⟨rfl, rfl⟩
end Go.Proofs.Ytmgagmnknhgkdaa
