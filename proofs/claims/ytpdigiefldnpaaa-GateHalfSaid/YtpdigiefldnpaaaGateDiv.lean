/- Contracts of gate.Part and gate.Count within their bounds. -/
import Derived.Test.YtpdigiefldnpaaaDiv
import Derived.Test.YtpdigiefldnpaaaGate
import Derived.Deep.RegionWith
namespace Go.Proofs.Ytpdigiefldnpaaa
open Go.ChangeShapes Go.WideShapes Go.ChangeAt Go.RowKit
set_option maxRecDepth 20000

/-- All of n parts in d, rounded up. -/
def cq (n d : Nat) : Nat := 72057594037927936 * n / d + if 0 < 72057594037927936 * n % d then 1 else 0
theorem hi_lt (n y : Nat) (h : n / 256 < y) : 72057594037927936 * n / 18446744073709551616 < y := by
  have e : 72057594037927936 * n / 18446744073709551616 = n / 256 := by omega
  rw [e]; exact h
theorem hl (n : Nat) : 72057594037927936 * n / 18446744073709551616 * 18446744073709551616 + 72057594037927936 * n % 18446744073709551616 = 72057594037927936 * n := by
  have h := Nat.div_add_mod (72057594037927936 * n) 18446744073709551616
  rw [Nat.mul_comm] at h
  exact h
theorem cq_le (n d : Nat) (h2 : n ≤ d) (h3 : 1 ≤ d) : 72057594037927936 * n / d ≤ 72057594037927936 ∧ (0 < 72057594037927936 * n % d → 72057594037927936 * n / d + 1 ≤ 72057594037927936) := by
  have h := Nat.div_add_mod (72057594037927936 * n) d
  have hl := Nat.mul_le_mul_left 72057594037927936 h2
  generalize 72057594037927936 * n / d = q at *
  generalize 72057594037927936 * n % d = r at *
  have key : ∀ k, d * k ≤ 72057594037927936 * d → k ≤ 72057594037927936 := fun k hk => by
    rw [Nat.mul_comm 72057594037927936 d] at hk
    exact Nat.le_of_mul_le_mul_left hk h3
  refine ⟨key q (by omega), fun hr => ?_⟩
  have : q < 72057594037927936 := by
    have h5 : d * q < d * 72057594037927936 := by rw [Nat.mul_comm d 72057594037927936]; omega
    exact Nat.lt_of_mul_lt_mul_left h5
  omega
set_option maxHeartbeats 2000000 in
theorem part_c (n d : Nat) (h1 : 1 ≤ n) (h2 : n ≤ d) (h3 : d ≤ 1000000000000) (w : World) :
    Calls Try.prog 42 #[.int .i64 n, .int .i64 d] w fun e w' => e = .returned (.tuple #[.int .i64 (72057594037927936 - (cq n d : Nat)), .int .i64 0]) ∧ ∃ q, w' = w.drewN q := by
  have CM := hidp (fun W => Try.bits_Mul64 72057594037927936 n (by omega) (by omega) W)
  have CD := hidp (fun W => div_c (72057594037927936 * n / 18446744073709551616) (72057594037927936 * n % 18446744073709551616) d (by omega) (by omega) (hi_lt n d (by omega)) (Nat.mod_lt _ (by omega)) W)
  rw [hl n] at CD
  obtain ⟨b1, b2⟩ := cq_le n d h2 (by omega)
  have E := hidp (show cq n d = 72057594037927936 * n / d + if 0 < 72057594037927936 * n % d then 1 else 0 from rfl)
  generalize 72057594037927936 * n / 18446744073709551616 = H at *
  generalize 72057594037927936 * n % 18446744073709551616 = L at *
  generalize 72057594037927936 * n / d = q at *
  generalize 72057594037927936 * n % d = r at *
  generalize cq n d = C at *
  by_cases hr : 0 < r
  · have hC := hidp (show C = q + 1 by rw [E.out, if_pos hr])
    have b3 := b2 hr
    have hri : (0 : Int) < (r : Int) := by omega
    clear E b1 b2 hr
    go_enter Try.func42, Try.ntmps42
    go_wp2_with fail
    refine (CM.out _).mono ?_; rintro e w' ⟨rfl, rfl⟩
    go_wp2_with fail
    refine (CD.out _).mono ?_; rintro e w' ⟨rfl, k, rfl⟩
    go_wp2_with fail
    go_ret2
    exact ⟨ret_tup_ii (by have := hC.out; omega) rfl, k, rfl⟩
  · have hC := hidp (show C = q by rw [E.out, if_neg hr] <;> rfl)
    have hri : ¬ (0 : Int) < (r : Int) := by omega
    clear E b2 hr
    go_enter Try.func42, Try.ntmps42
    go_wp2_with fail
    refine (CM.out _).mono ?_; rintro e w' ⟨rfl, rfl⟩
    go_wp2_with fail
    refine (CD.out _).mono ?_; rintro e w' ⟨rfl, k, rfl⟩
    go_wp2_with fail
    go_ret2
    exact ⟨ret_tup_ii (by have := hC.out; omega) rfl, k, rfl⟩
set_option maxHeartbeats 2000000 in
theorem count_c (n y : Nat) (h1 : n ≤ 1000000) (h2 : 1073741824 ≤ y) (h3 : y ≤ 72057594037927936) (w : World) :
    Calls Try.prog 44 #[.int .i64 n, .int .i64 (72057594037927936 - y)] w fun e w' => e = .returned (.tuple #[.int .i64 (72057594037927936 * n / y : Nat), .int .i64 0]) ∧ ∃ q, w' = w.drewN q := by
  have CM := hidp (fun W => Try.bits_Mul64 72057594037927936 n (by omega) (by omega) W)
  have CD := hidp (fun W => div_c (72057594037927936 * n / 18446744073709551616) (72057594037927936 * n % 18446744073709551616) y (by omega) (by omega) (hi_lt n y (by omega)) (Nat.mod_lt _ (by omega)) W)
  rw [hl n] at CD
  have hH := hi_lt n 4096 (by omega)
  have hq : 72057594037927936 * n / y ≤ 4611686018427387904 := by
    apply Nat.div_le_of_le_mul
    have := Nat.mul_le_mul h2 (Nat.le_refl 4611686018427387904)
    omega
  generalize 72057594037927936 * n / 18446744073709551616 = H at *
  generalize 72057594037927936 * n % 18446744073709551616 = L at *
  generalize 72057594037927936 * n / y = q at *
  generalize 72057594037927936 * n % y = r at *
  obtain ⟨th, hth⟩ : ∃ th : Int, th = 72057594037927936 - (y : Int) := ⟨_, rfl⟩
  rw [← hth]
  have ey : 72057594037927936 - th = (y : Int) := by omega
  have t1 : 0 ≤ th := by omega
  have t2 : th < 72057594037927936 := by omega
  have hg : ¬ (y : Int) ≤ (H : Int) := by omega
  have hg2 : ¬ (4611686018427387904 : Int) < (q : Int) := by omega
  clear hth
  go_enter Try.func44, Try.ntmps44
  go_wp2_with (go_at_call 63; go_in)
  refine (CM.out _).mono ?_; rintro e w' ⟨rfl, rfl⟩
  go_wp2_with fail
  refine (CD.out _).mono ?_; rintro e w' ⟨rfl, k, rfl⟩
  go_wp2_with fail
  go_ret2
  exact ⟨ret_tup_ii rfl rfl, k, rfl⟩
end Go.Proofs.Ytpdigiefldnpaaa
