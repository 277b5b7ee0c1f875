/- Contracts of the two functions that reckon a factorial. -/
import Derived.Test.YtpdigiefldnpaaaBase
namespace Go.Proofs.Ytpdigiefldnpaaa
open Go.ChangeShapes Go.WideShapes Go.ChangeAt Go.RowKit
set_option maxRecDepth 20000

def fct : Nat → Nat
  | 0 => 1
  | n + 1 => (n + 1) * fct n
theorem fct_tab : ∀ n, n < 13 → 1 ≤ fct n ∧ fct n ≤ 479001600 := by decide +kernel
theorem rfact_n : ∀ n : Nat, n ≤ 12 → ∀ w : World, Calls Try.prog 21 #[.int .i64 n] w fun e w' => e = .returned (.int .i64 (fct n : Nat)) ∧ w = w'
  | 0, _, w => by
    go_enter Try.func21, Try.ntmps21
    go_wp2
    go_ret
    exact ⟨rfl, rfl⟩
  | n + 1, h, w => by
    have C := hidp (rfact_n n (by omega))
    have hf := (fct_tab n (by omega)).2
    have hn0 : (((n : Int) + 1) == 0) = false := by rw [beq_eq_false_iff_ne]; omega
    have hm : ((n : Int) + 1) * (fct n : Nat) ≤ 6227020800 := by
      have := mul_le_cast (a := n + 1) (b := fct n) (A := 13) (B := 479001600) (by omega) hf
      rw [Int.natCast_add] at this
      exact this
    have hm0 : 0 ≤ ((n : Int) + 1) * (fct n : Nat) := Int.mul_nonneg (by omega) (by omega)
    have E := hidp (show ((fct (n + 1) : Nat) : Int) = ((n : Int) + 1) * (fct n : Nat) by rw [fct, Int.natCast_mul]; rfl)
    go_enter Try.func21, Try.ntmps21
    go_wp2_with fail
    refine (C.out _).mono ?_; rintro e w' ⟨rfl, rfl⟩
    go_wp2_with fail
    go_ret
    exact ⟨ret_int E.out.symm, rfl⟩
theorem rfact_c (n : Nat) (N : Int) (hN : N = n) (h : n ≤ 12) (w : World) : Calls Try.prog 21 #[.int .i64 N] w fun e w' => e = .returned (.int .i64 (fct n : Nat)) ∧ w = w' := by
  subst hN; exact rfact_n n h w

theorem dfact_n (n : Nat) (h : n ≤ 12) (w : World) : Calls Try.prog 54 #[.int .i64 n] w fun e w' => e = .returned (.int .i64 (fct n : Nat)) ∧ w = w' := by
  go_enter Try.func54, Try.ntmps54
  go_wp2_with fail
  go_loop [3, 4] (fun o i => ∃ j : Nat, j < max n 1 + 1 ∧ 1 ≤ j ∧ i = .int .i64 ((j : Int) + 1) ∧ o = .int .i64 (fct j : Nat)) (fun _ i => n + 2 - (intOf i).toNat)
  case atStart => exact ⟨1, by omega, by omega, rfl, rfl⟩
  case round =>
    obtain ⟨j, hj, hj1, rfl, rfl⟩ := hrel
    have hf := (fct_tab j (by omega)).2
    by_cases hlt : j < n
    · have hlt' : (j : Int) + 1 ≤ (n : Int) := by omega
      have hm : (fct j : Nat) * ((j : Int) + 1) ≤ 6227020800 := by
        have := mul_le_cast (a := fct j) (b := j + 1) (A := 479001600) (B := 13) hf (by omega)
        rw [Int.natCast_add] at this
        exact this
      have hm0 : 0 ≤ (fct j : Nat) * ((j : Int) + 1) := Int.mul_nonneg (by omega) (by omega)
      have E := hidp (show ((fct (j + 1) : Nat) : Int) = (fct j : Nat) * ((j : Int) + 1) by rw [fct, Int.natCast_mul, Int.mul_comm]; rfl)
      go_wp2_with fail
      go_round
      case rel => exact ⟨j + 1, by omega, by omega, by go_num, v_int E.out.symm⟩
      case measure => simp [intOf]; omega
    · have hlt' : ¬ (j : Int) + 1 ≤ (n : Int) := by omega
      have E := hidp (show fct j = fct n by
        rcases Nat.eq_zero_or_pos n with h0 | h0
        · subst h0; rw [show j = 1 by omega]; rfl
        · rw [show j = n by omega])
      go_wp2_with fail
      go_ret
      exact ⟨ret_int (by rw [E.out]), rfl⟩
theorem dfact_c (n : Nat) (N : Int) (hN : N = n) (h : n ≤ 12) (w : World) : Calls Try.prog 54 #[.int .i64 N] w fun e w' => e = .returned (.int .i64 (fct n : Nat)) ∧ w = w' := by
  subst hN; exact dfact_n n h w
end Go.Proofs.Ytpdigiefldnpaaa
