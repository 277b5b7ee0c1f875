/- The walk of GateLevels: the law returns true at all inputs, and no old memory changes. -/
import Derived.Test.YtlkcdknbkchglaaGate
import Derived.Handy
namespace Go.Proofs.Ytlkcdknbkchglaa.gateLevels
open Go.ChangeShapes Go.WideShapes Go.ChangeAt Go.RowKit
open Go.Proofs.Ytlkcdknbkchglaa

theorem lev_tab : ∀ n, n < 11 → (72057594037927936 / 2 ^ n) * 2 ^ n = 72057594037927936 ∧ 2 * (72057594037927936 / 2 ^ (n + 1)) = 72057594037927936 / 2 ^ n ∧ 1 ≤ 2 ^ n ∧ 2 ^ n ≤ 1024 ∧ 1 ≤ 72057594037927936 / 2 ^ n ∧ 72057594037927936 / 2 ^ n ≤ 72057594037927936 := by decide +kernel

set_option linter.unusedVariables false
theorem walk (a0 : Int) (a1 : Int) (w0 : (Lit.int .i64 a0).wf = true) (w1 : (Lit.int .i64 a1).wf = true) (w : World) :
    Calls Try.prog 8 #[.int .i64 a0, .int .i64 a1] w fun e w' => e = .returned (.bool true) ∧ Grown w w' := by
  obtain ⟨n, hn⟩ : ∃ n, n = wn a0 11 := ⟨_, rfl⟩
  have hn1 := wn_lt a0 11 (by omega)
  have cn := withinN_c a0 11 (by omega) (by omega)
  rw [← hn] at hn1 cn
  have CN := hidp cn
  clear cn hn
  have hl0 : lev 0 = 0 := by decide +kernel
  obtain ⟨B, hB⟩ : ∃ B : Nat, B = 72057594037927936 / 2 ^ n := ⟨_, rfl⟩
  obtain ⟨M, hM⟩ : ∃ M : Nat, M = 2 ^ n := ⟨_, rfl⟩
  obtain ⟨t1, t2, t3, t4, t5, t6⟩ := lev_tab n (by omega)
  rw [← hB, ← hM] at t1
  rw [← hB] at t2 t5 t6
  rw [← hM] at t3 t4
  have l1 : lev n = 72057594037927936 - (B : Int) := by rw [lev_nat, hB]
  obtain ⟨B2, hB2⟩ : ∃ B2 : Nat, B2 = 72057594037927936 / 2 ^ (n + 1) := ⟨_, rfl⟩
  rw [← hB2] at t2
  have l2 : 2 * (72057594037927936 - lev (n + 1)) = (B : Int) := by rw [lev_nat, ← hB2]; omega
  obtain ⟨lo, hlo⟩ : ∃ lo, lo = wn a1 (B : Int) := ⟨_, rfl⟩
  have hlo1 := wn_lt a1 (B : Int) (by omega)
  have clo := withinN_c a1 (B : Int) (by omega) (by omega)
  rw [← hlo] at hlo1 clo
  have pB : (72057594037927936 : Int) / (M : Int) = (B : Int) := by rw [hB, hM, Int.natCast_ediv, Int.natCast_pow]; rfl
  have pM : (2 : Int) ^ n = (M : Int) := by rw [hM, Int.natCast_pow]; rfl
  have CLO := hidp clo
  have HL0 := hidp hl0
  have L1 := hidp l1
  have L2 := hidp l2
  have HB := hidp hB
  have HM := hidp hM
  have T1 := hidp t1
  have hBB : (B : Int) ≤ 72057594037927936 := by omega
  clear clo hlo hl0 l1 l2 hB hB2 hM t1 t2
  go_enter Try.func8, Try.ntmps8
  go_wp2_with fail
  refine (level_c 0 (by omega) (by omega) _).mono ?_; rintro e w' ⟨rfl, rfl⟩
  rw [show (0 : Int).toNat = 0 from rfl, HL0.out]
  go_wp2_with fail
  refine (CN.out _).mono ?_; rintro e w' ⟨rfl, rfl⟩
  go_wp2_with fail
  refine (level_c n (by omega) (by omega) _).mono ?_; rintro e w' ⟨rfl, rfl⟩
  rw [Int.toNat_natCast]
  go_wp2_with fail
  refine (level_c ((n : Int) + 1) (by omega) (by omega) _).mono ?_; rintro e w' ⟨rfl, rfl⟩
  rw [show ((n : Int) + 1).toNat = n + 1 from by omega, L1.out]
  have L2' := L2.out
  have k1 : ((2 * (72057594037927936 - lev (n + 1)) : Int) != B) = false := by rw [L2']; simp
  go_wp2_with fail
  refine (CLO.out _).mono ?_; rintro e w' ⟨rfl, rfl⟩
  go_wp2_with fail
  have T1' : (B : Int) * (M : Int) = 72057594037927936 := by rw [← Int.natCast_mul, T1.out]; rfl
  have TT := hidp T1'
  clear T1' T1
  go_loop [11, 58] (fun s i => ∃ j : Nat, j ≤ M ∧ i = .int .i64 j ∧ s = .int .i64 (if j = M then 1 else 0)) (fun _ i => M - (intOf i).toNat)
  case atStart => exact ⟨0, by omega, rfl, v_int (by rw [if_neg (by omega)])⟩
  case round =>
    obtain ⟨j, hj, rfl, rfl⟩ := hrel
    by_cases hlt : j < M
    · have e1 : ((j : Int) + 1) * (B : Int) ≤ 72057594037927936 := by
        rw [← TT.out, Int.mul_comm]; exact Int.mul_le_mul_of_nonneg_left (by omega) (by omega)
      have e2 : ((j : Int) + 1) * (B : Int) = (j : Int) * (B : Int) + (B : Int) := by rw [Int.add_mul, Int.one_mul]
      have e3 : 0 ≤ (j : Int) * (B : Int) := Int.mul_nonneg (by omega) (by omega)
      have e4 : (j : Int) * (B : Int) + (B : Int) ≤ 72057594037927936 := by omega
      have e5 : j + 1 = M → (j : Int) * (B : Int) + (B : Int) = 72057594037927936 := fun h => by
        rw [← e2, ← TT.out, Int.mul_comm, ← h]; rfl
      have e6 : j + 1 ≠ M → (j : Int) * (B : Int) + (B : Int) + (B : Int) ≤ 72057594037927936 := fun h => by
        have : ((j : Int) + 2) * (B : Int) ≤ 72057594037927936 := by
          rw [← TT.out, Int.mul_comm]; exact Int.mul_le_mul_of_nonneg_left (by omega) (by omega)
        rw [Int.add_mul] at this; omega
      have E5 := hidp e5
      have E6 := hidp e6
      rw [if_neg (by omega)]
      clear e1 e2 e5 e6
      by_cases hl : j + 1 = M
      · have e7 := E5.out hl
        have e8 : 72057594037927936 - (B : Int) ≤ (j : Int) * (B : Int) + (lo : Int) := by omega
        have e9 : (j : Int) * (B : Int) + (lo : Int) < 72057594037927936 := by omega
        have H := hidp e7
        clear e7
        go_wp2_with (go_at_call 15; refine (keep_c _ _ (by omega) (by omega) (by omega) (by omega) _).mono ?_; rintro e w' ⟨rfl, rfl⟩)
        go_round
        case rel => exact ⟨j + 1, by omega, by go_num, v_int (by rw [if_pos hl])⟩
        case measure => simp [intOf]; omega
      · have e7 := E6.out hl
        go_wp2_with (go_at_call 15; refine (keep_c _ _ (by omega) (by omega) (by omega) (by omega) _).mono ?_; rintro e w' ⟨rfl, rfl⟩)
        go_round
        case rel => exact ⟨j + 1, by omega, by go_num, v_int (by rw [if_neg hl])⟩
        case measure => simp [intOf]; omega
    · obtain rfl : j = M := by omega
      rw [if_pos rfl]
      go_wp2
      go_ret
      exact ⟨rfl, Grown.refl _⟩
end Go.Proofs.Ytlkcdknbkchglaa.gateLevels
