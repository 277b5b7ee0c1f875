/- The walk of CombHockey: the law returns true at all inputs, and no old memory changes. -/
import Derived.Test.YtlkcdknbkchglaaComb
namespace Go.Proofs.Ytlkcdknbkchglaa.combHockey
open Go.ChangeShapes Go.WideShapes Go.ChangeAt Go.RowKit
open Go.Proofs.Ytlkcdknbkchglaa CombMath

theorem ways_30_15 (w : World) : Calls Try.prog 20 #[.int .i64 30, .int .i64 15] w fun e w' => e = .returned (.tuple #[.int .i64 155117520, .int .i64 0]) ∧ w = w' := by
  have h := ways_nat 30 15 (by omega) (by omega) w
  rw [wl_30_15] at h
  exact h

set_option linter.unusedVariables false
theorem walk (a0 : Int) (a1 : Int) (w0 : (Lit.int .i64 a0).wf = true) (w1 : (Lit.int .i64 a1).wf = true) (w : World) :
    Calls Try.prog 7 #[.int .i64 a0, .int .i64 a1] w fun e w' => e = .returned (.bool true) ∧ Grown w w' := by
  obtain ⟨n, hn⟩ : ∃ n, n = wn a0 30 := ⟨_, rfl⟩
  have hn1 := wn_lt a0 30 (by omega)
  rw [← hn] at hn1
  obtain ⟨k, hk⟩ : ∃ k, k = wn a1 ((n : Int) + 1) := ⟨_, rfl⟩
  have hk1 := wn_lt a1 ((n : Int) + 1) (by omega)
  rw [← hk] at hk1
  have cn := withinN_c a0 30 (by omega) (by omega)
  rw [← hn] at cn
  have ck := withinN_c a1 ((n : Int) + 1) (by omega) (by omega)
  rw [← hk] at ck
  have T := hockey_tab n (by omega) k (by omega)
  have CN := hidp cn
  have CK := hidp ck
  have TT := hidp T
  clear cn ck T hn hk w0 w1
  go_enter Try.func7, Try.ntmps7
  go_wp2_with fail
  refine (ways_30_15 _).mono ?_; rintro e w' ⟨rfl, rfl⟩
  go_wp2_with fail
  refine (CN.out _).mono ?_; rintro e w' ⟨rfl, rfl⟩
  go_wp2_with fail
  refine (CK.out _).mono ?_; rintro e w' ⟨rfl, rfl⟩
  go_wp2_with fail
  go_loop [7, 8] (fun s i => ∃ m : Nat, k ≤ m ∧ m ≤ n + 1 ∧ i = .int .i64 m ∧ s = .int .i64 (hs k m)) (fun _ i => n + 1 - (intOf i).toNat)
  case atStart => exact ⟨k, by omega, by omega, rfl, v_int (by rw [TT.out.1]; rfl)⟩
  case round =>
    obtain ⟨m, hm1, hm2, rfl, rfl⟩ := hrel
    have hb := hs_bd m (by omega) k (by omega)
    by_cases hlt : m ≤ n
    · have hb' := (wl_le m (by omega) k (by omega)).1
      go_wp2_with fail
      refine (ways_nat m k (by omega) (by omega) _).mono ?_; rintro e w' ⟨rfl, rfl⟩
      go_wp2
      go_round
      case rel => exact ⟨m + 1, by omega, by omega, by go_num, v_int (by show _ = ((hs k m + wz m k : Nat) : Int); unfold wz; rw [if_neg (by omega)]; omega)⟩
      case measure => simp [intOf]; omega
    · obtain rfl : m = n + 1 := by omega
      have hb1 := (wl_le (n + 1) (by omega) (k + 1) (by omega)).1
      have hb2 := (wl_le n (by omega) k (by omega)).1
      have cw := ways_nat (n + 1) (k + 1) (by omega) (by omega)
      have cp := ways_nat n k (by omega) (by omega)
      have T := TT.out
      have T1 := T.2.1
      have T2 := T.2.2
      rw [T1] at cw hb1 T2
      clear TT T T1
      generalize hs k (n + 1) = W at *
      generalize wl n k = P at *
      have q2 : (P : Int) * ((n : Int) + 1) = (W : Int) * ((k : Int) + 1) := by exact_mod_cast T2
      have q3 : (W : Int) * ((k : Int) + 1) ≤ 155117520 * 31 := mul_le_cast hb1 (show k + 1 ≤ 31 by omega)
      have q4 : 0 ≤ (W : Int) * ((k : Int) + 1) := Int.mul_nonneg (by omega) (by omega)
      have q5 : (P : Int) * ((n : Int) + 1) ≤ 155117520 * 31 := by rw [q2]; exact q3
      have q6 : 0 ≤ (P : Int) * ((n : Int) + 1) := by rw [q2]; exact q4
      have Q2 := hidp q2
      clear T2 q2
      go_wp2_with fail
      refine (cw _).mono ?_; rintro e w' ⟨rfl, rfl⟩
      go_wp2_with fail
      refine (cp _).mono ?_; rintro e w' ⟨rfl, rfl⟩
      clear cw cp
      go_wp2
      all_goals (go_ret; exact ⟨ret_bool (by rw [Q2.out]; simp), Grown.refl _⟩)
end Go.Proofs.Ytlkcdknbkchglaa.combHockey
