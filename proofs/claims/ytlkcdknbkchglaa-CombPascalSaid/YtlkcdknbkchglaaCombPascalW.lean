/- The walk of CombPascal: the law returns true at all inputs, and no old memory changes. -/
import Derived.Test.YtlkcdknbkchglaaComb
namespace Go.Proofs.Ytlkcdknbkchglaa.combPascal
open Go.ChangeShapes Go.WideShapes Go.ChangeAt Go.RowKit
open Go.Proofs.Ytlkcdknbkchglaa CombMath

/-- The literal function 'ways'. -/
theorem lit_c (n k : Nat) (h1 : n ≤ 30) (w : World) :
    Calls Try.prog 21 #[.int .i64 n, .int .i64 k] w fun e w' => e = .returned (.int .i64 (wz n k)) ∧ w = w' := by
  unfold wz
  by_cases h : n < k
  · rw [if_pos h]
    go_enter Try.func21, Try.ntmps21
    go_wp2
    go_ret
    exact ⟨rfl, rfl⟩
  · rw [if_neg h]
    go_enter Try.func21, Try.ntmps21
    go_wp2_with (go_at_call 20; refine (ways_nat _ _ (by omega) (by omega) _).mono ?_; rintro e w' ⟨rfl, rfl⟩)
    go_ret
    exact ⟨rfl, rfl⟩

theorem ways_5_2 (w : World) : Calls Try.prog 20 #[.int .i64 5, .int .i64 2] w fun e w' => e = .returned (.tuple #[.int .i64 10, .int .i64 0]) ∧ w = w' := by
  have h := ways_nat 5 2 (by omega) (by omega) w
  rw [wl_5_2] at h
  exact h

set_option linter.unusedVariables false
set_option maxHeartbeats 2000000
theorem walk (a0 : Int) (a1 : Int) (a2 : Int) (w : World) (w0 : (Lit.int .i64 a0).wf = true) (w1 : (Lit.int .i64 a1).wf = true) (w2 : (Lit.int .i64 a2).wf = true) :
    Calls Try.prog 6 #[.int .i64 a0, .int .i64 a1, .int .i64 a2] w fun e w' => e = .returned (.bool true) ∧ Below w.heap.size w w' := by
  obtain ⟨n, hn⟩ : ∃ n, n = wn a0 16 := ⟨_, rfl⟩
  have hn1 := wn_lt a0 16 (by omega)
  have cn := withinN_c a0 16 (by omega) (by omega)
  rw [← hn] at hn1 cn
  obtain ⟨m, hm⟩ : ∃ m, m = wn a1 15 := ⟨_, rfl⟩
  have hm1 := wn_lt a1 15 (by omega)
  have cm := withinN_c a1 15 (by omega) (by omega)
  rw [← hm] at hm1 cm
  obtain ⟨k, hk⟩ : ∃ k, k = wn a2 ((n : Int) + m + 1) := ⟨_, rfl⟩
  have hk1 := wn_lt a2 ((n : Int) + m + 1) (by omega)
  have ck := withinN_c a2 ((n : Int) + m + 1) (by omega) (by omega)
  rw [← hk] at hk1 ck
  have T := pascal_tab n (by omega) m (by omega) k (by omega)
  have CN := hidp cn
  have CK := hidp ck
  have CM := hidp cm
  have TT := hidp T
  clear cn ck cm T hn hk hm w0 w1 w2
  have hmf : ∀ (fn : Fn) (first cap : Array Value) (w : World), (Instr.makeFunc fn first cap).run Try.prog w = .ok (.func fn first cap) w := fun _ _ _ _ => rfl
  go_enter Try.func6, Try.ntmps6
  go_wp2_with fail
  refine (ways_5_2 _).mono ?_; rintro e w' ⟨rfl, rfl⟩
  go_wp2_with fail
  refine (CN.out _).mono ?_; rintro e w' ⟨rfl, rfl⟩
  go_wp2_with fail
  refine (CM.out _).mono ?_; rintro e w' ⟨rfl, rfl⟩
  go_wp2_with fail
  refine (CK.out _).mono ?_; rintro e w' ⟨rfl, rfl⟩
  go_wp2_with fail
  go_loop [10, 40] (fun s i => ∃ j : Nat, j ≤ k + 1 ∧ i = .int .i64 j ∧ s = .int .i64 (conv n m k j)) (fun _ i => k + 1 - (intOf i).toNat)
  case atStart => exact ⟨0, by omega, rfl, rfl⟩
  case round =>
    obtain ⟨j, hj, rfl, rfl⟩ := hrel
    have hb := conv_le n m k (by omega) (by omega) j
    have hb1 := conv_le n m k (by omega) (by omega) (j + 1)
    by_cases hlt : j < k + 1
    · have c1 := lit_c n j (by omega)
      have c2 : ∀ w, Calls Try.prog 21 #[.int .i64 m, .int .i64 ((k : Int) - j)] w fun e w' => e = .returned (.int .i64 (wz m (k - j))) ∧ w = w' := by
        rw [show (k : Int) - j = ((k - j : Nat) : Int) from by omega]
        exact lit_c m (k - j) (by omega)
      have p1 := wz_le n j (by omega)
      have p2 := wz_le m (k - j) (by omega)
      have p3 : (wz n j : Int) * (wz m (k - j) : Int) ≤ 155117520 * 155117520 := mul_le_cast p1 p2
      have p4 : 0 ≤ (wz n j : Int) * (wz m (k - j) : Int) := Int.mul_nonneg (by omega) (by omega)
      have C1 := hidp c1
      have C2 := hidp c2
      clear c1 c2
      go_wp2_with fail
      refine (C1.out _).mono ?_; rintro e w' ⟨rfl, rfl⟩
      go_wp2_with fail
      refine (C2.out _).mono ?_; rintro e w' ⟨rfl, rfl⟩
      go_wp2
      go_round
      case rel => exact ⟨j + 1, by omega, by go_num, v_int (by show _ = ((conv n m k j + wz n j * wz m (k - j) : Nat) : Int); rw [Int.natCast_add, Int.natCast_mul])⟩
      case measure => simp [intOf]; omega
    · obtain rfl : j = k + 1 := by omega
      have T := TT.out
      have c1 := ways_nat (n + m) k (by omega) (by omega)
      have c2 := ways_nat (n + m) (n + m - k) (by omega) (by omega)
      rw [T.1] at *
      rw [T.2.1] at c2
      have g1 := (wl_le (n + m) (by omega) k (by omega)).1
      have c1' : ∀ w, Calls Try.prog 20 #[.int .i64 ((n : Int) + m), .int .i64 k] w fun e w' => e = .returned (.tuple #[.int .i64 (wl (n + m) k), .int .i64 0]) ∧ w = w' := c1
      have c2' : ∀ w, Calls Try.prog 20 #[.int .i64 ((n : Int) + m), .int .i64 ((n : Int) + m - k)] w fun e w' => e = .returned (.tuple #[.int .i64 (wl (n + m) k), .int .i64 0]) ∧ w = w' := by
        rw [show (n : Int) + m - k = ((n + m - k : Nat) : Int) from by omega]
        exact c2
      generalize wl (n + m) k = W at *
      have C1 := hidp c1'
      have C2 := hidp c2'
      clear c1 c2 c1' c2' hb hb1 T
      go_wp2_with fail
      refine (C1.out _).mono ?_; rintro e w' ⟨rfl, rfl⟩
      go_wp2_with fail
      refine (C2.out _).mono ?_; rintro e w' ⟨rfl, rfl⟩
      go_wp2_with fail
      go_loop [16, 95] (fun s i => ∃ j : Nat, j ≤ n + 1 ∧ i = .int .i64 j ∧ s = .int .i64 (rowsum n j)) (fun _ i => n + 1 - (intOf i).toNat)
      case atStart => exact ⟨0, by omega, rfl, rfl⟩
      case round =>
        obtain ⟨j, hj, rfl, rfl⟩ := hrel
        have hb := rowsum_le n (by omega) j
        have hb1 := rowsum_le n (by omega) (j + 1)
        by_cases hlt : j < n + 1
        · have p1 := wz_le n j (by omega)
          go_wp2_with fail
          refine (lit_c n j (by omega) _).mono ?_; rintro e w' ⟨rfl, rfl⟩
          go_wp2
          go_round
          case rel => exact ⟨j + 1, by omega, by go_num, v_int (by show _ = ((rowsum n j + wz n j : Nat) : Int); rw [Int.natCast_add])⟩
          case measure => simp [intOf]; omega
        · obtain rfl : j = n + 1 := by omega
          have T := TT.out
          rw [T.2.2.1]
          have c1 : ∀ w, Calls Try.prog 21 #[.int .i64 ((n : Int) + 1), .int .i64 ((k : Int) + 1)] w fun e w' => e = .returned (.int .i64 (wz (n + 1) (k + 1))) ∧ w = w' := lit_c (n + 1) (k + 1) (by omega)
          have c3 : ∀ w, Calls Try.prog 21 #[.int .i64 n, .int .i64 ((k : Int) + 1)] w fun e w' => e = .returned (.int .i64 (wz n (k + 1))) ∧ w = w' := lit_c n (k + 1) (by omega)
          have c2 := lit_c n k (by omega)
          rw [T.2.2.2] at c1
          have p1 := wz_le n k (by omega)
          have p2 := wz_le n (k + 1) (by omega)
          generalize wz n k = A at *
          generalize wz n (k + 1) = B at *
          have q : ((2 ^ n : Nat) : Int) = (2 : Int) ^ n := by rw [Int.natCast_pow]; rfl
          rw [q]
          have q2 : (2 : Int) ^ n ≤ 65536 := by rw [← q]; exact Int.ofNat_le.2 (Nat.pow_le_pow_right (by omega) (show n ≤ 16 by omega))
          have q3 : 0 ≤ (2 : Int) ^ n := Int.le_of_lt (Int.pow_pos (by omega))
          clear T q
          have C1 := hidp c1
          have C2 := hidp c2
          have C3 := hidp c3
          clear c1 c2 c3
          have s1 : (((A + B : Nat) : Int) == (A : Int) + (B : Int)) = true := by simp
          go_wp2_with fail
          refine (C1.out _).mono ?_; rintro e w' ⟨rfl, rfl⟩
          go_wp2_with fail
          refine (C2.out _).mono ?_; rintro e w' ⟨rfl, rfl⟩
          go_wp2_with fail
          refine (C3.out _).mono ?_; rintro e w' ⟨rfl, rfl⟩
          go_wp2
          go_ret
          exact ⟨ret_bool (by simp), Below.refl _ _⟩
end Go.Proofs.Ytlkcdknbkchglaa.combPascal
