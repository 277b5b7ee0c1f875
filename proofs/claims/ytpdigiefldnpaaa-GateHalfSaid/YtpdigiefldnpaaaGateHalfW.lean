/- The walk of GateHalf: the law returns true at all inputs, and no old memory changes. -/
import Derived.Test.YtpdigiefldnpaaaGateDiv
import Derived.WalkSmall
namespace Go.Proofs.Ytpdigiefldnpaaa.gateHalf
open Go.ChangeShapes Go.WideShapes Go.ChangeAt Go.RowKit
open Go.Proofs.Ytpdigiefldnpaaa
set_option maxRecDepth 20000

theorem ex1 : cq 1 1 = 72057594037927936 := by decide +kernel
theorem ex2 : cq 1 4 = 18014398509481984 := by decide +kernel
theorem lev_at : ∀ n, n ≤ 20 → 2 ^ n * (72057594037927936 / 2 ^ n) = 72057594037927936 ∧ 1 ≤ 2 ^ n ∧ 2 ^ n ≤ 1048576 := by decide +kernel
theorem cq_half (n k : Nat) (hn : n ≤ 20) (hk : 1 ≤ k) : cq k (k * 2 ^ n) = 72057594037927936 / 2 ^ n := by
  obtain ⟨h1, h2, h3⟩ := lev_at n hn
  generalize 2 ^ n = M at *
  generalize 72057594037927936 / M = B at *
  unfold cq
  have e : 72057594037927936 * k = k * M * B := by rw [← h1, Nat.mul_comm, Nat.mul_assoc]
  rw [e, Nat.mul_div_cancel_left _ (Nat.mul_pos hk h2), Nat.mul_mod_right]
  rfl

theorem half_all (n k : Nat) (hn : n ≤ 20) (hk : 1 ≤ k) (hk2 : k ≤ 1000) : ∃ D : Nat, (k : Int) * 2 ^ n = (D : Int) ∧ k ≤ D ∧ D ≤ 1048576000 ∧ lev n = 72057594037927936 - (cq k D : Nat) := by
  obtain ⟨l1, l2, l3⟩ := lev_at n hn
  refine ⟨k * 2 ^ n, by rw [Int.natCast_mul, Int.natCast_pow]; rfl, ?_, Nat.mul_le_mul hk2 l3, ?_⟩
  · have := Nat.mul_le_mul (Nat.le_refl k) l2
    rw [Nat.mul_one] at this
    exact this
  · rw [cq_half n k hn hk]; exact lev_nat n

set_option linter.unusedVariables false
set_option maxHeartbeats 4000000 in
theorem walk (a0 a1 : Int) (w : World) (w0 : (Lit.int .i64 a0).wf = true) (w1 : (Lit.int .i64 a1).wf = true) :
    Calls Try.prog 11 #[.int .i64 a0, .int .i64 a1] w fun e w' => e = .returned (.bool true) ∧ Below w.heap.size w w' := by
  obtain ⟨n, hn⟩ : ∃ n, n = wn a0 21 := ⟨_, rfl⟩
  have hn1 := wn_lt a0 21 (by omega)
  have cn := withinN_c a0 21 (by omega) (by omega)
  rw [← hn] at hn1 cn
  have CN := hidp cn
  obtain ⟨m, hm⟩ : ∃ m, m = wn a1 1000 := ⟨_, rfl⟩
  have hm1 := wn_lt a1 1000 (by omega)
  have cm := withinN_c a1 1000 (by omega) (by omega)
  rw [← hm] at hm1 cm
  have CM := hidp cm
  obtain ⟨k, hk⟩ : ∃ k, k = m + 1 := ⟨_, rfl⟩
  have hkE : (1 : Int) + (m : Int) = (k : Int) := by omega
  obtain ⟨D, pM, d1, d2, EQ0⟩ := half_all n k (by omega) (by omega) (by omega)
  have CP := hidp (fun W => part_c k D (by omega) (by omega) (by omega) W)
  have CL := hidp (fun W => level_c n (by omega) (by omega) W)
  have hn20 : (n : Int) ≤ 20 := by omega
  have hk1000 : k ≤ 1000 := by omega
  have EQ := hidp EQ0
  rw [Int.toNat_natCast, EQ.out] at CL
  generalize cq k D = X at *
  clear hn hm hk EQ EQ0 cn cm
  go_enter Try.func11, Try.ntmps11
  go_wp2_with fail
  refine (part_c 1 1 (by omega) (by omega) (by omega) _).mono ?_
  rintro e w' ⟨rfl, k1, rfl⟩
  rw [ex1]
  go_wp2_with fail
  refine (part_c 1 4 (by omega) (by omega) (by omega) _).mono ?_
  rintro e w' ⟨rfl, k2, rfl⟩
  rw [ex2]
  go_wp2_with fail
  refine (CN.out _).mono ?_; rintro e w' ⟨rfl, rfl⟩
  go_wp2_with fail
  refine (CM.out _).mono ?_; rintro e w' ⟨rfl, rfl⟩
  go_wp2_with fail
  refine (CL.out _).mono ?_; rintro e w' ⟨rfl, rfl⟩
  go_wp2_with fail
  refine (CP.out _).mono ?_
  rintro e w' ⟨rfl, k3, rfl⟩
  go_wp2_with fail
  go_ret
  exact ⟨ret_bool (by simp), below_drewN (Below.refl _ _) _⟩
end Go.Proofs.Ytpdigiefldnpaaa.gateHalf
