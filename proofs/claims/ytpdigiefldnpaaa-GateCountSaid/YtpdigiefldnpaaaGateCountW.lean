/- The walk of GateCount: the law returns true at all inputs, and no old memory changes. -/
import Derived.Test.YtpdigiefldnpaaaGateDiv
import Derived.WalkSmall
namespace Go.Proofs.Ytpdigiefldnpaaa.gateCount
open Go.ChangeShapes Go.WideShapes Go.ChangeAt Go.RowKit
open Go.Proofs.Ytpdigiefldnpaaa
set_option maxRecDepth 20000

theorem lev_at : ∀ n, n ≤ 20 → 2 ^ n * (72057594037927936 / 2 ^ n) = 72057594037927936 ∧ 2 ^ n ≤ 1048576 ∧ 1073741824 ≤ 72057594037927936 / 2 ^ n ∧ 72057594037927936 / 2 ^ n ≤ 72057594037927936 := by decide +kernel
theorem cnt_lev {M B : Nat} (n : Nat) (h1 : M * B = 72057594037927936) (h2 : 1 ≤ B) : 72057594037927936 * n / B = n * M := by
  rw [← h1, Nat.mul_comm M B, Nat.mul_assoc, Nat.mul_div_cancel_left _ h2, Nat.mul_comm]

set_option linter.unusedVariables false
set_option maxHeartbeats 4000000 in
theorem walk (a0 a1 a2 a3 : Int) (w : World) (w0 : (Lit.int .i64 a0).wf = true) (w1 : (Lit.int .i64 a1).wf = true) (w2 : (Lit.int .i64 a2).wf = true) (w3 : (Lit.int .i64 a3).wf = true) :
    Calls Try.prog 12 #[.int .i64 a0, .int .i64 a1, .int .i64 a2, .int .i64 a3] w fun e w' => e = .returned (.bool true) ∧ Below w.heap.size w w' := by
  obtain ⟨n, hn⟩ : ∃ n, n = wn a0 1000000 := ⟨_, rfl⟩
  have hn1 := wn_lt a0 1000000 (by omega)
  have cn := withinN_c a0 1000000 (by omega) (by omega)
  rw [← hn] at hn1 cn
  have CN := hidp cn
  obtain ⟨k, hk⟩ : ∃ k, k = wn a1 21 := ⟨_, rfl⟩
  have hk1 := wn_lt a1 21 (by omega)
  have ck := withinN_c a1 21 (by omega) (by omega)
  rw [← hk] at hk1 ck
  have CK := hidp ck
  obtain ⟨t, ht⟩ : ∃ t, t = wn a2 72057592964186112 := ⟨_, rfl⟩
  have ht1 := wn_lt a2 72057592964186112 (by omega)
  have ct := withinN_c a2 72057592964186112 (by omega) (by omega)
  rw [← ht] at ht1 ct
  have CT := hidp ct
  obtain ⟨s, hs⟩ : ∃ s, s = wn a3 (72057592964186112 - (t : Int)) := ⟨_, rfl⟩
  have hs1 := wn_lt a3 (72057592964186112 - (t : Int)) (by omega)
  have cs := withinN_c a3 (72057592964186112 - (t : Int)) (by omega) (by omega)
  rw [← hs] at hs1 cs
  have CS := hidp cs
  obtain ⟨l1, l2, l3, l4⟩ := lev_at k (by omega)
  have L := lev_nat k
  have CL := hidp (fun W => level_c k (by omega) (by omega) W)
  rw [Int.toNat_natCast, L] at CL
  have hkp : (n : Int) * 2 ^ k = ((n * 2 ^ k : Nat) : Int) := by rw [Int.natCast_mul, Int.natCast_pow]; rfl
  have p1 := Nat.mul_le_mul (show n ≤ 1000000 by omega) l2
  have CC := hidp (fun W => count_c n (72057594037927936 / 2 ^ k) (by omega) l3 l4 W)
  rw [cnt_lev n l1 (by omega)] at CC
  generalize 72057594037927936 / 2 ^ k = B at *
  generalize n * 2 ^ k = D at *
  obtain ⟨y, hy⟩ : ∃ y, y = 72057594037927936 - t := ⟨_, rfl⟩
  obtain ⟨z, hz⟩ : ∃ z, z = 72057594037927936 - (t + s) := ⟨_, rfl⟩
  have CA := hidp (fun W => count_c n y (by omega) (by omega) (by omega) W)
  have CB := hidp (fun W => count_c n z (by omega) (by omega) (by omega) W)
  have ey : (72057594037927936 : Int) - (y : Int) = (t : Int) := by omega
  have ez : (72057594037927936 : Int) - (z : Int) = (t : Int) + (s : Int) := by omega
  rw [ey] at CA
  rw [ez] at CB
  have ha : n ≤ 72057594037927936 * n / y := by
    rw [Nat.le_div_iff_mul_le (by omega), Nat.mul_comm]
    exact Nat.mul_le_mul_right n (by omega)
  have hb : 72057594037927936 * n / y ≤ 72057594037927936 * n / z := Nat.div_le_div_left (by omega) (by omega)
  generalize 72057594037927936 * n / y = P at *
  generalize 72057594037927936 * n / z = R at *
  have hst : s + t < 72057592964186112 := by omega
  have C0 := hidp (fun W => count_c 3 36028797018963968 (by omega) (by omega) (by omega) W)
  rw [show (72057594037927936 : Int) - ((36028797018963968 : Nat) : Int) = 36028797018963968 from rfl, show 72057594037927936 * 3 / 36028797018963968 = 6 from by decide] at C0
  clear hn hk ht hs l1 l2 l3 l4 L hy hz ey ez cn ck ct cs
  go_enter Try.func12, Try.ntmps12
  go_wp2_with fail
  refine (C0.out _).mono ?_
  rintro e w' ⟨rfl, k1, rfl⟩
  go_wp2_with fail
  refine (CN.out _).mono ?_; rintro e w' ⟨rfl, rfl⟩
  go_wp2_with fail
  refine (CK.out _).mono ?_; rintro e w' ⟨rfl, rfl⟩
  go_wp2_with fail
  refine (CT.out _).mono ?_; rintro e w' ⟨rfl, rfl⟩
  go_wp2_with fail
  refine (CL.out _).mono ?_; rintro e w' ⟨rfl, rfl⟩
  go_wp2_with fail
  refine (CC.out _).mono ?_
  rintro e w' ⟨rfl, k2, rfl⟩
  go_wp2_with fail
  refine (CA.out _).mono ?_
  rintro e w' ⟨rfl, k3, rfl⟩
  go_wp2_with fail
  refine (CS.out _).mono ?_; rintro e w' ⟨rfl, rfl⟩
  go_wp2_with fail
  refine (CB.out _).mono ?_
  rintro e w' ⟨rfl, k4, rfl⟩
  go_wp2_with fail
  go_ret
  exact ⟨ret_bool (by simp), below_drewN (Below.refl _ _) _⟩
end Go.Proofs.Ytpdigiefldnpaaa.gateCount
