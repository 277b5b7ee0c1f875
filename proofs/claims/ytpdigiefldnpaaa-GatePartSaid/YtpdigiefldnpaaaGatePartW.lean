/- The walk of GatePart: the law returns true at all inputs, and no old memory changes. -/
import Derived.Test.YtpdigiefldnpaaaGateDiv
import Derived.WalkSmall
namespace Go.Proofs.Ytpdigiefldnpaaa.gatePart
open Go.ChangeShapes Go.WideShapes Go.ChangeAt Go.RowKit
open Go.Proofs.Ytpdigiefldnpaaa
set_option maxRecDepth 20000

theorem cq_ceil (n d : Nat) (h : 1 ≤ d) : cq n d = (72057594037927936 * n + (d - 1)) / d := by
  unfold cq
  have hm := Nat.div_add_mod (72057594037927936 * n) d
  have hl := Nat.mod_lt (72057594037927936 * n) (show 0 < d by omega)
  generalize 72057594037927936 * n = X at *
  generalize X / d = q at *
  generalize X % d = r at *
  rw [← hm, Nat.add_assoc, Nat.mul_comm d q, Nat.add_comm (q * d), Nat.add_mul_div_right _ _ (show 0 < d by omega)]
  by_cases hr : 0 < r
  · rw [if_pos hr]
    have : (r + (d - 1)) / d = 1 := by
      rw [show r + (d - 1) = (r - 1) + d by omega, Nat.add_div_right _ (show 0 < d by omega), Nat.div_eq_of_lt (by omega)]
    omega
  · rw [if_neg hr]
    have : (r + (d - 1)) / d = 0 := Nat.div_eq_of_lt (by omega)
    omega
theorem cq_mono (n m d : Nat) (h : 1 ≤ d) (hn : n ≤ m) : cq n d ≤ cq m d := by
  rw [cq_ceil n d h, cq_ceil m d h]
  exact Nat.div_le_div_right (by omega)
theorem cq_parts (n d : Nat) (h : 1 ≤ d) : cq n d = 72057594037927936 / d * n + (72057594037927936 % d * n + (d - 1)) / d := by
  rw [cq_ceil n d h]
  have hm := Nat.div_add_mod 72057594037927936 d
  generalize 72057594037927936 / d = q at *
  generalize 72057594037927936 % d = r at *
  rw [← hm, Nat.add_mul, Nat.add_assoc, Nat.mul_assoc, Nat.add_comm, Nat.add_mul_div_left _ _ (show 0 < d by omega), Nat.add_comm]
theorem ex1 : cq 1 2 = 36028797018963968 := by decide +kernel

set_option linter.unusedVariables false
set_option maxHeartbeats 4000000 in
theorem walk (a0 a1 a2 : Int) (w : World) (w0 : (Lit.int .i64 a0).wf = true) (w1 : (Lit.int .i64 a1).wf = true) (w2 : (Lit.int .i64 a2).wf = true) :
    Calls Try.prog 10 #[.int .i64 a0, .int .i64 a1, .int .i64 a2] w fun e w' => e = .returned (.bool true) ∧ Below w.heap.size w w' := by
  obtain ⟨m, hm⟩ : ∃ m, m = wn a1 100 := ⟨_, rfl⟩
  have hm1 := wn_lt a1 100 (by omega)
  have cm := withinN_c a1 100 (by omega) (by omega)
  rw [← hm] at hm1 cm
  have CM := hidp cm
  obtain ⟨d, hd⟩ : ∃ d, d = m + 1 := ⟨_, rfl⟩
  have hdE : (1 : Int) + (m : Int) = (d : Int) := by omega
  obtain ⟨k, hk⟩ : ∃ k, k = wn a0 d := ⟨_, rfl⟩
  have hk1 := wn_lt a0 d (by omega)
  have ck := withinN_c a0 d (by omega) (by omega)
  rw [← hk] at hk1 ck
  have CK := hidp ck
  obtain ⟨n, hn⟩ : ∃ n, n = k + 1 := ⟨_, rfl⟩
  have hnE : (1 : Int) + (k : Int) = (n : Int) := by omega
  obtain ⟨t, ht⟩ : ∃ t, t = wn a2 ((d : Int) - (n : Int) + 1) := ⟨_, rfl⟩
  have ht1 := wn_lt a2 ((d : Int) - (n : Int) + 1) (by omega)
  have ct := withinN_c a2 ((d : Int) - (n : Int) + 1) (by omega) (by omega)
  rw [← ht] at ht1 ct
  have CT := hidp ct
  obtain ⟨n2, hn2⟩ : ∃ n2, n2 = n + t := ⟨_, rfl⟩
  have hn2E : (n : Int) + (t : Int) = (n2 : Int) := by omega
  have P1 := hidp (fun W => part_c n d (by omega) (by omega) (by omega) W)
  have P2 := hidp (fun W => part_c n2 d (by omega) (by omega) (by omega) W)
  have hmono := cq_mono n n2 d (by omega) (by omega)
  have hpar := cq_parts n d (by omega)
  have q1 : 72057594037927936 / d ≤ 72057594037927936 := Nat.div_le_self _ _
  have r1 : 72057594037927936 % d < d := Nat.mod_lt _ (by omega)
  have e1 : (72057594037927936 : Int) / (d : Int) = ((72057594037927936 / d : Nat) : Int) := by rw [Int.natCast_ediv]; rfl
  have e2 : (72057594037927936 : Int) % (d : Int) = ((72057594037927936 % d : Nat) : Int) := by rw [Int.natCast_emod]; rfl
  generalize 72057594037927936 / d = q at *
  generalize 72057594037927936 % d = r at *
  have m1 := Nat.mul_le_mul (show q ≤ 72057594037927936 from q1) (show n ≤ 100 by omega)
  have m2 := Nat.mul_le_mul (show r ≤ 100 by omega) (show n ≤ 100 by omega)
  obtain ⟨A, hA⟩ : ∃ A, A = q * n := ⟨_, rfl⟩
  obtain ⟨B, hB⟩ : ∃ B, B = r * n := ⟨_, rfl⟩
  rw [← hA] at m1 hpar
  rw [← hB] at m2 hpar
  have e3 : (q : Int) * (n : Int) = (A : Int) := by rw [hA, Int.natCast_mul]
  have e4 : (r : Int) * (n : Int) = (B : Int) := by rw [hB, Int.natCast_mul]
  obtain ⟨C, hC⟩ : ∃ C, C = (B + (d - 1)) / d := ⟨_, rfl⟩
  rw [← hC] at hpar
  have hC1 : C ≤ 10100 := by rw [hC]; exact Nat.le_trans (Nat.div_le_self _ _) (by omega)
  have e5 : ((B : Int) + (d : Int) - 1) / (d : Int) = (C : Int) := by rw [hC, Int.natCast_ediv]; congr 1; omega
  generalize cq n d = X at *
  generalize cq n2 d = Z at *
  have HP := hidp hpar
  have hAb : A ≤ 7205759403792793600 := by omega
  have hX : (72057594037927936 : Int) - (72057594037927936 - (X : Int)) = (A : Int) + (C : Int) := by omega
  have hZ : (72057594037927936 : Int) - (Z : Int) ≤ 72057594037927936 - (X : Int) := by omega
  have hd1 : 1 ≤ d := by omega
  have hd2 : d ≤ 100 := by omega
  have hn1 : 1 ≤ n := by omega
  have hn3 : n ≤ d := by omega
  have hnz : ¬ d = 0 := by omega
  clear hm hk hn ht hn2 hA hB hC hpar hd m1 cm ck ct
  go_enter Try.func10, Try.ntmps10
  go_wp2_with fail
  refine (part_c 1 2 (by omega) (by omega) (by omega) _).mono ?_
  rintro e w' ⟨rfl, k1, rfl⟩
  rw [ex1]
  go_wp2_with fail
  refine (CM.out _).mono ?_; rintro e w' ⟨rfl, rfl⟩
  go_wp2_with fail
  refine (CK.out _).mono ?_; rintro e w' ⟨rfl, rfl⟩
  go_wp2_with fail
  refine (P1.out _).mono ?_
  rintro e w' ⟨rfl, k2, rfl⟩
  go_wp2_with fail
  refine (CT.out _).mono ?_; rintro e w' ⟨rfl, rfl⟩
  go_wp2_with fail
  refine (P2.out _).mono ?_
  rintro e w' ⟨rfl, k3, rfl⟩
  go_wp2_with fail
  go_quiet (fail)
  go_wp2
  go_ret
  exact ⟨rfl, below_drewN (Below.refl _ _) _⟩
end Go.Proofs.Ytpdigiefldnpaaa.gatePart
