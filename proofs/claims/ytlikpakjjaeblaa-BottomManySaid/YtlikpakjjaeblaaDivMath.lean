/- Division of two words by one (Knuth's D in halves of a word), plain. -/
import Derived.Lib.ItoaNum
import Derived.Laws.Bits64b
namespace Go.Proofs.Ytlikpakjjaeblaa
set_option maxRecDepth 20000

theorem kn_mul (q a c B : Nat) : (a * B + c) * q = q * a * B + q * c := by
  rw [Nat.mul_comm, Nat.mul_add, Nat.mul_assoc]
/-- The trial is too great. -/
theorem kn_more {u d a c q r B : Nat} (h : q * a + r = u) (hu : u < a * B + c) (hd : d < B) (hc : B ≤ q ∨ B * r + d < q * c) : (u * B + d) / (a * B + c) < q := by
  apply Nat.div_lt_of_lt_mul
  rcases hc with hc | hc
  · have h1 : (u + 1) * B ≤ (a * B + c) * q := Nat.mul_le_mul hu hc
    rw [Nat.add_mul] at h1
    omega
  · rw [kn_mul]
    have e : u * B = q * a * B + r * B := by rw [← h, Nat.add_mul]
    rw [Nat.mul_comm B r] at hc
    omega
/-- The trial is not too great. -/
theorem kn_done {u d a c q r B : Nat} (h : q * a + r = u) (hY : 0 < a * B + c) (hc : q * c ≤ B * r + d) : q ≤ (u * B + d) / (a * B + c) := by
  rw [Nat.le_div_iff_mul_le hY, Nat.mul_comm, kn_mul]
  have e : u * B = q * a * B + r * B := by rw [← h, Nat.add_mul]
  rw [Nat.mul_comm B r] at hc
  omega
/-- The rest has grown great. -/
theorem kn_break {u d a c q r B : Nat} (h : q * a + r = u) (hu : u < a * B + c) (hcB : c < B) (hr : B ≤ r) : q * c ≤ B * r + d := by
  have h1 : q * a < a * B := by omega
  have h2 : q < B := by
    rw [Nat.mul_comm q a] at h1
    exact Nat.lt_of_mul_lt_mul_left h1
  have h3 : q * c ≤ B * r := Nat.mul_le_mul (by omega) (by omega)
  omega
theorem kn_q {u a c q r B : Nat} (h : q * a + r = u) (hu : u < a * B + c) (hc : c < B) (ha : 1 ≤ a) : q ≤ 2 * B := by
  have h1 : q * a ≤ a * B + B := by omega
  have h2 : a * B + B ≤ a * (2 * B) := by
    rw [Nat.mul_left_comm, Nat.two_mul]
    have := Nat.mul_le_mul_right B ha
    omega
  rw [Nat.mul_comm q a] at h1
  exact Nat.le_of_mul_le_mul_left (Nat.le_trans h1 h2) (by omega)
/-- The normed numbers. -/
theorem kn_norm (H L y : Nat) (h1 : 1 ≤ y) (h2 : y ≤ 72057594037927936) (hH : H < y) (hL : L < 18446744073709551616) :
    ∃ s Y u v : Nat, 64 - (Lib.bitLen y : Int) = (s : Int) ∧ 1 ≤ s ∧ s ≤ 63 ∧ y * 2 ^ s = Y ∧ 9223372036854775808 ≤ Y ∧ Y < 18446744073709551616 ∧ H * 2 ^ s < 18446744073709551616 ∧ (H * 2 ^ s ||| L / 2 ^ (64 - s)) = u ∧ L * 2 ^ s % 18446744073709551616 = v
      ∧ u < Y ∧ u * 18446744073709551616 + v = (H * 18446744073709551616 + L) * 2 ^ s := by
  obtain ⟨hb1, b2, b1⟩ := Lib.bitLenAux_bounds 64 y (by omega) (by omega)
  have eb : Lib.bitLen y = Lib.bitLenAux 64 y := rfl
  rw [eb]
  generalize Lib.bitLenAux 64 y = b at *
  have hb2 : b ≤ 57 := by
    rcases Nat.lt_or_ge 57 b with e | e
    · have := Nat.pow_le_pow_right (show 0 < 2 by omega) (show 57 ≤ b - 1 by omega)
      omega
    · exact e
  have p1 : 2 ^ (b - 1) * 2 ^ (64 - b) = 9223372036854775808 := by rw [← Nat.pow_add, show b - 1 + (64 - b) = 63 by omega]
  have p2 : 2 ^ b * 2 ^ (64 - b) = 18446744073709551616 := by rw [← Nat.pow_add, show b + (64 - b) = 64 by omega]
  have hs : 64 - (64 - b) = b := by omega
  refine ⟨64 - b, _, _, _, by omega, by omega, by omega, rfl, ?_, ?_, ?_, rfl, rfl, ?_, ?_⟩
  · rw [← p1]; exact Nat.mul_le_mul_right _ b2
  · rw [← p2]; exact Nat.mul_lt_mul_of_pos_right b1 (Nat.two_pow_pos _)
  · rw [← p2]; exact Nat.mul_lt_mul_of_pos_right (Nat.lt_trans hH b1) (Nat.two_pow_pos _)
  all_goals
    rw [hs]
    have hd : L / 2 ^ b < 2 ^ (64 - b) := Nat.div_lt_of_lt_mul (by rw [p2]; exact hL)
    have ho : (H * 2 ^ (64 - b) ||| L / 2 ^ b) = H * 2 ^ (64 - b) + L / 2 ^ b := by
      rw [Nat.mul_comm, ← Nat.two_pow_add_eq_or_of_lt hd]
    rw [ho]
  · have := Nat.mul_le_mul_right (2 ^ (64 - b)) (show H + 1 ≤ y from hH)
    rw [Nat.add_mul] at this
    omega
  · have e1 : L * 2 ^ (64 - b) = L / 2 ^ b * 18446744073709551616 + L % 2 ^ b * 2 ^ (64 - b) := by
      conv => lhs; rw [← Nat.div_add_mod L (2 ^ b)]
      rw [Nat.add_mul, Nat.mul_comm (2 ^ b), Nat.mul_assoc, p2]
    have e2 : L % 2 ^ b * 2 ^ (64 - b) < 18446744073709551616 := by
      rw [← p2]; exact Nat.mul_lt_mul_of_pos_right (Nat.mod_lt _ (Nat.two_pow_pos _)) (Nat.two_pow_pos _)
    have e3 : H * 18446744073709551616 * 2 ^ (64 - b) = H * 2 ^ (64 - b) * 18446744073709551616 := by rw [Nat.mul_right_comm]
    rw [Nat.add_mul, Nat.add_mul, e1, e3]
    omega
/-- Both halves together. -/
theorem kn_all {N y s Y A d : Nat} (B : Nat) (hy : 0 < y) (hY : y * 2 ^ s = Y) (hU : A * B + d = N * 2 ^ s) :
    A / Y * B + (A % Y * B + d) / Y = N / y ∧ (A % Y * B + d) % Y / 2 ^ s = N % y := by
  have hYp : 0 < Y := by rw [← hY]; exact Nat.mul_pos hy (Nat.two_pow_pos _)
  have hd := Nat.div_add_mod A Y
  generalize A / Y = q1 at *
  generalize A % Y = r1 at *
  have hU2 : r1 * B + d + Y * (q1 * B) = N * 2 ^ s := by
    have e1 : Y * (q1 * B) = Y * q1 * B := by rw [Nat.mul_assoc]
    have e2 : (Y * q1 + r1) * B = A * B := by rw [hd]
    rw [Nat.add_mul] at e2
    omega
  have c1 : N * 2 ^ s / Y = N / y := by rw [← hY, Nat.mul_div_mul_right _ _ (Nat.two_pow_pos _)]
  have c2 : N * 2 ^ s % Y = N % y * 2 ^ s := by rw [← hY, Nat.mul_mod_mul_right]
  rw [← hU2, Nat.add_mul_div_left _ _ hYp] at c1
  rw [← hU2, Nat.add_mul_mod_self_left] at c2
  refine ⟨by rw [← c1, Nat.add_comm], ?_⟩
  rw [c2, Nat.mul_div_cancel _ (Nat.two_pow_pos _)]
/-- What is left, in words. -/
theorem kn_left (u d q Y : Nat) (hq : q = (u * 4294967296 + d) / Y) (hY : Y < 18446744073709551616) (hYp : 0 < Y) :
    IntKind.u64.wrap (IntKind.u64.wrap (IntKind.u64.wrap ((u : Int) * 4294967296) + (d : Int)) - IntKind.u64.wrap ((q : Int) * (Y : Int))) = (((u * 4294967296 + d) % Y : Nat) : Int) := by
  have hm := Nat.div_add_mod (u * 4294967296 + d) Y
  have hl := Nat.mod_lt (u * 4294967296 + d) hYp
  rw [← hq] at hm
  generalize (u * 4294967296 + d) % Y = r at *
  have e : (q : Int) * (Y : Int) = (u : Int) * 4294967296 + d - r := by
    rw [← Int.natCast_mul, Nat.mul_comm]
    omega
  rw [e]
  simp only [IntKind.wrap_u64]
  omega
end Go.Proofs.Ytlikpakjjaeblaa
