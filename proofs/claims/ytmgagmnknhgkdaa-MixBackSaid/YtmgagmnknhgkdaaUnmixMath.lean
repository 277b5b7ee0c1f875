/- A shifted xor, undone by repeating it (plain Lean, no program in sight). -/
import Derived.Test.YtmgagmnknhgkdaaMixMath
namespace Go.Proofs.Ytmgagmnknhgkdaa.MixMath

/-- What the loop of mix.unshift has after k rounds. -/
def un (s y : Nat) : Nat → Nat
  | 0 => y
  | k + 1 => y ^^^ un s y k / 2 ^ s
theorem un_lt (s y : Nat) (h : y < M64) : ∀ k, un s y k < M64
  | 0 => h
  | k + 1 => Nat.xor_lt_two_pow (n := 64) h (Nat.lt_of_le_of_lt (Nat.div_le_self _ _) (un_lt s y h k))
theorem un_near (s y : Nat) (h : y < M64) : ∀ k i, 64 ≤ i + s * (k + 1) → (un s y (k + 1)).testBit i = (un s y k).testBit i
  | 0, i, hi => by
    have h2 : 2 ^ 64 ≤ 2 ^ (i + s) := Nat.pow_le_pow_right (by omega) (by omega)
    simp only [un, Nat.testBit_xor, Nat.testBit_div_two_pow]
    rw [Nat.testBit_lt_two_pow (i := i + s) (Nat.lt_of_lt_of_le h h2)]
    simp
  | k + 1, i, hi => by
    have e := un_near s y h k (i + s) (by rw [Nat.mul_add] at hi; omega)
    have e1 : un s y (k + 2) = y ^^^ un s y (k + 1) / 2 ^ s := rfl
    have e2 : un s y (k + 1) = y ^^^ un s y k / 2 ^ s := rfl
    rw [e1, Nat.testBit_xor, Nat.testBit_div_two_pow, e]
    conv => rhs; rw [e2, Nat.testBit_xor, Nat.testBit_div_two_pow]
theorem sh_un (s y : Nat) (hs : 27 ≤ s) (h : y < M64) : sh s (un s y 5) = y := by
  have e : un s y 6 = un s y 5 := Nat.eq_of_testBit_eq fun i => un_near s y h 5 i (by omega)
  have e1 : un s y 6 = y ^^^ un s y 5 / 2 ^ s := rfl
  unfold sh
  rw [e1] at e
  conv => lhs; arg 1; rw [← e]
  rw [Nat.xor_assoc, Nat.xor_self, Nat.xor_zero]
/-- What mix.Unmix reckons. -/
def unmixN (x : Nat) : Nat := un 30 (un 27 (un 31 x 5 * D2 % M64) 5 * D1 % M64) 5
theorem unmixN_lt (x : Nat) : unmixN x < M64 := un_lt _ _ (Nat.mod_lt _ (by decide)) _
theorem back (c d z : Nat) (hcd : d * c % M64 = 1) (hz : z < M64) : (z * d % M64) * c % M64 = z := by
  rw [Nat.mod_mul_mod, Nat.mul_assoc, Nat.mul_mod, hcd, Nat.mul_one, Nat.mod_mod, Nat.mod_eq_of_lt hz]
theorem mix_unmix (x : Nat) (hx : x < M64) : mixN (unmixN x) = x := by
  have m1 : ∀ a, a % M64 < M64 := fun a => Nat.mod_lt _ (by decide)
  rw [mixN_eq]
  unfold unmixN
  rw [sh_un 30 _ (by omega) (m1 _), back C1 D1 _ (by decide) (un_lt _ _ (m1 _) _), sh_un 27 _ (by omega) (m1 _), back C2 D2 _ (by decide) (un_lt _ _ hx _), sh_un 31 _ (by omega) hx]
theorem unmix_mix (x : Nat) (hx : x < M64) : unmixN (mixN x) = x :=
  mixN_inj _ _ (unmixN_lt _) hx (mix_unmix _ (mixN_lt x))
theorem mixN_zero : mixN 0 = 0 := by decide +kernel
theorem mixN_12 : mixN 1 ≠ mixN 2 := by decide +kernel
/-- What the loop of mix.inverse has after k rounds. -/
def inv (a : Nat) : Nat → Nat
  | 0 => a
  | k + 1 => inv a k * ((2 + M64 * M64 - a * inv a k) % M64) % M64
theorem inv_two : inv C2 6 = D2 := by decide +kernel
theorem inv_one : inv C1 6 = D1 := by decide +kernel
end Go.Proofs.Ytmgagmnknhgkdaa.MixMath
