/- The mixing function on natural numbers below 2^64 (plain Lean, no program in sight): it is one to one. -/
namespace Go.Proofs.Ytffocoflmbhknaa.MixMath

def M64 : Nat := 18446744073709551616
def C1 : Nat := 13787848793156543929
def C2 : Nat := 10723151780598845931

/-- What mix.Mix reckons. -/
def mixN (x : Nat) : Nat :=
  let y := (x ^^^ x / 1073741824) * C1 % M64
  let z := (y ^^^ y / 134217728) * C2 % M64
  z ^^^ z / 2147483648

def sh (s x : Nat) : Nat := x ^^^ x / 2 ^ s

theorem sh_lt (s x : Nat) (h : x < M64) : sh s x < M64 :=
  Nat.xor_lt_two_pow (n := 64) h (Nat.lt_of_le_of_lt (Nat.div_le_self _ _) h)

theorem mixN_eq (x : Nat) : mixN x = sh 31 (sh 27 (sh 30 x * C1 % M64) * C2 % M64) := rfl

theorem mixN_lt (x : Nat) : mixN x < M64 := by
  rw [mixN_eq]; exact sh_lt _ _ (Nat.mod_lt _ (by decide))

/-- A shifted xor is undone by repeating it. -/
theorem sh_inj (s : Nat) (hs : 1 ≤ s) (x y : Nat) (hx : x < 2 ^ 64) (h : sh s x = sh s y) (hy : y < 2 ^ 64) : x = y := by
  have key : ∀ m i, 64 - i ≤ m → x.testBit i = y.testBit i := by
    intro m
    induction m with
    | zero =>
      intro i hi
      have h2 : 2 ^ 64 ≤ 2 ^ i := Nat.pow_le_pow_right (by omega) (by omega)
      rw [Nat.testBit_lt_two_pow (by omega), Nat.testBit_lt_two_pow (by omega)]
    | succ m ih =>
      intro i hi
      have e := congrArg (fun n => n.testBit i) h
      simp only [sh, Nat.testBit_xor, Nat.testBit_div_two_pow] at e
      have e2 := ih (s + i) (by omega)
      rw [Nat.add_comm] at e2
      rw [e2] at e
      cases hb : y.testBit (i + s) <;> rw [hb] at e <;> simpa using e
  exact Nat.eq_of_testBit_eq fun i => key 64 i (by omega)

theorem mul_inj (c d x y : Nat) (hcd : c * d % M64 = 1) (hx : x < M64) (hy : y < M64) (h : x * c % M64 = y * c % M64) : x = y := by
  have e : ∀ z, z < M64 → (z * c % M64) * d % M64 = z := by
    intro z hz
    rw [Nat.mod_mul_mod, Nat.mul_assoc, Nat.mul_mod, hcd, Nat.mul_one, Nat.mod_mod, Nat.mod_eq_of_lt hz]
  rw [← e x hx, ← e y hy, h]

def D1 : Nat := 10871156337175269513
def D2 : Nat := 3573116690164977347

theorem mixN_inj (x y : Nat) (hx : x < M64) (hy : y < M64) (h : mixN x = mixN y) : x = y := by
  rw [mixN_eq, mixN_eq] at h
  have m1 : ∀ a, a % M64 < M64 := fun a => Nat.mod_lt _ (by decide)
  have h1 := sh_inj 31 (by omega) _ _ (m1 _) h (m1 _)
  have h2 := mul_inj C2 D2 _ _ (by decide) (sh_lt 27 _ (m1 _)) (sh_lt 27 _ (m1 _)) h1
  have h3 := sh_inj 27 (by omega) _ _ (m1 _) h2 (m1 _)
  have h4 := mul_inj C1 D1 _ _ (by decide) (sh_lt 30 _ hx) (sh_lt 30 _ hy) h3
  exact sh_inj 30 (by omega) _ _ hx h4 hy

theorem mixN_at_G : mixN 11400714819323198485 = 16294208416658607535 := by decide +kernel

end Go.Proofs.Ytffocoflmbhknaa.MixMath
