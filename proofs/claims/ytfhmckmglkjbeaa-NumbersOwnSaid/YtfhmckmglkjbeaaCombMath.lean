/- The binomial coefficients as the program reckons them (plain Lean, no program in sight), and their laws within the bounds of the document, by kernel reckoning over all cases. -/
namespace Go.Proofs.Ytfhmckmglkjbeaa.CombMath

/-- What the loop of comb.Ways has after k rounds. -/
def wl (n : Nat) : Nat → Nat
  | 0 => 1
  | k + 1 => wl n k * (n - k) / (k + 1)

/-- ways, 0 where there are none. -/
def wz (n k : Nat) : Nat := if n < k then 0 else wl n k

theorem wl_le : ∀ n, n < 31 → ∀ k, k < n + 1 → wl n k ≤ 155117520 ∧ 1 ≤ wl n k := by decide +kernel


theorem wl_30_15 : ((wl 30 15 : Nat) : Int) = 155117520 := by decide +kernel
theorem wl_5_2 : ((wl 5 2 : Nat) : Int) = 10 := by decide +kernel

/-- The sum of the ways to pick k, of all numbers below m. -/
def hs (k : Nat) : Nat → Nat
  | 0 => 0
  | m + 1 => hs k m + wz m k

theorem hockey_tab : ∀ n, n < 30 → ∀ k, k < n + 1 → hs k k = 0 ∧ wl (n + 1) (k + 1) = hs k (n + 1) ∧ wl n k * (n + 1) = wl (n + 1) (k + 1) * (k + 1) := by decide +kernel
theorem hs_bd : ∀ m, m < 31 → ∀ k, k < 31 → hs k m ≤ 300000000 := by decide +kernel

/-- Vandermonde's sum, its first j terms. -/
def conv (n m k : Nat) : Nat → Nat
  | 0 => 0
  | j + 1 => conv n m k j + wz n j * wz m (k - j)
/-- The sum of a row, its first j terms. -/
def rowsum (n : Nat) : Nat → Nat
  | 0 => 0
  | j + 1 => rowsum n j + wz n j
theorem wz_le (n k : Nat) (h : n ≤ 30) : wz n k ≤ 155117520 := by
  unfold wz
  split
  · omega
  · exact (wl_le n (by omega) k (by omega)).1
theorem conv_le (n m k : Nat) (h : n ≤ 30) (h' : m ≤ 30) : ∀ j, conv n m k j ≤ j * 24061445010950400
  | 0 => by simp [conv]
  | j + 1 => by
    have a := conv_le n m k h h' j
    have b : wz n j * wz m (k - j) ≤ 155117520 * 155117520 := Nat.mul_le_mul (wz_le n j h) (wz_le m (k - j) h')
    simp only [conv]
    omega
theorem rowsum_le (n : Nat) (h : n ≤ 30) : ∀ j, rowsum n j ≤ j * 155117520
  | 0 => by simp [rowsum]
  | j + 1 => by
    have a := rowsum_le n h j
    have b := wz_le n j h
    simp only [rowsum]
    omega
theorem pascal_tab : ∀ n, n < 16 → ∀ m, m < 15 → ∀ k, k < n + m + 1 → conv n m k (k + 1) = wl (n + m) k ∧ wl (n + m) (n + m - k) = wl (n + m) k ∧ rowsum n (n + 1) = 2 ^ n ∧ wz (n + 1) (k + 1) = wz n k + wz n (k + 1) := by decide +kernel

end Go.Proofs.Ytfhmckmglkjbeaa.CombMath
