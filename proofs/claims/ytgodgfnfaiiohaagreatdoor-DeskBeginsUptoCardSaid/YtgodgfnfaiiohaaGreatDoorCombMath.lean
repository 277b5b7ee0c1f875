/- The binomial coefficients as the program reckons them (plain Lean, no program in sight), and their laws within the bounds of the document, by kernel reckoning over all cases. -/
namespace Go.Proofs.YtgodgfnfaiiohaaGreatDoor.CombMath

/-- What the loop of comb.Ways has after k rounds. -/
def wl (n : Nat) : Nat → Nat
  | 0 => 1
  | k + 1 => wl n k * (n - k) / (k + 1)

/-- ways, 0 where there are none. -/
def wz (n k : Nat) : Nat := if n < k then 0 else wl n k

theorem wl_le : ∀ n, n < 31 → ∀ k, k < n + 1 → wl n k ≤ 155117520 ∧ 1 ≤ wl n k := by decide +kernel


/-- The sum of the ways to pick k, of all numbers below m. -/
def hs (k : Nat) : Nat → Nat
  | 0 => 0
  | m + 1 => hs k m + wz m k

/-- Vandermonde's sum, its first j terms. -/
def conv (n m k : Nat) : Nat → Nat
  | 0 => 0
  | j + 1 => conv n m k j + wz n j * wz m (k - j)
theorem wz_le (n k : Nat) (h : n ≤ 30) : wz n k ≤ 155117520 := by
  unfold wz
  split
  · omega
  · exact (wl_le n (by omega) k (by omega)).1
end Go.Proofs.YtgodgfnfaiiohaaGreatDoor.CombMath
