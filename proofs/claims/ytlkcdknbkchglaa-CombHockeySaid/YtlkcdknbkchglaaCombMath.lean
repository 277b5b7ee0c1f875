/- The binomial coefficients as the program reckons them (plain Lean, no program in sight), and their laws within the bounds of the document, by kernel reckoning over all cases. -/
namespace Go.Proofs.Ytlkcdknbkchglaa.CombMath

/-- What the loop of comb.Ways has after k rounds. -/
def wl (n : Nat) : Nat → Nat
  | 0 => 1
  | k + 1 => wl n k * (n - k) / (k + 1)

/-- ways, 0 where there are none. -/
def wz (n k : Nat) : Nat := if n < k then 0 else wl n k

theorem wl_le : ∀ n, n < 31 → ∀ k, k < n + 1 → wl n k ≤ 155117520 ∧ 1 ≤ wl n k := by decide +kernel


theorem wl_30_15 : ((wl 30 15 : Nat) : Int) = 155117520 := by decide +kernel
theorem wl_5_2 : ((wl 5 2 : Nat) : Int) = 10 := by decide +kernel

/-- The sum of the ways to pick k, of all numbers below m. -/
def hs (k : Nat) : Nat → Nat
  | 0 => 0
  | m + 1 => hs k m + wz m k

theorem hockey_tab : ∀ n, n < 30 → ∀ k, k < n + 1 → hs k k = 0 ∧ wl (n + 1) (k + 1) = hs k (n + 1) ∧ wl n k * (n + 1) = wl (n + 1) (k + 1) * (k + 1) := by decide +kernel
theorem hs_bd : ∀ m, m < 31 → ∀ k, k < 31 → hs k m ≤ 300000000 := by decide +kernel

end Go.Proofs.Ytlkcdknbkchglaa.CombMath
