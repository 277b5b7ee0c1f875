/- Even points: how many fall below a bound, and what that says of quotas (plain Lean, over sums of weights). -/
import Derived.Test.YtgodgfnfaiiohaaGreatDoorMgWts
import Derived.Test.YtgodgfnfaiiohaaGreatDoorSortMath
namespace Go.Proofs.YtgodgfnfaiiohaaGreatDoor
open SortMath

/-- The j-th point falls on thing i. -/
def hit (xs : List Int) (K A start : Int) (i j : Nat) : Bool := decide (sumK xs i * K ≤ start + (j : Int) * A ∧ start + (j : Int) * A < sumK xs (i + 1) * K)
/-- How often thing i is picked by the first j points. -/
def evF (xs : List Int) (K A start : Int) (j i : Nat) : Int := (cn (hit xs K A start i) j : Nat)
def evM (xs : List Int) (K start : Int) (n i : Nat) : Int := evF xs K (sumK xs n) start K.toNat i
theorem sumK_mono (xs : List Int) (n : Nat) (h : okN xs n = true) (i : Nat) : ∀ d, i + d ≤ n → sumK xs i ≤ sumK xs (i + d)
  | 0, _ => Int.le_refl _
  | d + 1, hd => by
    have a := sumK_mono xs n h i d (by omega)
    have b := okN_at xs n h (i + d) (by omega)
    show sumK xs i ≤ sumK xs (i + d) + gi xs (i + d)
    omega
theorem sumK_le (xs : List Int) (n : Nat) (h : okN xs n = true) (i j : Nat) (hij : i ≤ j) (hj : j ≤ n) : sumK xs i ≤ sumK xs j := by
  have := sumK_mono xs n h i (j - i) (by omega)
  rwa [show i + (j - i) = j by omega] at this
/-- A point that falls on i falls on no other thing. -/
theorem hit_other (xs : List Int) (n : Nat) (h : okN xs n = true) (K A start : Int) (hK : 0 ≤ K) (i t j : Nat) (hi : i < n) (ht : t < n) (h1 : hit xs K A start i j = true) (hne : t ≠ i) : hit xs K A start t j = false := by
  simp only [hit, decide_eq_true_eq] at h1
  rw [hit, decide_eq_false_iff_not]
  intro h2
  rcases Nat.lt_or_ge t i with hl | hl
  · have a := sumK_le xs n h (t + 1) i (by omega) (by omega)
    have := Int.mul_le_mul_of_nonneg_right a hK
    omega
  · have a := sumK_le xs n h (i + 1) t (by omega) (by omega)
    have := Int.mul_le_mul_of_nonneg_right a hK
    omega
/-- How many points fall below a bound. -/
def low (A start x : Nat) (j : Nat) : Bool := decide (start + j * A < x)
end Go.Proofs.YtgodgfnfaiiohaaGreatDoor
