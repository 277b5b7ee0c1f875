/- Even points: how many fall below a bound, and what that says of quotas (plain Lean, over sums of weights). -/
import Derived.Test.YtmgagmnknhgkdaaWts
import Derived.Test.YtmgagmnknhgkdaaSortMath
namespace Go.Proofs.Ytmgagmnknhgkdaa
open SortMath

/-- The j-th point falls on thing i. -/
def hit (xs : List Int) (K A start : Int) (i j : Nat) : Bool := decide (sumK xs i * K ≤ start + (j : Int) * A ∧ start + (j : Int) * A < sumK xs (i + 1) * K)
/-- How often thing i is picked by the first j points. -/
def evF (xs : List Int) (K A start : Int) (j i : Nat) : Int := (cn (hit xs K A start i) j : Nat)
def evM (xs : List Int) (K start : Int) (n i : Nat) : Int := evF xs K (sumK xs n) start K.toNat i
theorem sumK_mono (xs : List Int) (n : Nat) (h : okN xs n = true) (i : Nat) : ∀ d, i + d ≤ n → sumK xs i ≤ sumK xs (i + d)
  | 0, _ => Int.le_refl _
  | d + 1, hd => by
    have a := sumK_mono xs n h i d (by omega)
    have b := okN_at xs n h (i + d) (by omega)
    show sumK xs i ≤ sumK xs (i + d) + gi xs (i + d)
    omega
theorem sumK_le (xs : List Int) (n : Nat) (h : okN xs n = true) (i j : Nat) (hij : i ≤ j) (hj : j ≤ n) : sumK xs i ≤ sumK xs j := by
  have := sumK_mono xs n h i (j - i) (by omega)
  rwa [show i + (j - i) = j by omega] at this
/-- A point that falls on i falls on no other thing. -/
theorem hit_other (xs : List Int) (n : Nat) (h : okN xs n = true) (K A start : Int) (hK : 0 ≤ K) (i t j : Nat) (hi : i < n) (ht : t < n) (h1 : hit xs K A start i j = true) (hne : t ≠ i) : hit xs K A start t j = false := by
  simp only [hit, decide_eq_true_eq] at h1
  rw [hit, decide_eq_false_iff_not]
  intro h2
  rcases Nat.lt_or_ge t i with hl | hl
  · have a := sumK_le xs n h (t + 1) i (by omega) (by omega)
    have := Int.mul_le_mul_of_nonneg_right a hK
    omega
  · have a := sumK_le xs n h (i + 1) t (by omega) (by omega)
    have := Int.mul_le_mul_of_nonneg_right a hK
    omega
/-- How many points fall below a bound. -/
def low (A start x : Nat) (j : Nat) : Bool := decide (start + j * A < x)
theorem low_cn (A start x : Nat) (hA : 0 < A) (hs : start < A) : ∀ k, cn (low A start x) k = min k ((x + A - 1 - start) / A)
  | 0 => by simp [cn]
  | k + 1 => by
    have ih := low_cn A start x hA hs k
    have e : start + k * A < x ↔ k + 1 ≤ (x + A - 1 - start) / A := by
      rw [Nat.le_div_iff_mul_le hA, Nat.add_mul]
      omega
    simp only [cn]
    rw [ih]
    by_cases h : start + k * A < x
    · rw [if_pos (show low A start x k = true from decide_eq_true h)]
      have := e.1 h; omega
    · rw [if_neg (show ¬ low A start x k = true from fun h2 => h (of_decide_eq_true h2))]
      have : ¬ k + 1 ≤ (x + A - 1 - start) / A := fun h2 => h (e.2 h2)
      omega
theorem low_all (A start x k : Nat) (hA : 0 < A) (hs : start < A) (hx : x ≤ k * A) : cn (low A start x) k = (x + A - 1 - start) / A := by
  rw [low_cn A start x hA hs k]
  have : (x + A - 1 - start) / A ≤ k := by
    rw [← Nat.lt_succ_iff, Nat.div_lt_iff_lt_mul hA, Nat.succ_mul]
    omega
  omega
theorem cn_split (p q r : Nat → Bool) : ∀ k, (∀ j, j < k → (if p j = true then 1 else 0) + (if q j = true then 1 else 0) = if r j = true then 1 else 0) → cn p k + cn q k = cn r k
  | 0, _ => rfl
  | k + 1, h => by
    have a := cn_split p q r k (fun j hj => h j (by omega))
    have b := h k (by omega)
    simp only [cn]
    omega
/-- The quotient that tells how many points fall below x. -/
def qx (A start : Nat) (x : Nat) : Nat := (x + A - 1 - start) / A
theorem evM_q (xs : List Int) (n : Nat) (h : okN xs n = true) (K start : Nat) (hs : (start : Int) < sumK xs n) (i : Nat) (hi : i < n) :
    evM xs K start n i = (qx (sumK xs n).toNat start ((sumK xs (i + 1)).toNat * K) : Nat) - (qx (sumK xs n).toNat start ((sumK xs i).toNat * K) : Nat) ∧ qx (sumK xs n).toNat start ((sumK xs i).toNat * K) ≤ qx (sumK xs n).toNat start ((sumK xs (i + 1)).toNat * K) := by
  obtain ⟨A, hA⟩ := Int.eq_ofNat_of_zero_le (sumK_ok xs n h).1
  obtain ⟨S, hS⟩ := Int.eq_ofNat_of_zero_le (sumK_ok xs i (okN_down xs n i h (by omega))).1
  obtain ⟨T, hT⟩ := Int.eq_ofNat_of_zero_le (sumK_ok xs (i + 1) (okN_down xs n (i + 1) h (by omega))).1
  have m1 := sumK_le xs n h i (i + 1) (by omega) (by omega)
  have m2 := sumK_le xs n h (i + 1) n (by omega) (by omega)
  unfold evM evF
  rw [hA, hS, hT]
  simp only [Int.toNat_natCast]
  have hST : S ≤ T := by omega
  have hTA : T ≤ A := by omega
  have c1 := low_all A start (S * K) K (by omega) (by omega) (by rw [Nat.mul_comm K A]; exact Nat.mul_le_mul_right K (by omega))
  have c2 := low_all A start (T * K) K (by omega) (by omega) (by rw [Nat.mul_comm K A]; exact Nat.mul_le_mul_right K (by omega))
  have hm : S * K ≤ T * K := Nat.mul_le_mul_right K hST
  have sp := cn_split (hit xs K A start i) (low A start (S * K)) (low A start (T * K)) K (fun j _ => by
    have e : hit xs K A start i j = decide (S * K ≤ start + j * A ∧ start + j * A < T * K) := by
      unfold hit
      rw [hS, hT, decide_eq_decide, ← Int.natCast_mul, ← Int.natCast_mul, ← Int.natCast_mul]
      omega
    rw [e]
    unfold low
    generalize start + j * A = z
    generalize S * K = a at hm
    generalize T * K = b at hm
    by_cases h1 : z < a
    · rw [if_neg (by rw [decide_eq_true_eq]; omega), if_pos (by rw [decide_eq_true_eq]; omega), if_pos (by rw [decide_eq_true_eq]; omega)]
    · by_cases h2 : z < b
      · rw [if_pos (by rw [decide_eq_true_eq]; omega), if_neg (by rw [decide_eq_true_eq]; omega), if_pos (by rw [decide_eq_true_eq]; omega)]
      · rw [if_neg (by rw [decide_eq_true_eq]; omega), if_neg (by rw [decide_eq_true_eq]; omega), if_neg (by rw [decide_eq_true_eq]; omega)])
  unfold qx
  rw [← c1, ← c2]
  omega
end Go.Proofs.Ytmgagmnknhgkdaa
