/- What the picks of even points say of quotas (plain Lean). -/
import Derived.Test.YtmgagmnknhgkdaaEvenMath
namespace Go.Proofs.Ytmgagmnknhgkdaa
open SortMath

theorem qx_bd (A start x : Nat) (hA : 0 < A) (hs : start < A) : qx A start x * A ≤ x + (A - 1 - start) ∧ x + (A - 1 - start) < qx A start x * A + A := by
  have e : x + A - 1 - start = x + (A - 1 - start) := by omega
  unfold qx
  rw [e]
  exact ⟨Nat.div_mul_le_self _ _, Nat.lt_div_mul_add hA⟩
theorem evM_bd (xs : List Int) (K start n i : Nat) : 0 ≤ evM xs K start n i ∧ evM xs K start n i ≤ K := by
  unfold evM evF
  have := cn_le (hit xs K (sumK xs n) start i) (K : Int).toNat
  omega
/-- What is picked of a thing is its share, but for less than one. -/
theorem quota (xs : List Int) (n : Nat) (h : okN xs n = true) (K start : Nat) (hs : (start : Int) < sumK xs n) (i : Nat) (hi : i < n) :
    evM xs K start n i * sumK xs n - K * gi xs i < sumK xs n ∧ -(evM xs K start n i * sumK xs n - K * gi xs i) < sumK xs n := by
  obtain ⟨e, hle⟩ := evM_q xs n h K start hs i hi
  rw [e]
  obtain ⟨A, hA⟩ := Int.eq_ofNat_of_zero_le (sumK_ok xs n h).1
  obtain ⟨S, hS⟩ := Int.eq_ofNat_of_zero_le (sumK_ok xs i (okN_down xs n i h (by omega))).1
  obtain ⟨W, hW⟩ := Int.eq_ofNat_of_zero_le (okN_at xs n h i hi).1
  have hT : sumK xs (i + 1) = ((S + W : Nat) : Int) := by
    show sumK xs i + gi xs i = _
    rw [hS, hW]; rfl
  rw [hA] at hs
  rw [hA, hS, hT] at hle
  rw [hA, hS, hT, hW]
  simp only [Int.toNat_natCast] at hle ⊢
  have b1 := qx_bd A start (S * K) (by omega) (by omega)
  have b2 := qx_bd A start ((S + W) * K) (by omega) (by omega)
  rw [Int.sub_mul, ← Int.natCast_mul, ← Int.natCast_mul, ← Int.natCast_mul, Nat.mul_comm K W]
  simp only [Nat.add_mul] at b2 hle ⊢
  generalize qx A start (S * K) * A = x at *
  generalize qx A start (S * K + W * K) * A = y at *
  omega
theorem quota_sum (xs : List Int) (n : Nat) (h : okN xs n = true) (K start : Nat) (hs : (start : Int) < sumK xs n) : ∀ k, k ≤ n → sumK (tab (evM xs K start n) n) k = (qx (sumK xs n).toNat start ((sumK xs k).toNat * K) : Nat)
  | 0, _ => by
    have : qx (sumK xs n).toNat start 0 = 0 := by
      unfold qx
      exact Nat.div_eq_of_lt (by omega)
    simp only [sumK, Int.toNat_zero, Nat.zero_mul]
    rw [this]; rfl
  | k + 1, hk => by
    have ih := quota_sum xs n h K start hs k (by omega)
    obtain ⟨e, hle⟩ := evM_q xs n h K start hs k (by omega)
    have e2 : sumK (tab (evM xs K start n) n) (k + 1) = sumK (tab (evM xs K start n) n) k + evM xs K start n k := by
      show _ + gi _ k = _
      rw [tab_gi _ _ _ (by omega)]
    rw [e2, ih, e]
    omega
theorem quota_all (xs : List Int) (n : Nat) (h : okN xs n = true) (K start : Nat) (hs : (start : Int) < sumK xs n) : sumK (tab (evM xs K start n) n) n = K := by
  rw [quota_sum xs n h K start hs n (Nat.le_refl _)]
  obtain ⟨A, hA⟩ := Int.eq_ofNat_of_zero_le (sumK_ok xs n h).1
  rw [hA] at hs ⊢
  simp only [Int.toNat_natCast]
  congr 1
  unfold qx
  have e : A * K + A - 1 - start = (A - 1 - start) + A * K := by omega
  rw [e, Nat.add_mul_div_left _ _ (by omega), Nat.div_eq_of_lt (by omega)]
  omega
end Go.Proofs.Ytmgagmnknhgkdaa
