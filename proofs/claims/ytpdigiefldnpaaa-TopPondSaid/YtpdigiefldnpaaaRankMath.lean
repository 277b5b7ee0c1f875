/- Ranks of rows of numbers, and the rows of ranks (plain Lean). -/
import Derived.Test.YtpdigiefldnpaaaSomeMath
namespace Go.Proofs.Ytpdigiefldnpaaa.CombMath

/-- The rank of the first k. -/
def rs (c : Nat → Nat) : Nat → Nat
  | 0 => 0
  | k + 1 => rs c k + wz (c k) (k + 1)
/-- Rising, below 30. -/
def Rise (c : Nat → Nat) (n : Nat) : Prop := ∀ i, i < n → c i < 30 ∧ (0 < i → c (i - 1) < c i)
theorem rs_lt (c : Nat → Nat) : ∀ n, n + 1 ≤ 30 → Rise c (n + 1) → rs c (n + 1) < wz (c n + 1) (n + 1)
  | 0, _, h => by
    have := (h 0 (by omega)).1
    simp only [rs]
    rw [wz_one_tab _ (by omega), wz_one_tab _ (by omega)]
    omega
  | n + 1, hn, h => by
    have ih := rs_lt c n (by omega) (fun i hi => h i (by omega))
    have h1 := h (n + 1) (by omega)
    have h2 := h1.2 (by omega)
    rw [show n + 1 - 1 = n by omega] at h2
    have hp := wz_pas_tab (c (n + 1)) (by omega) (n + 1) (by omega)
    have hm := wz_le_of (n + 1) (by omega) (show c n + 1 ≤ c (n + 1) by omega) (by omega)
    rw [rs, hp]
    omega
theorem rs_all (c : Nat → Nat) (n : Nat) (hn : n ≤ 30) (h : Rise c n) : rs c n < wz 30 n := by
  cases n with
  | zero => simp only [rs]; decide +kernel
  | succ n =>
    have a := rs_lt c n hn h
    have b := (h n (by omega)).1
    exact Nat.lt_of_lt_of_le a (wz_le_of (n + 1) hn (by omega) (by omega))
theorem top_rs (c : Nat → Nat) (n : Nat) (hn : n + 1 ≤ 30) (h : Rise c (n + 1)) : top (n + 1) (rs c (n + 1)) = c n := by
  have hlt := rs_lt c n hn h
  have hc := (h n (by omega)).1
  have hge : wz (c n) (n + 1) ≤ rs c (n + 1) := by simp only [rs]; omega
  obtain ⟨t1, t2, t3, _, t4⟩ := top_spec (n + 1) (rs c (n + 1)) (by omega) hn
  rcases Nat.lt_trichotomy (top (n + 1) (rs c (n + 1))) (c n) with hl | he | hg
  · rcases t4 with t4 | t4
    · have := wz_le_of (n + 1) hn (show top (n + 1) (rs c (n + 1)) + 1 ≤ c n by omega) (by omega)
      omega
    · omega
  · exact he
  · have := wz_le_of (n + 1) hn (show c n + 1 ≤ top (n + 1) (rs c (n + 1)) by omega) (by omega)
    omega
theorem rk_rs (c : Nat → Nat) (n : Nat) (hn : n ≤ 30) (h : Rise c n) : ∀ d, d ≤ n → rk n (rs c n) d = rs c (n - d)
  | 0, _ => rfl
  | d + 1, hd => by
    have ih := rk_rs c n hn h d (by omega)
    obtain ⟨m, hm⟩ : ∃ m, n - d = m + 1 := ⟨n - d - 1, by omega⟩
    simp only [rk]
    rw [ih, hm, top_rs c m (by omega) (fun i hi => h i (by omega)), show n - (d + 1) = m by omega]
    simp only [rs]
    omega
/-- The row of a row's rank is the row. -/
theorem some_rs (c : Nat → Nat) (n : Nat) (hn : n ≤ 30) (h : Rise c n) (p : Nat) (hp : p < n) : top (p + 1) (rk n (rs c n) (n - 1 - p)) = c p := by
  rw [rk_rs c n hn h (n - 1 - p) (by omega), show n - (n - 1 - p) = p + 1 by omega]
  exact top_rs c p (by omega) (fun i hi => h i (by omega))
theorem rk_lt (k r : Nat) (hk : k ≤ 30) (hr : r < wz 30 k) : ∀ d, d < k → rk k r d < wz 30 (k - d)
  | 0, _ => hr
  | d + 1, hd => by
    have ih := rk_lt k r hk hr d (by omega)
    have := rk_step (k - (d + 1)) (rk k r d) (by omega) (by omega) (by rw [show k - (d + 1) + 1 = k - d by omega]; exact ih)
    rw [show k - (d + 1) + 1 = k - d by omega] at this
    exact this
theorem rk_end (k r : Nat) (hk : k ≤ 30) (hr : r < wz 30 k) : rk k r k = 0 := by
  cases k with
  | zero =>
    have : wz 30 0 = 1 := by decide +kernel
    simp only [rk]; omega
  | succ k =>
    have h := rk_lt (k + 1) r hk hr k (by omega)
    rw [show k + 1 - k = 1 by omega] at h
    have h30 : wz 30 1 = 30 := wz_one_tab 30 (by omega)
    simp only [rk]
    rw [show k + 1 - k = 1 by omega, top_one _ (by omega), wz_one_tab _ (by omega)]
    omega
/-- Place p of the row of a rank. -/
def sf (k r p : Nat) : Nat := top (p + 1) (rk k r (k - 1 - p))
theorem sf_rise (k r : Nat) (hk : k ≤ 30) (hr : r < wz 30 k) : Rise (sf k r) k := by
  intro p hp
  have hlt := rk_lt k r hk hr (k - 1 - p) (by omega)
  obtain ⟨t1, t2, t3, _, t4⟩ := top_spec (p + 1) (rk k r (k - 1 - p)) (by omega) (by omega)
  refine ⟨by unfold sf; omega, fun h0 => ?_⟩
  unfold sf
  have e : rk k r (k - 1 - (p - 1)) = rk k r (k - 1 - p) - wz (top (p + 1) (rk k r (k - 1 - p))) (p + 1) := by
    rw [show k - 1 - (p - 1) = (k - 1 - p) + 1 by omega]
    simp only [rk]
    rw [show k - (k - 1 - p) = p + 1 by omega]
  rw [show p - 1 + 1 = p by omega, e]
  rw [show k - (k - 1 - p) = p + 1 by omega] at hlt
  generalize rk k r (k - 1 - p) = R at *
  generalize top (p + 1) R = t at *
  have hp' := wz_pas_tab t (by omega) p (by omega)
  have hr' : R - wz t (p + 1) < wz t p := by
    rcases t4 with t4 | t4
    · omega
    · rw [t4] at hp'; omega
  obtain ⟨s1, s2, s3, s4, _⟩ := top_spec p (R - wz t (p + 1)) (by omega) (by omega)
  rcases Nat.lt_or_ge (top p (R - wz t (p + 1))) t with hl | hg
  · exact hl
  · rcases s4 with s4 | s4
    · omega
    · have := wz_le_of p (by omega) hg (by omega)
      omega
theorem rs_sf (k r : Nat) (hk : k ≤ 30) (hr : r < wz 30 k) : ∀ p, p ≤ k → rs (sf k r) p = rk k r (k - p)
  | 0, _ => by rw [show k - 0 = k by omega, rk_end k r hk hr]; rfl
  | p + 1, hp => by
    have ih := rs_sf k r hk hr p (by omega)
    simp only [rs]
    rw [ih]
    unfold sf
    rw [show k - (p + 1) = k - 1 - p by omega, show k - p = (k - 1 - p) + 1 by omega]
    simp only [rk]
    rw [show k - (k - 1 - p) = p + 1 by omega]
    have := (top_spec (p + 1) (rk k r (k - 1 - p)) (by omega) (by omega)).2.2.1
    omega
/-- The rank of a rank's row is the rank. -/
theorem rs_back (k r : Nat) (hk : k ≤ 30) (hr : r < wz 30 k) : rs (sf k r) k = r := by
  rw [rs_sf k r hk hr k (Nat.le_refl _), Nat.sub_self]; rfl
theorem rs_congr (c d : Nat → Nat) : ∀ n, (∀ i, i < n → c i = d i) → rs c n = rs d n
  | 0, _ => rfl
  | n + 1, h => by simp only [rs]; rw [rs_congr c d n (fun i hi => h i (by omega)), h n (by omega)]
theorem rs_bd (c : Nat → Nat) : ∀ n, (∀ i, i < n → c i ≤ 30) → rs c n ≤ 155117520 * n
  | 0, _ => by simp [rs]
  | n + 1, h => by
    have a := rs_bd c n (fun i hi => h i (by omega))
    have b := wz_le (c n) (n + 1) (h n (by omega))
    simp only [rs]; omega
end Go.Proofs.Ytpdigiefldnpaaa.CombMath
