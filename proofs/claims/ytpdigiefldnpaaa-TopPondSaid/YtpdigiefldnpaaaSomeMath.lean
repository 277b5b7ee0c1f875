/- The search of comb.Some (plain Lean, no program in sight) and its laws. -/
import Derived.Test.YtpdigiefldnpaaaCombMath
namespace Go.Proofs.Ytpdigiefldnpaaa.CombMath

theorem wz_step_tab : ∀ n, n < 30 → ∀ k, k < 31 → wz n k ≤ wz (n + 1) k := by decide +kernel
theorem wz_pas_tab : ∀ n, n < 30 → ∀ k, k < 30 → wz (n + 1) (k + 1) = wz n k + wz n (k + 1) := by decide +kernel
theorem wz_one_tab : ∀ n, n < 31 → wz n 1 = n := by decide +kernel
theorem wz_mono (k : Nat) (hk : k ≤ 30) : ∀ d n, n + d ≤ 30 → wz n k ≤ wz (n + d) k
  | 0, n, _ => Nat.le_refl _
  | d + 1, n, h => Nat.le_trans (wz_mono k hk d n (by omega)) (wz_step_tab (n + d) (by omega) k (by omega))
theorem wz_le_of (k : Nat) (hk : k ≤ 30) {m n : Nat} (h : m ≤ n) (hn : n ≤ 30) : wz m k ≤ wz n k := by
  have := wz_mono k hk (n - m) m (by omega)
  rwa [show m + (n - m) = n by omega] at this
/-- Where the search stops: with f steps left, at x. -/
def sx (i r : Nat) : Nat → Nat → Nat
  | 0, x => x
  | f + 1, x => if wz (x + 1) i ≤ r ∧ x + 1 < 30 then sx i r f (x + 1) else x
def top (i r : Nat) : Nat := sx i r (30 - (i - 1)) (i - 1)
theorem sx_go (i r x : Nat) (h : wz (x + 1) i ≤ r) (h' : x + 1 < 30) : sx i r (30 - x) x = sx i r (30 - (x + 1)) (x + 1) := by
  rw [show 30 - x = (30 - (x + 1)) + 1 by omega, sx, if_pos ⟨h, h'⟩]
theorem sx_stop (i r x : Nat) (h : ¬ (wz (x + 1) i ≤ r ∧ x + 1 < 30)) (hx : x < 30) : sx i r (30 - x) x = x := by
  rw [show 30 - x = (29 - x) + 1 by omega, sx, if_neg h]
theorem sx_spec (i r : Nat) : ∀ f x, x + f = 30 → 1 ≤ f → i - 1 ≤ x → (x = i - 1 ∨ wz x i ≤ r) →
    i - 1 ≤ sx i r f x ∧ sx i r f x ≤ 29 ∧ (sx i r f x = i - 1 ∨ wz (sx i r f x) i ≤ r) ∧ (r < wz (sx i r f x + 1) i ∨ sx i r f x + 1 = 30)
  | 0, _, _, h, _, _ => by omega
  | f + 1, x, h0, _, h2, h3 => by
    rw [sx]
    split
    · rename_i hc
      rcases Nat.eq_zero_or_pos f with hf | hf
      · omega
      · exact sx_spec i r f (x + 1) (by omega) hf (by omega) (.inr hc.1)
    · rename_i hc
      exact ⟨h2, by omega, h3, by omega⟩
theorem top_spec (i r : Nat) (h1 : 1 ≤ i) (h2 : i ≤ 30) :
    i - 1 ≤ top i r ∧ top i r ≤ 29 ∧ wz (top i r) i ≤ r ∧ (top i r = i - 1 ∨ wz (top i r) i ≤ r) ∧ (r < wz (top i r + 1) i ∨ top i r + 1 = 30) := by
  have h := sx_spec i r (30 - (i - 1)) (i - 1) (by omega) (by omega) (Nat.le_refl _) (.inl rfl)
  obtain ⟨a, b, c, d⟩ := h
  refine ⟨a, b, ?_, c, d⟩
  rcases c with c | c
  · show wz (sx i r (30 - (i - 1)) (i - 1)) i ≤ r
    rw [c]; unfold wz; rw [if_pos (by omega)]; omega
  · exact c
/-- The rank after d rounds. -/
def rk (k r : Nat) : Nat → Nat
  | 0 => r
  | d + 1 => rk k r d - wz (top (k - d) (rk k r d)) (k - d)
theorem top_first (k r n : Nat) (h1 : 1 ≤ k) (hkn : k ≤ n) (hn : n ≤ 30) (hr : r < wz 30 k) : top k r < n ↔ r < wz n k := by
  obtain ⟨a, b, _, c, d⟩ := top_spec k r h1 (by omega)
  constructor
  · intro h
    rcases d with d | d
    · exact Nat.lt_of_lt_of_le d (wz_le_of k (by omega) (by omega) hn)
    · rw [show n = 30 by omega]; exact hr
  · intro h
    rcases c with c | c
    · omega
    · by_cases hh : top k r < n
      · exact hh
      · have := wz_le_of k (by omega) (show n ≤ top k r by omega) (by omega)
        omega
theorem top_mono (i a b : Nat) (h1 : 1 ≤ i) (h2 : i ≤ 30) (h : a ≤ b) : top i a ≤ top i b := by
  obtain ⟨a1, a2, _, a3, a4⟩ := top_spec i a h1 h2
  obtain ⟨b1, b2, _, b3, b4⟩ := top_spec i b h1 h2
  by_cases hh : top i a ≤ top i b
  · exact hh
  · rcases a3 with a3 | a3
    · omega
    · rcases b4 with b4 | b4
      · have := wz_le_of i h2 (show top i b + 1 ≤ top i a by omega) (by omega)
        omega
      · omega
theorem top_one (a : Nat) (h : a < 30) : top 1 a = a := by
  obtain ⟨a1, a2, a3, _, a4⟩ := top_spec 1 a (by omega) (by omega)
  rw [wz_one_tab _ (by omega)] at a3
  rw [wz_one_tab _ (by omega)] at a4
  omega
theorem rk_step (i r : Nat) (h1 : 1 ≤ i) (h2 : i < 30) (hr : r < wz 30 (i + 1)) : r - wz (top (i + 1) r) (i + 1) < wz 30 i := by
  obtain ⟨a1, a2, a3, _, a4⟩ := top_spec (i + 1) r (by omega) (by omega)
  have hp := wz_pas_tab (top (i + 1) r) (by omega) i (by omega)
  have hm := wz_le_of i (by omega) (show top (i + 1) r ≤ 30 by omega) (by omega)
  rcases a4 with a4 | a4
  · omega
  · rw [a4] at hp; omega
theorem chain (k a b : Nat) (hk : k ≤ 30) (hab : a < b) (hb : b < wz 30 k) : ∀ d, d < k → (∀ e, e < d → top (k - e) (rk k a e) = top (k - e) (rk k b e)) → rk k a d < rk k b d ∧ rk k b d < wz 30 (k - d)
  | 0, _, _ => ⟨hab, hb⟩
  | d + 1, hd, h => by
    obtain ⟨h1, h2⟩ := chain k a b hk hab hb d (by omega) (fun e he => h e (by omega))
    have he := h d (by omega)
    have ta := top_spec (k - d) (rk k a d) (by omega) (by omega)
    have hs := rk_step (k - (d + 1)) (rk k b d) (by omega) (by omega) (by rw [show k - (d + 1) + 1 = k - d by omega]; exact h2)
    rw [show k - (d + 1) + 1 = k - d by omega] at hs
    simp only [rk]
    refine ⟨?_, hs⟩
    rw [← he]
    omega
/-- Of two rows, the one of the lesser rank is less where they part last. -/
theorem part_lt (k a b j : Nat) (hk : k ≤ 30) (hj : j < k) (hab : a < b) (hb : b < wz 30 k)
    (hs : ∀ p, j < p → p < k → top (p + 1) (rk k a (k - 1 - p)) = top (p + 1) (rk k b (k - 1 - p)))
    (hd : j = 0 ∨ top (j + 1) (rk k a (k - 1 - j)) ≠ top (j + 1) (rk k b (k - 1 - j))) : top (j + 1) (rk k a (k - 1 - j)) < top (j + 1) (rk k b (k - 1 - j)) := by
  obtain ⟨h1, h2⟩ := chain k a b hk hab hb (k - 1 - j) (by omega) (fun e he => by
    have := hs (k - 1 - e) (by omega) (by omega)
    rwa [show k - 1 - e + 1 = k - e by omega, show k - 1 - (k - 1 - e) = e by omega] at this)
  rw [show k - (k - 1 - j) = j + 1 by omega] at h2
  rcases hd with rfl | hd
  · rw [show wz 30 (0 + 1) = 30 by decide +kernel] at h2
    rw [show 0 + 1 = 1 from rfl, top_one _ (by omega), top_one _ (by omega)]
    exact h1
  · have := top_mono (j + 1) _ _ (by omega) (by omega) (Nat.le_of_lt h1)
    omega
theorem rk_le (k r : Nat) : ∀ d, rk k r d ≤ r
  | 0 => Nat.le_refl _
  | d + 1 => by have := rk_le k r d; simp only [rk]; omega
end Go.Proofs.Ytpdigiefldnpaaa.CombMath
