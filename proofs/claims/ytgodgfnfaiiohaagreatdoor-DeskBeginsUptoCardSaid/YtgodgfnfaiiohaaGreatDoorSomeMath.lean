/- The search of comb.Some (plain Lean, no program in sight) and its laws. -/
import Derived.Test.YtgodgfnfaiiohaaGreatDoorCombMath
namespace Go.Proofs.YtgodgfnfaiiohaaGreatDoor.CombMath

/-- Where the search stops: with f steps left, at x. -/
def sx (i r : Nat) : Nat → Nat → Nat
  | 0, x => x
  | f + 1, x => if wz (x + 1) i ≤ r ∧ x + 1 < 30 then sx i r f (x + 1) else x
def top (i r : Nat) : Nat := sx i r (30 - (i - 1)) (i - 1)
theorem sx_go (i r x : Nat) (h : wz (x + 1) i ≤ r) (h' : x + 1 < 30) : sx i r (30 - x) x = sx i r (30 - (x + 1)) (x + 1) := by
  rw [show 30 - x = (30 - (x + 1)) + 1 by omega, sx, if_pos ⟨h, h'⟩]
theorem sx_stop (i r x : Nat) (h : ¬ (wz (x + 1) i ≤ r ∧ x + 1 < 30)) (hx : x < 30) : sx i r (30 - x) x = x := by
  rw [show 30 - x = (29 - x) + 1 by omega, sx, if_neg h]
theorem sx_spec (i r : Nat) : ∀ f x, x + f = 30 → 1 ≤ f → i - 1 ≤ x → (x = i - 1 ∨ wz x i ≤ r) →
    i - 1 ≤ sx i r f x ∧ sx i r f x ≤ 29 ∧ (sx i r f x = i - 1 ∨ wz (sx i r f x) i ≤ r) ∧ (r < wz (sx i r f x + 1) i ∨ sx i r f x + 1 = 30)
  | 0, _, _, h, _, _ => by omega
  | f + 1, x, h0, _, h2, h3 => by
    rw [sx]
    split
    · rename_i hc
      rcases Nat.eq_zero_or_pos f with hf | hf
      · omega
      · exact sx_spec i r f (x + 1) (by omega) hf (by omega) (.inr hc.1)
    · rename_i hc
      exact ⟨h2, by omega, h3, by omega⟩
theorem top_spec (i r : Nat) (h1 : 1 ≤ i) (h2 : i ≤ 30) :
    i - 1 ≤ top i r ∧ top i r ≤ 29 ∧ wz (top i r) i ≤ r ∧ (top i r = i - 1 ∨ wz (top i r) i ≤ r) ∧ (r < wz (top i r + 1) i ∨ top i r + 1 = 30) := by
  have h := sx_spec i r (30 - (i - 1)) (i - 1) (by omega) (by omega) (Nat.le_refl _) (.inl rfl)
  obtain ⟨a, b, c, d⟩ := h
  refine ⟨a, b, ?_, c, d⟩
  rcases c with c | c
  · show wz (sx i r (30 - (i - 1)) (i - 1)) i ≤ r
    rw [c]; unfold wz; rw [if_pos (by omega)]; omega
  · exact c
/-- The rank after d rounds. -/
def rk (k r : Nat) : Nat → Nat
  | 0 => r
  | d + 1 => rk k r d - wz (top (k - d) (rk k r d)) (k - d)
theorem rk_le (k r : Nat) : ∀ d, rk k r d ≤ r
  | 0 => Nat.le_refl _
  | d + 1 => by have := rk_le k r d; simp only [rk]; omega
end Go.Proofs.YtgodgfnfaiiohaaGreatDoor.CombMath
