/- Contract of slices.ContainsFunc at integers, whatever the predicate. -/
import Derived.Test.YtffocoflmbhknaaMem
import Derived.Deep.LoopGhost
import Derived.Shelf.Abstract
namespace Go.Proofs.Ytffocoflmbhknaa
open Go.ChangeShapes Go.WideShapes Go.ChangeAt Go.RowKit
set_option maxRecDepth 20000

/-- Where the search stops: the first of n that p is true of, -1 if there is none. -/
def idxF (p : Int → Bool) (xs : List Int) (n : Nat) : Nat → Nat → Int
  | 0, _ => -1
  | f + 1, k => if k < n then (if p (gi xs k) = true then (k : Int) else idxF p xs n f (k + 1)) else -1
theorem idxF_end (p : Int → Bool) (xs : List Int) (n : Nat) (f : Nat) : idxF p xs n f n = -1 := by
  cases f with
  | zero => rfl
  | succ f => rw [idxF, if_neg (by omega)]
theorem idxF_any (p : Int → Bool) (xs : List Int) (n : Nat) : ∀ f k, k + f = n → (0 ≤ idxF p xs n f k ↔ ∃ i, k ≤ i ∧ i < n ∧ p (gi xs i) = true)
  | 0, k, h => by
    rw [idxF]
    constructor
    · intro h; omega
    · rintro ⟨i, h1, h2, _⟩; omega
  | f + 1, k, h => by
    rw [idxF, if_pos (by omega)]
    by_cases hp : p (gi xs k) = true
    · rw [if_pos hp]
      exact ⟨fun _ => ⟨k, by omega, by omega, hp⟩, fun _ => by omega⟩
    · rw [if_neg hp, idxF_any p xs n f (k + 1) (by omega)]
      constructor
      · rintro ⟨i, h1, h2, h3⟩; exact ⟨i, by omega, h2, h3⟩
      · rintro ⟨i, h1, h2, h3⟩
        refine ⟨i, ?_, h2, h3⟩
        by_cases e : i = k
        · subst e; exact absurd h3 hp
        · omega
def hasF (p : Int → Bool) (xs : List Int) (n : Nat) : Bool := decide (0 ≤ idxF p xs n n 0)
theorem hasF_true (p : Int → Bool) (xs : List Int) (n : Nat) (h : ∃ i, i < n ∧ p (gi xs i) = true) : hasF p xs n = true := by
  obtain ⟨i, h1, h2⟩ := h
  exact decide_eq_true ((idxF_any p xs n n 0 (by omega)).2 ⟨i, by omega, h1, h2⟩)
theorem hasF_false (p : Int → Bool) (xs : List Int) (n : Nat) (h : ∀ i, i < n → p (gi xs i) = false) : hasF p xs n = false :=
  decide_eq_false (fun e => by
    obtain ⟨i, _, h1, h2⟩ := (idxF_any p xs n n 0 (by omega)).1 e
    rw [h i h1] at h2; cases h2)

end Go.Proofs.Ytffocoflmbhknaa
