/- What a pond holds (plain Lean over lists), and the maps of what came. -/
import Derived.Test.YtpdigiefldnpaaaPond
namespace Go.Proofs.Ytpdigiefldnpaaa
open Go.ChangeShapes Go.WideShapes Go.ChangeAt Go.RowKit
set_option maxRecDepth 20000

theorem gi_append (xs : List Int) (x : Int) (k : Nat) (h : k < xs.length + 1) : gi (xs ++ [x]) k = if k < xs.length then gi xs k else x := by
  unfold gi
  rw [List.getD_eq_getElem?_getD, List.getD_eq_getElem?_getD]
  by_cases hk : k < xs.length
  · rw [if_pos hk, List.getElem?_append_left hk]
  · rw [if_neg hk, List.getElem?_append_right (by omega), show k - xs.length = 0 by omega]; rfl
theorem gi_set (xs : List Int) (d : Nat) (x : Int) (k : Nat) (h : k < xs.length) : gi (xs.set d x) k = if k = d then x else gi xs k := by
  unfold gi
  rw [List.getD_eq_getElem?_getD, List.getD_eq_getElem?_getD, List.getElem?_set]
  by_cases hk : d = k
  · subst hk; simp [h]
  · rw [if_neg hk, if_neg (fun e => hk e.symm)]
/-- The draw of a round. -/
def dsf (zs : List Int) (i : Nat) : Int := if i < zs.length then wi (gi zs i) ((i : Int) + 1) else 0
theorem dsf_bd (zs : List Int) (i : Nat) : 0 ≤ dsf zs i ∧ dsf zs i ≤ i := by
  unfold dsf
  have := wi_lo (gi zs i) ((i : Int) + 1) (by omega)
  have := wi_hi (gi zs i) ((i : Int) + 1) (by omega)
  split <;> omega
/-- What the pond holds behind i rounds. -/
def its (K : Nat) (zs : List Int) : Nat → List Int
  | 0 => []
  | i + 1 => pput K i (its K zs i) i (dsf zs i)
structure Kept (K i : Nat) (xs : List Int) : Prop where
  len : xs.length = min K i
  bd : ∀ k, k < xs.length → 0 ≤ gi xs k ∧ gi xs k < i
  inj : ∀ a b, a < xs.length → b < xs.length → gi xs a = gi xs b → a = b
/-- Behind a thing that came: each that is held is the new one, or was held. -/
theorem kept_step {K i : Nat} {xs : List Int} (h : Kept K i xs) (d : Int) :
    Kept K (i + 1) (pput K i xs i d) ∧ ∀ k, k < (pput K i xs i d).length → gi (pput K i xs i d) k = i ∨ ∃ j, j < xs.length ∧ gi (pput K i xs i d) k = gi xs j := by
  have hl := h.len
  unfold pput
  by_cases hc : (i : Int) < (K : Int)
  · rw [if_pos hc]
    have hg := gi_append xs i
    have hlen : (xs ++ [(i : Int)]).length = xs.length + 1 := by simp
    refine ⟨⟨by rw [hlen]; omega, fun k hk => ?_, fun a b ha hb e => ?_⟩, fun k hk => ?_⟩
    · rw [hlen] at hk
      rw [hg k hk]
      by_cases hkl : k < xs.length
      · rw [if_pos hkl]; have := h.bd k hkl; omega
      · rw [if_neg hkl]; omega
    · rw [hlen] at ha hb
      rw [hg a ha, hg b hb] at e
      by_cases h1 : a < xs.length <;> by_cases h2 : b < xs.length
      · rw [if_pos h1, if_pos h2] at e; exact h.inj a b h1 h2 e
      · rw [if_pos h1, if_neg h2] at e; have := h.bd a h1; omega
      · rw [if_neg h1, if_pos h2] at e; have := h.bd b h2; omega
      · omega
    · rw [hlen] at hk
      rw [hg k hk]
      by_cases hkl : k < xs.length
      · rw [if_pos hkl]; exact .inr ⟨k, hkl, rfl⟩
      · rw [if_neg hkl]; exact .inl rfl
  · rw [if_neg hc]
    by_cases hd : d < (K : Int)
    · rw [if_pos hd]
      have hg := gi_set xs d.toNat i
      have hlen : (xs.set d.toNat (i : Int)).length = xs.length := by simp
      refine ⟨⟨by rw [hlen]; omega, fun k hk => ?_, fun a b ha hb e => ?_⟩, fun k hk => ?_⟩
      · rw [hlen] at hk
        rw [hg k hk]
        have := h.bd k hk
        split <;> omega
      · rw [hlen] at ha hb
        rw [hg a ha, hg b hb] at e
        have ba := h.bd a ha
        have bb := h.bd b hb
        by_cases h1 : a = d.toNat <;> by_cases h2 : b = d.toNat
        · omega
        · rw [if_pos h1, if_neg h2] at e; omega
        · rw [if_neg h1, if_pos h2] at e; omega
        · rw [if_neg h1, if_neg h2] at e; exact h.inj a b ha hb e
      · rw [hlen] at hk
        rw [hg k hk]
        by_cases h1 : k = d.toNat
        · rw [if_pos h1]; exact .inl rfl
        · rw [if_neg h1]; exact .inr ⟨k, hk, rfl⟩
    · rw [if_neg hd]
      exact ⟨⟨by omega, fun k hk => by have := h.bd k hk; omega, h.inj⟩, fun k hk => .inr ⟨k, hk, rfl⟩⟩
theorem its_kept (K : Nat) (zs : List Int) : ∀ i, Kept K i (its K zs i)
  | 0 => ⟨by simp [its], fun k hk => by simp [its] at hk, fun a b ha hb => by simp [its] at ha⟩
  | i + 1 => (kept_step (its_kept K zs i) _).1
/-- What was: the new one, and the first k of a list. -/
def wasF (i : Int) (xs : List Int) : Nat → Int → Bool
  | 0 => fun z => if z = i then true else false
  | k + 1 => fun z => if z = gi xs k then true else wasF i xs k z
theorem wasF_true (i : Int) (xs : List Int) (z : Int) : ∀ k, (z = i ∨ ∃ j, j < k ∧ z = gi xs j) → wasF i xs k z = true
  | 0, h => by
    rcases h with h | ⟨j, h, _⟩
    · simp [wasF, h]
    · omega
  | k + 1, h => by
    simp only [wasF]
    by_cases e : z = gi xs k
    · rw [if_pos e]
    · rw [if_neg e]
      refine wasF_true i xs z k (h.imp_right ?_)
      rintro ⟨j, h1, h2⟩
      refine ⟨j, ?_, h2⟩
      by_cases ej : j = k
      · subst ej; exact absurd h2 e
      · omega
/-- Less the first k of a list. -/
def delF (S : Int → Bool) (ys : List Int) : Nat → Int → Bool
  | 0 => S
  | k + 1 => fun z => if z = gi ys k then false else delF S ys k z
theorem delF_true (S : Int → Bool) (ys : List Int) (z : Int) (h : S z = true) : ∀ k, (∀ j, j < k → z ≠ gi ys j) → delF S ys k z = true
  | 0, _ => h
  | k + 1, h2 => by
    simp only [delF]
    rw [if_neg (h2 k (by omega))]
    exact delF_true S ys z h k (fun j hj => h2 j (by omega))
theorem told_all (K : Nat) (zs : List Int) (i j : Nat) (hj : j < (its K zs (i + 1)).length) :
    delF (wasF i (its K zs i) (its K zs i).length) (its K zs (i + 1)) j (gi (its K zs (i + 1)) j) = true := by
  have ks := kept_step (its_kept K zs i) (dsf zs i)
  refine delF_true _ _ _ (wasF_true _ _ _ _ (ks.2 j hj)) j (fun j' hj' e => ?_)
  have := (its_kept K zs (i + 1)).inj j j' hj (by omega) e
  omega
end Go.Proofs.Ytpdigiefldnpaaa
