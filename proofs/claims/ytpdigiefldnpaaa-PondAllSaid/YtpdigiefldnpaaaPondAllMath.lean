/- All draws of a pond: each row of things as often (a table by the kernel), and how often each came so far. -/
import Derived.Test.YtpdigiefldnpaaaPondMath
import Derived.Test.YtpdigiefldnpaaaEach
import Derived.Test.YtpdigiefldnpaaaMapIN
import Derived.Test.YtpdigiefldnpaaaFact
import Derived.Test.YtpdigiefldnpaaaCombMath
namespace Go.Proofs.Ytpdigiefldnpaaa
open OdoMath CombMath
set_option maxRecDepth 20000
def bsP (k n : Nat) : List Int := tab (fun i => if i < k then 1 else (i : Int) + 1) n
def mask (xs : List Int) : Nat := xs.foldl (fun s x => s ||| (1 <<< x.toNat)) 0
/-- What way t leaves in the pond, as a set of bits. -/
def pset (k n t : Nat) : Nat := mask (its k (way (bsP k n) n t) n)
def psets (k n t : Nat) : List Int := tab (fun s => (pset k n s : Int)) t
def pkeys (k n t : Nat) : List Int := (psets k n t).foldl addN []
def pcnt (k n t : Nat) (x : Int) : Int := ((psets k n t).countP (fun y => decide (y = x)) : Nat)
theorem pkeys_step (k n t : Nat) : addN (pkeys k n t) (pset k n t : Int) = pkeys k n (t + 1) := by
  unfold pkeys psets
  rw [tab_snoc, List.foldl_append]; rfl
theorem pcnt_step (k n t : Nat) (z : Int) : (if z = (pset k n t : Int) then pcnt k n t (pset k n t : Int) + 1 else pcnt k n t z) = pcnt k n (t + 1) z := by
  unfold pcnt psets
  rw [tab_snoc, List.countP_append]
  by_cases e : z = (pset k n t : Int)
  · rw [if_pos e, e]; simp
  · rw [if_neg e]
    have : ¬ (pset k n t : Int) = z := fun h => e h.symm
    simp [this]
theorem pcnt_bd (k n t : Nat) (x : Int) : 0 ≤ pcnt k n t x ∧ pcnt k n t x ≤ t := by
  unfold pcnt
  have : (psets k n t).countP (fun y => decide (y = x)) ≤ (psets k n t).length := List.countP_le_length
  rw [psets, tab_len] at this
  unfold psets
  omega
def tabOk (k n ways : Nat) : Bool :=
  let L := psets k n (prd (bn (bsP k n)) n)
  let S := L.foldl addN []
  (S.length == ways) && S.all (fun x => L.countP (fun y => decide (y = x)) == fct (n - k))
theorem tab_all : ∀ k, k < 4 → ∀ n, n < 7 → 1 ≤ k → k ≤ n → tabOk k n (wl n k) = true := by decide +kernel
theorem prd_all : ∀ k, k < 4 → ∀ n, n < 7 → prd (bn (bsP k n)) n ≤ 720 := by decide +kernel
theorem pond_all (k n : Nat) (k1 : 1 ≤ k) (k2 : k ≤ 3) (hn : k ≤ n) (h6 : n ≤ 6) : (pkeys k n (prd (bn (bsP k n)) n)).length = wl n k ∧ ∀ x ∈ pkeys k n (prd (bn (bsP k n)) n), pcnt k n (prd (bn (bsP k n)) n) x = fct (n - k) := by
  have h := tab_all k (by omega) n (by omega) k1 hn
  unfold tabOk at h
  simp only [Bool.and_eq_true, beq_iff_eq, List.all_eq_true] at h
  refine ⟨h.1, fun x hx => ?_⟩
  have := h.2 x hx
  unfold pcnt
  rw [this]
theorem bsP_at (k n j : Nat) (h : j < n) : gi (bsP k n) j = if j < k then 1 else (j : Int) + 1 := tab_gi _ _ _ h
theorem wayP_bd (k n t j : Nat) (h : j < n) : 0 ≤ gi (way (bsP k n) n t) j ∧ gi (way (bsP k n) n t) j ≤ j := by
  have e : gi (way (bsP k n) n t) j = (dgt (bn (bsP k n)) t j : Int) := tab_gi _ _ _ h
  rw [e]
  have b : bn (bsP k n) j ≤ j + 1 ∧ 1 ≤ bn (bsP k n) j := by
    unfold bn
    rw [bsP_at k n j h]
    split <;> omega
  have := dgt_lt (bn (bsP k n)) t j b.2
  omega
theorem dsf_at (zs : List Int) (j : Nat) (h : j < zs.length) (h1 : 0 ≤ gi zs j ∧ gi zs j ≤ j) (hj : j < 1000) : dsf zs j = gi zs j := by
  unfold dsf
  rw [if_pos h]
  unfold wi
  rw [Int.emod_eq_of_lt h1.1 (by omega), Int.emod_eq_of_lt h1.1 (by omega)]
theorem mask_snoc (xs : List Int) (x : Int) : mask (xs ++ [x]) = mask xs ||| (1 <<< x.toNat) := by unfold mask; rw [List.foldl_append]; rfl
theorem or64 : ∀ s, s < 64 → ∀ x, x < 6 → s ||| (1 <<< x) < 64 := by decide +kernel
theorem mask_lt : ∀ xs : List Int, (∀ x ∈ xs, 0 ≤ x ∧ x < 6) → mask xs < 64 := by
  intro xs
  have : ∀ (xs : List Int) (s : Nat), s < 64 → (∀ x ∈ xs, 0 ≤ x ∧ x < 6) → xs.foldl (fun s x => s ||| (1 <<< x.toNat)) s < 64 := by
    intro xs
    induction xs with
    | nil => intro s hs _; exact hs
    | cons x l ih =>
      intro s hs h
      exact ih _ (or64 s hs x.toNat (by have := h x (by simp); omega)) (fun y hy => h y (by simp [hy]))
  exact this xs 0 (by omega)
end Go.Proofs.Ytpdigiefldnpaaa
