/- TopPond: what the law's rounds reckon, and each rank as often (a table by the kernel). -/
import Derived.Test.YtpdigiefldnpaaaPondMath
import Derived.Test.YtpdigiefldnpaaaDeal
import Derived.Test.YtpdigiefldnpaaaMapIN
import Derived.Test.YtpdigiefldnpaaaFact
import Derived.Test.YtpdigiefldnpaaaRank
import Derived.Test.YtpdigiefldnpaaaOrder
namespace Go.Proofs.Ytpdigiefldnpaaa
open CombMath
set_option maxRecDepth 20000
/-- What is left of i behind j digits; the digits. -/
def lfN (i : Nat) : Nat → Nat
  | 0 => i
  | j + 1 => lfN i j / (j + 1)
def dgN (i j : Nat) : Nat := lfN i j % (j + 1)
def tdr (n i : Nat) : List Int := tab (fun j => (dgN i j : Int)) n
def tdl (n i : Nat) : List Int := tab (dealF (idn n) (tdr n i) n) n
def so2 : List Int → List Int
  | [a, b] => if a ≤ b then [a, b] else [b, a]
  | l => l
theorem so2_sort (l : List Int) (h : l.length ≤ 2) : l.mergeSort (fun x y => decide (x ≤ y)) = so2 l := by
  match l, h with
  | [], _ => simp [so2]
  | [a], _ => simp [so2]
  | [a, b], _ =>
    show _ = if a ≤ b then [a, b] else [b, a]
    by_cases hab : a ≤ b
    · rw [if_pos hab]
      apply List.mergeSort_of_pairwise
      simp [hab]
    · rw [if_neg hab]
      have hp : List.Perm ([a, b].mergeSort (fun x y => decide (x ≤ y))) [b, a] := (List.mergeSort_perm _ _).trans (List.Perm.swap b a [])
      have hs := List.pairwise_mergeSort (le := fun (x y : Int) => decide (x ≤ y)) (fun x y z h1 h2 => by simp at h1 h2 ⊢; omega) (fun x y => by simp; omega) [a, b]
      exact List.Perm.eq_of_pairwise (le := fun (x y : Int) => decide (x ≤ y) = true) (fun x y _ _ h1 h2 => by simp at h1 h2; omega) hs (by simp; omega) hp
def tx1 (k n i : Nat) : List Int := so2 ((tdl n i).take k)
/-- The pond's things behind j draws. -/
def tpd (k n i : Nat) : Nat → List Int
  | 0 => []
  | j + 1 => pput k j (tpd k n i j) j (gi (tdr n i) j)
def tx2 (k n i : Nat) : List Int := so2 (tpd k n i n)
def rkT (k : Nat) (xs : List Int) : Int := (rs (cN xs) k : Nat)
/-- The ranks behind t rounds. -/
def tsq (k n : Nat) : Nat → List Int
  | 0 => []
  | t + 1 => tsq k n t ++ [rkT k (tx1 k n t)] ++ [rkT k (tx2 k n t)]
def keysOf (L : List Int) : List Int := L.foldl addN []
def cntOf (L : List Int) (x : Int) : Int := (L.countP (fun y => decide (y = x)) : Nat)
theorem keysOf_step (L : List Int) (y : Int) : addN (keysOf L) y = keysOf (L ++ [y]) := by
  unfold keysOf; rw [List.foldl_append]; rfl
theorem cntOf_step (L : List Int) (y z : Int) : (if z = y then cntOf L y + 1 else cntOf L z) = cntOf (L ++ [y]) z := by
  unfold cntOf
  rw [List.countP_append]
  by_cases e : z = y
  · rw [if_pos e, e]; simp
  · rw [if_neg e]
    have : ¬ y = z := fun h => e h.symm
    simp [this]
theorem cntOf_bd (L : List Int) (x : Int) : 0 ≤ cntOf L x ∧ cntOf L x ≤ L.length := by
  unfold cntOf
  have : L.countP (fun y => decide (y = x)) ≤ L.length := List.countP_le_length
  omega
theorem tsq_len (k n : Nat) : ∀ t, (tsq k n t).length = 2 * t
  | 0 => rfl
  | t + 1 => by simp only [tsq, List.length_append, tsq_len k n t, List.length_singleton]; omega
def rowB (xs : List Int) (k : Nat) : Bool := xs.length == k && (List.range k).all (fun i => decide (0 ≤ gi xs i ∧ gi xs i < 30 ∧ (0 < i → gi xs (i - 1) < gi xs i)))
def inB (xs : List Int) : Bool := xs.all (fun x => decide (0 ≤ x ∧ x < 30))
theorem inB_ok {xs : List Int} (h : inB xs = true) : ∀ x ∈ xs, 0 ≤ x ∧ x < 30 := fun x hx => by
  unfold inB at h
  simp only [List.all_eq_true, decide_eq_true_eq] at h
  exact h x hx
def tpOk (k n : Nat) : Bool :=
  let L := tsq k n (fct n)
  let S := keysOf L
  (S.length == wl n k) && S.all (fun x => decide (cntOf L x * (wl n k : Int) = 2 * (fct n : Int) ∧ 0 ≤ x ∧ x < (wl n k : Int))) &&
  (List.range (fct n)).all (fun i => rowB (tx1 k n i) k && rowB (tx2 k n i) k && inB (tdl n i) && (List.range (n + 1)).all (fun j => decide ((tpd k n i j).length = min k j) && inB (tpd k n i j)))
theorem tp_tab : ∀ k, k < 3 → ∀ n, n < 5 → 1 ≤ k → k ≤ n → tpOk k n = true := by decide +kernel
theorem rowB_ok {xs : List Int} {k : Nat} (hk : k ≤ 2) (h : rowB xs k = true) : xs.length = k ∧ CombOk xs k := by
  unfold rowB at h
  simp only [Bool.and_eq_true, beq_iff_eq, List.all_eq_true, List.mem_range, decide_eq_true_eq] at h
  exact ⟨h.1, by omega, fun i hi => h.2 i hi⟩
theorem tp_all (k n : Nat) (k1 : 1 ≤ k) (k2 : k ≤ 2) (hn : k ≤ n) (h4 : n ≤ 4) :
    (keysOf (tsq k n (fct n))).length = wl n k ∧ (∀ x ∈ keysOf (tsq k n (fct n)), cntOf (tsq k n (fct n)) x * (wl n k : Int) = 2 * (fct n : Int) ∧ 0 ≤ x ∧ x < (wl n k : Int)) ∧
    ∀ i, i < fct n → ((tx1 k n i).length = k ∧ CombOk (tx1 k n i) k) ∧ ((tx2 k n i).length = k ∧ CombOk (tx2 k n i) k) ∧ (∀ x ∈ tdl n i, 0 ≤ x ∧ x < 30) ∧ ∀ j, j < n + 1 → (tpd k n i j).length = min k j ∧ ∀ x ∈ tpd k n i j, 0 ≤ x ∧ x < 30 := by
  have h := tp_tab k (by omega) n (by omega) k1 hn
  unfold tpOk at h
  simp only [Bool.and_eq_true, beq_iff_eq, List.all_eq_true, List.mem_range, decide_eq_true_eq] at h
  refine ⟨h.1.1, fun x hx => h.1.2 x hx, fun i hi => ?_⟩
  obtain ⟨⟨⟨h1, h2⟩, h3⟩, h4⟩ := h.2 i hi
  exact ⟨rowB_ok k2 h1, rowB_ok k2 h2, inB_ok h3, fun j hj => ⟨(h4 j hj).1, inB_ok (h4 j hj).2⟩⟩
theorem lfN_le (i : Nat) : ∀ j, lfN i j ≤ i
  | 0 => Nat.le_refl _
  | j + 1 => Nat.le_trans (Nat.div_le_self _ _) (lfN_le i j)
theorem dgN_le (i j : Nat) : dgN i j ≤ j := by
  have := Nat.mod_lt (lfN i j) (show 0 < j + 1 by omega)
  unfold dgN; omega
theorem tdr_len (n i : Nat) : (tdr n i).length = n := tab_len _ _
end Go.Proofs.Ytpdigiefldnpaaa
