/- Orders of a row, and their ranks (plain Lean). -/
import Derived.Test.YtfhmckmglkjbeaaMgOrder
namespace Go.Proofs.Ytfhmckmglkjbeaa

/-- May it be an order of so many? -/
def PermOk (xs : List Int) (n : Nat) : Prop := n ≤ 12 ∧ ∀ i, i < n → 0 ≤ gi xs i ∧ gi xs i < n ∧ ∀ j, j < i → gi xs j ≠ gi xs i
/-- Did v come among the first k? -/
def seenF (xs : List Int) : Nat → Nat → Bool
  | 0, _ => false
  | k + 1, v => seenF xs k v || decide (gi xs k = (v : Int))
theorem seenF_iff (xs : List Int) (v : Nat) : ∀ k, seenF xs k v = true ↔ ∃ j, j < k ∧ gi xs j = (v : Int)
  | 0 => by simp [seenF]
  | k + 1 => by
    simp only [seenF, Bool.or_eq_true, decide_eq_true_eq]
    rw [seenF_iff xs v k]
    constructor
    · rintro (⟨j, h1, h2⟩ | h)
      · exact ⟨j, by omega, h2⟩
      · exact ⟨k, by omega, h⟩
    · rintro ⟨j, h1, h2⟩
      by_cases e : j = k
      · subst e; exact .inr h2
      · exact .inl ⟨j, by omega, h2⟩
/-- How many of the m behind place k are less. -/
def lessM (xs : List Int) (k : Nat) : Nat → Nat
  | 0 => 0
  | m + 1 => lessM xs k m + if gi xs (k + 1 + m) < gi xs k then 1 else 0
theorem lessM_le (xs : List Int) (k : Nat) : ∀ m, lessM xs k m ≤ m
  | 0 => Nat.le_refl _
  | m + 1 => by have := lessM_le xs k m; simp only [lessM]; split <;> omega
/-- The rank that the first k tell. -/
def rkD (xs : List Int) (n : Nat) : Nat → Nat
  | 0 => 0
  | k + 1 => rkD xs n k * (n - k) + lessM xs k (n - 1 - k)
theorem rkD_bd (xs : List Int) (n : Nat) (hn : n ≤ 12) : ∀ k, k ≤ n → rkD xs n k + 1 ≤ 13 ^ k
  | 0, _ => by simp [rkD]
  | k + 1, hk => by
    have a := rkD_bd xs n hn k (by omega)
    have b := lessM_le xs k (n - 1 - k)
    have c : rkD xs n k * (n - k) ≤ rkD xs n k * 12 := Nat.mul_le_mul_left _ (by omega)
    simp only [rkD]
    rw [Nat.pow_succ]
    omega
theorem rkD_le (xs : List Int) (n : Nat) (hn : n ≤ 12) (k : Nat) (hk : k ≤ n) : rkD xs n k ≤ 100000000000000 := by
  have a := rkD_bd xs n hn k hk
  have b : 13 ^ k ≤ 13 ^ 12 := Nat.pow_le_pow_right (by omega) (by omega)
  have c : (13 : Nat) ^ 12 = 23298085122481 := by decide
  omega
/-- Each number as far from the greatest as it was from 0. -/
def turn (xs : List Int) (n : Nat) : List Int := tab (fun i => (n : Int) - 1 - gi xs i) n
theorem turn_ok (xs : List Int) (n : Nat) (h : PermOk xs n) : PermOk (turn xs n) n := ⟨h.1, fun i hi => by
  have a := h.2 i hi
  unfold turn
  rw [tab_gi _ _ _ hi]
  refine ⟨by omega, by omega, fun j hj => ?_⟩
  rw [tab_gi _ _ _ (by omega)]
  have := a.2.2 j hj
  omega⟩
theorem less_turn (xs : List Int) (n k : Nat) (h : PermOk xs n) : ∀ m, k + 1 + m ≤ n → lessM xs k m + lessM (turn xs n) k m = m
  | 0, _ => rfl
  | m + 1, hm => by
    have ih := less_turn xs n k h m (by omega)
    have hne := (h.2 (k + 1 + m) (by omega)).2.2 k (by omega)
    simp only [lessM]
    rw [show gi (turn xs n) (k + 1 + m) = (n : Int) - 1 - gi xs (k + 1 + m) from tab_gi _ _ _ (by omega), show gi (turn xs n) k = (n : Int) - 1 - gi xs k from tab_gi _ _ _ (by omega)]
    by_cases hl : gi xs (k + 1 + m) < gi xs k
    · rw [if_pos hl, if_neg (by omega)]; omega
    · rw [if_neg hl, if_pos (by omega)]; omega
/-- How many ways the first k have. -/
def prK (n : Nat) : Nat → Nat
  | 0 => 1
  | k + 1 => prK n k * (n - k)
theorem rk_turn (xs : List Int) (n : Nat) (h : PermOk xs n) : ∀ k, k ≤ n → rkD xs n k + rkD (turn xs n) n k + 1 = prK n k
  | 0, _ => rfl
  | k + 1, hk => by
    have ih := rk_turn xs n h k (by omega)
    have hl := less_turn xs n k h (n - 1 - k) (by omega)
    simp only [rkD, prK]
    rw [← ih, Nat.add_mul, Nat.add_mul]
    omega
theorem prK_fct (n : Nat) : ∀ d, d ≤ n → prK n (n - d) * fct d = fct n
  | 0, _ => by
    have : ∀ k, k ≤ n → prK n k * fct (n - k) = fct n := by
      intro k
      induction k with
      | zero => intro _; simp [prK]
      | succ k ih =>
        intro hk
        have a := ih (by omega)
        obtain ⟨m, hm⟩ : ∃ m, n - k = m + 1 := ⟨n - k - 1, by omega⟩
        rw [← a, hm]
        simp only [prK, fct]
        rw [show n - (k + 1) = m by omega, hm, Nat.mul_assoc]
    have := this n (Nat.le_refl _)
    rw [Nat.sub_self] at this
    exact this
  | d + 1, hd => by
    have ih := prK_fct n d (by omega)
    obtain ⟨m, hm⟩ : ∃ m, n - d = m + 1 := ⟨n - d - 1, by omega⟩
    rw [hm] at ih
    simp only [prK] at ih
    rw [show n - (d + 1) = m by omega, fct, ← ih, show n - m = d + 1 by omega, Nat.mul_assoc]
theorem prK_all (n : Nat) : prK n n = fct n := by
  have := prK_fct n 0 (by omega)
  simpa [fct] using this
/-- The plain law. -/
theorem turned (xs : List Int) (n : Nat) (h : PermOk xs n) : rkD xs n n + rkD (turn xs n) n n + 1 = fct n := by
  rw [rk_turn xs n h n (Nat.le_refl _), prK_all]
theorem cons_erase_perm : ∀ (l : List Int) (i : Nat) (h : i < l.length), (l[i] :: l.eraseIdx i).Perm l
  | [], i, h => by simp at h
  | a :: l, 0, _ => List.Perm.refl _
  | a :: l, i + 1, h => (List.Perm.swap a _ _).trans (List.Perm.cons a (cons_erase_perm l i (by simpa using h)))
/-- An order is an order of what is left. -/
theorem ordL_perm : ∀ i r left, left.length = i → r < fct i → (ordL i r left).Perm left
  | 0, _, left, hl, _ => by
    have : left = [] := List.eq_nil_of_length_eq_zero hl
    subst this; exact List.Perm.refl _
  | i + 1, r, left, hl, hr => by
    have hq := quo_lt i r hr
    have ih := ordL_perm i (r % fct i) (left.eraseIdx (r / fct i)) (by rw [List.length_eraseIdx, if_pos (by omega)]; omega) (rem_lt i r)
    have e : gi left (r / fct i) = left[r / fct i]'(by omega) := by
      unfold gi; rw [List.getD_eq_getElem?_getD, List.getElem?_eq_getElem (by omega)]; rfl
    simp only [ordL]
    rw [e]
    exact (List.Perm.cons _ ih).trans (cons_erase_perm left _ (by omega))
theorem idn_nodup (n : Nat) : (idn n).Nodup := by
  unfold idn tab
  rw [List.nodup_iff_pairwise_ne, List.pairwise_map]
  exact (List.nodup_iff_pairwise_ne.1 List.nodup_range).imp (fun h => by omega)
theorem ord_ok (n r : Nat) (hn : n ≤ 12) (hr : r < fct n) : PermOk (ordL n r (idn n)) n := by
  have hp := ordL_perm n r (idn n) (by unfold idn; exact tab_len _ _) hr
  have hl := ordL_len n r (idn n)
  have hnd := hp.nodup_iff.2 (idn_nodup n)
  refine ⟨hn, fun i hi => ?_⟩
  have hm := hp.mem_iff.1 (gi_mem (ordL n r (idn n)) i (by omega))
  obtain ⟨v, hv, he⟩ := tab_mem (fun i => (i : Int)) n _ hm
  refine ⟨by omega, by omega, fun j hj e => ?_⟩
  have h1 := gi_get (ordL n r (idn n)) i (by omega)
  have h2 := gi_get (ordL n r (idn n)) j (by omega)
  rw [e] at h2
  have h3 := List.pairwise_iff_getElem.1 (List.nodup_iff_pairwise_ne.1 hnd) j i (by omega) (by omega) hj
  rw [List.getElem?_eq_getElem (by omega)] at h1 h2
  exact h3 ((Option.some.inj h2).trans (Option.some.inj h1).symm)
end Go.Proofs.Ytfhmckmglkjbeaa
