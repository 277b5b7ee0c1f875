/- Odometers: the ways to draw, counted off (plain Lean, no program in sight). -/
namespace Go.Proofs.Ytpdigiefldnpaaa.OdoMath

/-- What is left of t behind j wheels. -/
def qv (b : Nat → Nat) (t : Nat) : Nat → Nat
  | 0 => t
  | j + 1 => qv b t j / b j
/-- The j-th wheel. -/
def dgt (b : Nat → Nat) (t j : Nat) : Nat := qv b t j % b j
/-- How many ways the first j wheels have. -/
def prd (b : Nat → Nat) : Nat → Nat
  | 0 => 1
  | j + 1 => prd b j * b j
theorem qv_div (b : Nat → Nat) (t : Nat) : ∀ j, qv b t j = t / prd b j
  | 0 => (Nat.div_one t).symm
  | j + 1 => by simp only [qv, prd]; rw [qv_div b t j, Nat.div_div_eq_div_mul]
theorem prd_pos (b : Nat → Nat) : ∀ n, (∀ j, j < n → 1 ≤ b j) → 0 < prd b n
  | 0, _ => Nat.one_pos
  | n + 1, h => by simp only [prd]; exact Nat.mul_pos (prd_pos b n (fun j hj => h j (by omega))) (h n (by omega))
theorem qv_zero (b : Nat → Nat) (t n : Nat) (h : ∀ j, j < n → 1 ≤ b j) : qv b t n = 0 ↔ t < prd b n := by
  rw [qv_div]
  exact Nat.div_eq_zero_iff_lt (prd_pos b n h)
theorem dgt_lt (b : Nat → Nat) (t j : Nat) (h : 1 ≤ b j) : dgt b t j < b j := Nat.mod_lt _ h
theorem dgt_zero (b : Nat → Nat) (j : Nat) : dgt b 0 j = 0 := by
  unfold dgt; rw [qv_div]; simp
/-- A wheel at its end carries. -/
theorem carry (q b : Nat) (h : 1 ≤ b) (e : q % b = b - 1) : (q + 1) / b = q / b + 1 ∧ (q + 1) % b = 0 := by
  have h1 := Nat.div_add_mod q b
  have h2 : q + 1 = (q / b + 1) * b := by
    rw [Nat.add_mul, Nat.mul_comm]; omega
  rw [h2]
  exact ⟨Nat.mul_div_cancel _ h, Nat.mul_mod_left _ _⟩
theorem nocarry (q b : Nat) (h : 1 ≤ b) (e : q % b ≠ b - 1) : (q + 1) / b = q / b ∧ (q + 1) % b = q % b + 1 := by
  have h1 := Nat.div_add_mod q b
  have h3 := Nat.mod_lt q h
  have h2 : q + 1 = (q % b + 1) + b * (q / b) := by omega
  rw [h2]
  constructor
  · rw [Nat.add_mul_div_left _ _ h, Nat.div_eq_of_lt (by omega)]; omega
  · rw [Nat.add_mul_mod_self_left, Nat.mod_eq_of_lt (by omega)]
theorem qv_carry (b : Nat → Nat) (t : Nat) : ∀ i, (∀ j, j < i → 1 ≤ b j) → (∀ j, j < i → dgt b t j = b j - 1) → qv b (t + 1) i = qv b t i + 1
  | 0, _, _ => rfl
  | i + 1, h1, h2 => by
    have ih := qv_carry b t i (fun j hj => h1 j (by omega)) (fun j hj => h2 j (by omega))
    simp only [qv]
    rw [ih]
    exact (carry _ _ (h1 i (by omega)) (h2 i (by omega))).1
theorem dgt_carry (b : Nat → Nat) (t i : Nat) (h1 : ∀ j, j < i → 1 ≤ b j) (h2 : ∀ j, j < i → dgt b t j = b j - 1) (j : Nat) (hj : j < i) : dgt b (t + 1) j = 0 := by
  unfold dgt
  rw [qv_carry b t j (fun k hk => h1 k (by omega)) (fun k hk => h2 k (by omega))]
  exact (carry _ _ (h1 j hj) (h2 j hj)).2
theorem dgt_stop (b : Nat → Nat) (t i : Nat) (h1 : ∀ j, j < i + 1 → 1 ≤ b j) (h2 : ∀ j, j < i → dgt b t j = b j - 1) (h3 : dgt b t i ≠ b i - 1) : dgt b (t + 1) i = dgt b t i + 1 := by
  unfold dgt
  rw [qv_carry b t i (fun k hk => h1 k (by omega)) h2]
  exact (nocarry _ _ (h1 i (by omega)) h3).2
theorem qv_above (b : Nat → Nat) (t i : Nat) (h1 : ∀ j, j < i + 1 → 1 ≤ b j) (h2 : ∀ j, j < i → dgt b t j = b j - 1) (h3 : dgt b t i ≠ b i - 1) : ∀ d, qv b (t + 1) (i + 1 + d) = qv b t (i + 1 + d)
  | 0 => by
    show qv b (t + 1) i / b i = qv b t i / b i
    rw [qv_carry b t i (fun k hk => h1 k (by omega)) h2]
    exact (nocarry _ _ (h1 i (by omega)) h3).1
  | d + 1 => by
    show qv b (t + 1) (i + 1 + d) / b _ = qv b t (i + 1 + d) / b _
    rw [qv_above b t i h1 h2 h3 d]
theorem dgt_above (b : Nat → Nat) (t i : Nat) (h1 : ∀ j, j < i + 1 → 1 ≤ b j) (h2 : ∀ j, j < i → dgt b t j = b j - 1) (h3 : dgt b t i ≠ b i - 1) (j : Nat) (hj : i < j) : dgt b (t + 1) j = dgt b t j := by
  obtain ⟨d, rfl⟩ : ∃ d, j = i + 1 + d := ⟨j - (i + 1), by omega⟩
  unfold dgt
  rw [qv_above b t i h1 h2 h3 d]
/-- The last way. -/
theorem last (b : Nat → Nat) (t n : Nat) (h1 : ∀ j, j < n → 1 ≤ b j) (h2 : ∀ j, j < n → dgt b t j = b j - 1) (ht : t < prd b n) : t + 1 = prd b n := by
  have h := qv_carry b t n h1 h2
  have h0 := (qv_zero b t n h1).2 ht
  have hn : ¬ t + 1 < prd b n := fun e => by
    have := (qv_zero b (t + 1) n h1).2 e
    omega
  omega
theorem more (b : Nat → Nat) (t n i : Nat) (h1 : ∀ j, j < n → 1 ≤ b j) (hi : i < n) (h2 : ∀ j, j < i → dgt b t j = b j - 1) (h3 : dgt b t i ≠ b i - 1) (ht : t < prd b n) : t + 1 < prd b n := by
  obtain ⟨d, hd⟩ : ∃ d, n = i + 1 + d := ⟨n - (i + 1), by omega⟩
  have h := qv_above b t i (fun j hj => h1 j (by omega)) h2 h3 d
  rw [← hd] at h
  have h0 := (qv_zero b t n h1).2 ht
  exact (qv_zero b (t + 1) n h1).1 (by omega)
end Go.Proofs.Ytpdigiefldnpaaa.OdoMath
