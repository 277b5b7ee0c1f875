/- Sorting by counting, swaps, and the pigeonhole (plain Lean, no program in sight). -/
namespace Go.Proofs.YtgodgfnfaiiohaaGreatDoor.SortMath

/-- Of how many of the first k places p is so. -/
def cn (p : Nat → Bool) : Nat → Nat
  | 0 => 0
  | k + 1 => cn p k + if p k = true then 1 else 0
theorem cn_le (p : Nat → Bool) : ∀ n, cn p n ≤ n
  | 0 => Nat.le_refl _
  | n + 1 => by have := cn_le p n; simp only [cn]; split <;> omega
theorem cn_mono {p q : Nat → Bool} : ∀ {n : Nat}, (∀ k, k < n → p k = true → q k = true) → cn p n ≤ cn q n
  | 0, _ => Nat.le_refl _
  | n + 1, h => by
    have a := cn_mono (n := n) (fun k hk => h k (by omega))
    have b := h n (by omega)
    simp only [cn]
    by_cases hp : p n = true
    · rw [if_pos hp, if_pos (b hp)]; omega
    · rw [if_neg hp]; omega
theorem cn_strict {p q : Nat → Bool} {i : Nat} (hp : ¬ p i = true) (hq : q i = true) : ∀ {n : Nat}, i < n → (∀ k, k < n → p k = true → q k = true) → cn p n < cn q n
  | 0, h, _ => by omega
  | n + 1, hi, h => by
    simp only [cn]
    by_cases e : i = n
    · subst e
      have a := cn_mono (n := i) (fun k hk => h k (by omega))
      rw [if_neg hp, if_pos hq]; omega
    · have a := cn_strict hp hq (n := n) (by omega) (fun k hk => h k (by omega))
      have b := h n (by omega)
      by_cases hp' : p n = true
      · rw [if_pos hp', if_pos (b hp')]; omega
      · rw [if_neg hp']; omega
theorem pigeon : ∀ (n : Nat) (g : Nat → Nat), (∀ i, i < n → g i < n) → (∀ i j, i < n → j < n → g i = g j → i = j) → ∀ p, p < n → ∃ i, i < n ∧ g i = p
  | 0, _, _, _, p, h => by omega
  | n + 1, g, h1, h2, p, hp => by
    by_cases hm : g n = n
    · have h3 : ∀ i, i < n → g i < n := fun i hi => by
        have a := h1 i (by omega)
        have b := h2 i n (by omega) (by omega)
        by_cases e : g i = n
        · have := b (by omega); omega
        · omega
      by_cases e : p = n
      · exact ⟨n, by omega, by omega⟩
      · obtain ⟨i, hi, hg⟩ := pigeon n g h3 (fun i j hi hj => h2 i j (by omega) (by omega)) p (by omega)
        exact ⟨i, by omega, hg⟩
    · have hmn := h1 n (by omega)
      have h3 : ∀ i, i < n → (if g i = n then g n else g i) < n := fun i hi => by
        have a := h1 i (by omega)
        split <;> omega
      have h4 : ∀ i j, i < n → j < n → (if g i = n then g n else g i) = (if g j = n then g n else g j) → i = j := fun i j hi hj e => by
        have a := h2 i j (by omega) (by omega)
        have b := h2 i n (by omega) (by omega)
        have c := h2 j n (by omega) (by omega)
        split at e <;> split at e
        · exact a (by omega)
        · have := c (by omega); omega
        · have := b (by omega); omega
        · exact a e
      by_cases e : p = g n
      · exact ⟨n, by omega, e.symm⟩
      · by_cases e2 : p = n
        · obtain ⟨i, hi, hg⟩ := pigeon n _ h3 h4 (g n) (by omega)
          have b := h2 i n (by omega) (by omega)
          refine ⟨i, by omega, ?_⟩
          by_cases e3 : g i = n
          · omega
          · simp only [if_neg e3] at hg
            have := b hg; omega
        · obtain ⟨i, hi, hg⟩ := pigeon n _ h3 h4 p (by omega)
          refine ⟨i, by omega, ?_⟩
          by_cases e3 : g i = n
          · simp only [if_pos e3] at hg; omega
          · simp only [if_neg e3] at hg; exact hg
/-- Does k stand bfr of i? -/
def bfr (f : Nat → Int) (i k : Nat) : Bool := decide (f k < f i ∨ f k = f i ∧ k < i)
/-- The place at which i comes to stand. -/
def rank (f : Nat → Int) (n i : Nat) : Nat := cn (bfr f i) n
/-- What stands at each place after i things were laid. -/
def srt (f : Nat → Int) (n : Nat) : Nat → Nat → Int
  | 0 => fun _ => 0
  | i + 1 => fun j => if j = rank f n i then f i else srt f n i j
theorem rank_lt (f : Nat → Int) (n i : Nat) (h : i < n) : rank f n i < n := by
  have a : cn (bfr f i) n < cn (fun _ => true) n := cn_strict (i := i) (by simp [bfr]) rfl h (fun _ _ _ => rfl)
  have b := cn_le (fun _ => true) n
  unfold rank
  omega
theorem rank_step (f : Nat → Int) (n i j : Nat) (hi : i < n) (h : bfr f j i = true) : rank f n i < rank f n j := by
  unfold rank
  refine cn_strict (i := i) (by simp [bfr]) h hi (fun k _ hk => ?_)
  simp only [bfr, decide_eq_true_eq] at *
  omega
theorem rank_inj (f : Nat → Int) (n i j : Nat) (hi : i < n) (hj : j < n) (h : rank f n i = rank f n j) : i = j := by
  by_cases a : bfr f j i = true
  · have := rank_step f n i j hi a; omega
  · by_cases b : bfr f i j = true
    · have := rank_step f n j i hj b; omega
    · simp only [bfr, decide_eq_true_eq] at a b; omega
theorem srt_of (f : Nat → Int) (n p : Nat) : ∀ m, m ≤ n → (∃ i, i < m ∧ rank f n i = p) → ∃ i, i < m ∧ rank f n i = p ∧ srt f n m p = f i
  | 0, _, h => by obtain ⟨i, hi, _⟩ := h; omega
  | m + 1, hm, h => by
    simp only [srt]
    by_cases e : p = rank f n m
    · exact ⟨m, by omega, e.symm, by rw [if_pos e]⟩
    · obtain ⟨i, hi, hr⟩ := h
      have him : i ≠ m := fun e2 => e (by rw [← e2, hr])
      obtain ⟨i', h1, h2, h3⟩ := srt_of f n p m (by omega) ⟨i, by omega, hr⟩
      exact ⟨i', by omega, h2, by rw [if_neg e]; exact h3⟩
theorem srt_spec (f : Nat → Int) (n p : Nat) (h : p < n) : ∃ i, i < n ∧ rank f n i = p ∧ srt f n n p = f i :=
  srt_of f n p n (Nat.le_refl _) (pigeon n (rank f n) (fun i hi => rank_lt f n i hi) (fun i j hi hj => rank_inj f n i j hi hj) p h)
end Go.Proofs.YtgodgfnfaiiohaaGreatDoor.SortMath
