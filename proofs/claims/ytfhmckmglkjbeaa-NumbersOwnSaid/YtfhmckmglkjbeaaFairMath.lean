/- The plain law of fair shares: room given away in rising order; what the stable order of places is. -/
import Derived.Test.YtfhmckmglkjbeaaSortMath
import Derived.Test.YtfhmckmglkjbeaaStabMath
import Derived.Test.YtfhmckmglkjbeaaMem
namespace Go.Proofs.Ytfhmckmglkjbeaa.FairM
/-- What stands at place k of those that are served, of room r at first: v k wants, n in all. -/
def left (v : Nat → Int) (n : Nat) (r : Int) : Nat → Int
  | 0 => r
  | k + 1 => left v n r k - min (v k) (left v n r k / ((n : Int) - k))
def giv (v : Nat → Int) (n : Nat) (r : Int) (k : Nat) : Int := min (v k) (left v n r k / ((n : Int) - k))
theorem left_step (v : Nat → Int) (n : Nat) (r : Int) (k : Nat) : left v n r (k + 1) = left v n r k - giv v n r k := rfl
theorem div_lo (x : Int) (m : Int) (hm : 1 ≤ m) : x / m * m ≤ x ∧ x < (x / m + 1) * m := by
  have h1 := Int.emod_nonneg x (show m ≠ 0 by omega)
  have h2 := Int.emod_lt_of_pos x (show 0 < m by omega)
  have h3 := Int.mul_ediv_add_emod x m
  have e1 : x / m * m = m * (x / m) := Int.mul_comm _ _
  have e2 : (x / m + 1) * m = m * (x / m) + m := by rw [Int.add_mul, Int.one_mul, Int.mul_comm]
  omega
theorem left_bd (v : Nat → Int) (n : Nat) (r : Int) (hr : 0 ≤ r) (hv : ∀ k, k < n → 0 ≤ v k) : ∀ k, k ≤ n → 0 ≤ left v n r k ∧ left v n r k ≤ r
  | 0, _ => ⟨hr, Int.le_refl _⟩
  | k + 1, h => by
    obtain ⟨a, b⟩ := left_bd v n r hr hv k (by omega)
    have hm : (1 : Int) ≤ (n : Int) - k := by omega
    have d := Int.ediv_nonneg a (show (0 : Int) ≤ (n : Int) - k by omega)
    have e := (div_lo (left v n r k) _ hm).1
    have e2 : left v n r k / ((n : Int) - k) * 1 ≤ left v n r k / ((n : Int) - k) * ((n : Int) - k) := Int.mul_le_mul_of_nonneg_left hm d
    have vk := hv k (by omega)
    rw [left_step]
    unfold giv
    omega
theorem giv_bd (v : Nat → Int) (n : Nat) (r : Int) (hr : 0 ≤ r) (hv : ∀ k, k < n → 0 ≤ v k) (k : Nat) (hk : k < n) : 0 ≤ giv v n r k ∧ giv v n r k ≤ v k ∧ giv v n r k ≤ left v n r k := by
  have a := (left_bd v n r hr hv k (by omega)).1
  have b := (left_bd v n r hr hv (k + 1) (by omega)).1
  rw [left_step] at b
  have d := Int.ediv_nonneg a (show (0 : Int) ≤ (n : Int) - k by omega)
  have vk := hv k hk
  refine ⟨by unfold giv; omega, by unfold giv; omega, by omega⟩
/-- Sums of what the first k want, and are given. -/
def sm (v : Nat → Int) : Nat → Int
  | 0 => 0
  | k + 1 => sm v k + v k
theorem left_sum (v : Nat → Int) (n : Nat) (r : Int) : ∀ k, left v n r k = r - sm (giv v n r) k
  | 0 => by simp [left, sm]
  | k + 1 => by rw [left_step, left_sum v n r k]; simp only [sm]; omega
/-- A little more room, no less for anybody. -/
theorem left_mono (v : Nat → Int) (n : Nat) (r d : Int) (hd : 0 ≤ d) : ∀ k, k ≤ n → left v n r k ≤ left v n (r + d) k
  | 0, _ => by show r ≤ r + d; omega
  | k + 1, h => by
    have ih := left_mono v n r d hd k (by omega)
    have hm : (1 : Int) ≤ (n : Int) - k := by omega
    rw [left_step, left_step]
    unfold giv
    generalize left v n r k = x at *
    generalize left v n (r + d) k = y at *
    generalize (n : Int) - k = m at *
    have hle := Int.ediv_le_ediv (show 0 < m by omega) ih
    obtain ⟨a1, a2⟩ := div_lo x m hm
    obtain ⟨b1, b2⟩ := div_lo y m hm
    -- y - y/m is at least x - x/m
    have key : x - x / m ≤ y - y / m := by
      generalize x / m = p at *
      generalize y / m = q at *
      obtain ⟨t, ht⟩ : ∃ t : Int, q = p + t := ⟨q - p, by omega⟩
      subst ht
      have t0 : 0 ≤ t := by omega
      have e1 : (p + t) * m = p * m + t * m := Int.add_mul _ _ _
      have e2 : (p + 1) * m = p * m + m := by rw [Int.add_mul, Int.one_mul]
      rcases Int.lt_or_le t 1 with h1 | h1
      · omega
      · -- t ≥ 1: y ≥ (p+t) m, x < (p+1) m; y - x > (t-1) m ≥ t - 1
        have e3 : (t - 1) * 1 ≤ (t - 1) * m := Int.mul_le_mul_of_nonneg_left hm (by omega)
        have e4 : (t - 1) * m = t * m - m := by rw [Int.sub_mul, Int.one_mul]
        omega
    omega
theorem giv_mono (v : Nat → Int) (n : Nat) (r d : Int) (hd : 0 ≤ d) (k : Nat) (hk : k < n) : giv v n r k ≤ giv v n (r + d) k := by
  have a := left_mono v n r d hd k (by omega)
  have := Int.ediv_le_ediv (show 0 < (n : Int) - k by omega) a
  unfold giv; omega
/-- In rising order the share never falls: of what is left for each of those to come, the floor. -/
theorem share_up (v : Nat → Int) (n : Nat) (r : Int) (k : Nat) (hk : k + 1 < n) : left v n r k / ((n : Int) - k) ≤ left v n r (k + 1) / ((n : Int) - (k + 1 : Nat)) := by
  rw [left_step]
  have hm : (1 : Int) ≤ (n : Int) - k := by omega
  have hm2 : (0 : Int) < (n : Int) - (k + 1 : Nat) := by omega
  rw [Int.le_ediv_iff_mul_le hm2]
  have a := (div_lo (left v n r k) _ hm).1
  have e : left v n r k / ((n : Int) - k) * ((n : Int) - k) = left v n r k / ((n : Int) - k) * ((n : Int) - (k + 1 : Nat)) + left v n r k / ((n : Int) - k) := by
    rw [show ((n : Int) - k) = ((n : Int) - (k + 1 : Nat)) + 1 by omega, Int.mul_add, Int.mul_one]
  have g : giv v n r k ≤ left v n r k / ((n : Int) - k) := by unfold giv; omega
  omega
theorem giv_up (v : Nat → Int) (n : Nat) (r : Int) (hv : ∀ i j, i ≤ j → j < n → v i ≤ v j) (i j : Nat) (h : i ≤ j) (hj : j < n) : giv v n r i ≤ giv v n r j := by
  have sh : ∀ d, i + d < n → left v n r i / ((n : Int) - i) ≤ left v n r (i + d) / ((n : Int) - (i + d : Nat)) := by
    intro d
    induction d with
    | zero => intro _; exact Int.le_refl _
    | succ d ih =>
      intro hd
      have a := ih (by omega)
      have b := share_up v n r (i + d) (by omega)
      rw [show i + (d + 1) = i + d + 1 by omega]
      exact Int.le_trans a b
  have a := sh (j - i) (by omega)
  rw [show i + (j - i) = j by omega] at a
  have b := hv i j h hj
  unfold giv
  omega
/-- Once the share is less than what is wanted, it is so for all that come, and nobody has more than one above it. -/
theorem cut (v : Nat → Int) (n : Nat) (r : Int) (hr : 0 ≤ r) (h0 : ∀ k, k < n → 0 ≤ v k) (hv : ∀ i j, i ≤ j → j < n → v i ≤ v j) (k : Nat) (hk : k < n) (hc : giv v n r k < v k) :
    ∀ d, k + d < n → (giv v n r k = left v n r k / ((n : Int) - k)) ∧ left v n r (k + d) ≤ (giv v n r k + 1) * ((n : Int) - (k + d : Nat)) ∧ giv v n r k * ((n : Int) - (k + d : Nat)) ≤ left v n r (k + d) ∧ giv v n r (k + d) ≤ giv v n r k + 1 ∧ left v n r (k + d) / ((n : Int) - (k + d : Nat)) = giv v n r (k + d) := by
  have q : giv v n r k = left v n r k / ((n : Int) - k) := by
    unfold giv at hc ⊢; omega
  generalize hG : giv v n r k = G at *
  intro d
  induction d with
  | zero =>
    intro _
    have hm : (1 : Int) ≤ (n : Int) - k := by omega
    obtain ⟨a, b⟩ := div_lo (left v n r k) _ hm
    rw [← q] at a b
    refine ⟨q, by rw [Nat.add_zero]; omega, by rw [Nat.add_zero]; exact a, by rw [Nat.add_zero, hG]; omega, by rw [Nat.add_zero, hG]; exact q.symm⟩
  | succ d ih =>
    intro hd
    obtain ⟨_, i1, i2, i3, i4⟩ := ih (by omega)
    have ls := left_step v n r (k + d)
    have hm : (1 : Int) ≤ (n : Int) - (k + d + 1 : Nat) := by omega
    have m1 : (n : Int) - (k + d : Nat) = ((n : Int) - (k + d + 1 : Nat)) + 1 := by omega
    have lo : G ≤ giv v n r (k + d) := by
      have := giv_up v n r hv k (k + d) (by omega) (by omega)
      rw [hG] at this; exact this
    rw [← i4] at lo i3
    rw [← i4] at ls
    rw [m1] at i1 i2 lo i3 ls
    have e1 : (G + 1) * ((n : Int) - (k + d + 1 : Nat) + 1) = (G + 1) * ((n : Int) - (k + d + 1 : Nat)) + (G + 1) := by rw [Int.mul_add, Int.mul_one]
    have e2 : G * ((n : Int) - (k + d + 1 : Nat) + 1) = G * ((n : Int) - (k + d + 1 : Nat)) + G := by rw [Int.mul_add, Int.mul_one]
    generalize hM : (n : Int) - (k + d + 1 : Nat) = M at *
    generalize left v n r (k + d) = X at *
    have dv := div_lo X (M + 1) (by omega)
    generalize X / (M + 1) = s at *
    have hX1 : left v n r (k + d + 1) ≤ (G + 1) * M := by
      rw [ls]
      rcases Int.lt_or_le G s with h | h
      · omega
      · have hs : s = G := by omega
        subst hs
        -- X < (s+1)(M+1): X - s ≤ (s+1) M
        have e3 : (s + 1) * (M + 1) = (s + 1) * M + (s + 1) := by rw [Int.mul_add, Int.mul_one]
        omega
    have hX2 : G * M ≤ left v n r (k + d + 1) := by
      rw [ls]
      rcases Int.lt_or_le G s with h | h
      · have hs : s = G + 1 := by omega
        subst hs
        have e3 : (G + 1) * (M + 1) = (G + 1) * M + (G + 1) := by rw [Int.mul_add, Int.mul_one]
        have e4 : (G + 1) * M = G * M + M := by rw [Int.add_mul, Int.one_mul]
        omega
      · omega
    have s1 : left v n r (k + d + 1) / M ≤ G + 1 := by
      have := Int.ediv_le_ediv (show 0 < M by omega) hX1
      rwa [Int.mul_ediv_cancel _ (show M ≠ 0 by omega)] at this
    have vk : G + 1 ≤ v (k + d + 1) := by
      have := hv k (k + d + 1) (by omega) hd
      omega
    have fin : giv v n r (k + d + 1) = left v n r (k + d + 1) / M := by
      unfold giv
      rw [hM]; omega
    refine ⟨q, hX1, hX2, by show giv v n r (k + d + 1) ≤ G + 1; rw [fin]; exact s1, fin.symm⟩
/-- All room is given away, or each has what he wants. -/
theorem all_given (v : Nat → Int) (n : Nat) (r : Int) (hr : 0 ≤ r) (h0 : ∀ k, k < n → 0 ≤ v k) (hv : ∀ i j, i ≤ j → j < n → v i ≤ v j) : sm (giv v n r) n = min r (sm v n) := by
  have tot := left_sum v n r n
  have lb := (left_bd v n r hr h0 n (Nat.le_refl _)).1
  by_cases hc : ∃ k, k < n ∧ giv v n r k < v k
  · obtain ⟨k, hk, hc⟩ := hc
    have hz : left v n r n = 0 := by
      obtain ⟨_, _, _, _, h5⟩ := cut v n r hr h0 hv k hk hc (n - 1 - k) (by omega)
      rw [show k + (n - 1 - k) = n - 1 by omega] at h5
      have : left v n r n = left v n r (n - 1) - giv v n r (n - 1) := by
        have := left_step v n r (n - 1)
        rwa [show n - 1 + 1 = n by omega] at this
      rw [this, ← h5, show (n : Int) - (n - 1 : Nat) = 1 by omega, Int.ediv_one]; omega
    have le : sm (giv v n r) n ≤ sm v n := by
      have : ∀ m, m ≤ n → sm (giv v n r) m ≤ sm v m := by
        intro m
        induction m with
        | zero => intro _; exact Int.le_refl _
        | succ m ih =>
          intro hm
          have := ih (by omega)
          have := (giv_bd v n r hr h0 m (by omega)).2.1
          simp only [sm]; omega
      exact this n (Nat.le_refl _)
    omega
  · have eq : ∀ m, m ≤ n → sm (giv v n r) m = sm v m := by
      intro m
      induction m with
      | zero => intro _; rfl
      | succ m ih =>
        intro hm
        have a := ih (by omega)
        have b := (giv_bd v n r hr h0 m (by omega)).2.1
        have c : ¬ giv v n r m < v m := fun h => hc ⟨m, by omega, h⟩
        simp only [sm]; omega
    have := eq n (Nat.le_refl _)
    omega
open Go.Proofs.Ytfhmckmglkjbeaa Go.Proofs.Ytfhmckmglkjbeaa.SortMath Go.Proofs.Ytfhmckmglkjbeaa.Stab
theorem up_id (g : Nat → Nat) (n : Nat) (h1 : ∀ k, k < n → g k < n) (h2 : ∀ i j, i < j → j < n → g i < g j) (k : Nat) (hk : k < n) : g k = k := by
  have lo : ∀ k, k < n → k ≤ g k := by
    intro k
    induction k with
    | zero => intro _; omega
    | succ k ih => intro h; have := ih (by omega); have := h2 k (k + 1) (by omega) h; omega
  have hi : ∀ d k, k + d + 1 = n → g k + d + 1 ≤ n := by
    intro d
    induction d with
    | zero => intro k h; have := h1 k (by omega); omega
    | succ d ih => intro k h; have := ih (k + 1) (by omega); have := h2 k (k + 1) (by omega) (by omega); omega
  have a := lo k hk
  have b := hi (n - 1 - k) k (by omega)
  omega
/-- A stable sort of the places 0 .. n-1 puts each at its rank. -/
theorem stable_rank (ls : List Int) (n : Nat) (h64 : n ≤ 64) (f g : Nat → Int) (hf : ∀ i, i < n → f i = i) (hp : Perm f g 0 n) (hs : Srt (key (fun x => gi ls x.toNat)) g 0 n) (k : Nat) (hk : k < n) :
    ∃ i : Nat, i < n ∧ g k = (i : Int) ∧ rank (gi ls) n i = k := by
  obtain ⟨r1, r2⟩ := perm_id hp hf
  have key1 : ∀ a b, a < b → b < n → rank (gi ls) n (g a).toNat < rank (gi ls) n (g b).toNat := fun a b hab hb => by
    have s := hs a b (Nat.zero_le _) (by omega) hb
    obtain ⟨a1, a2⟩ := r1 a (by omega)
    obtain ⟨b1, b2⟩ := r1 b hb
    have ne : g a ≠ g b := fun e => by have := r2 a b (by omega) hb e; omega
    refine rank_step (gi ls) n _ _ (by omega) ?_
    unfold key at s
    dsimp only at s
    unfold bfr
    rw [decide_eq_true_eq]
    omega
  have := up_id (fun k => rank (gi ls) n (g k).toNat) n (fun k hk => rank_lt _ _ _ (by have := r1 k hk; omega)) key1 k hk
  obtain ⟨a1, a2⟩ := r1 k hk
  exact ⟨(g k).toNat, by omega, by omega, this⟩
/-- The numbers in rising order. -/
def vs (ls : List Int) (n : Nat) (k : Nat) : Int := srt (gi ls) n n k
theorem vs_at (ls : List Int) (n i : Nat) (hi : i < n) : vs ls n (rank (gi ls) n i) = gi ls i := by
  obtain ⟨j, hj, hr, hv⟩ := srt_spec (gi ls) n (rank (gi ls) n i) (rank_lt _ _ _ hi)
  have := rank_inj (gi ls) n j i hj hi hr
  unfold vs; rw [hv, this]
theorem vs_get (ls : List Int) (n k : Nat) (hk : k < n) : ∃ i, i < n ∧ rank (gi ls) n i = k ∧ vs ls n k = gi ls i := srt_spec (gi ls) n k hk
theorem vs_up (ls : List Int) (n : Nat) (i j : Nat) (h : i ≤ j) (hj : j < n) : vs ls n i ≤ vs ls n j := by
  obtain ⟨x, hx, rx, ex⟩ := vs_get ls n i (by omega)
  obtain ⟨y, hy, ry, ey⟩ := vs_get ls n j hj
  rw [ex, ey]
  rcases Int.lt_or_le (gi ls y) (gi ls x) with c | c
  · have := rank_step (gi ls) n y x hy (by unfold bfr; rw [decide_eq_true_eq]; exact .inl c)
    omega
  · exact c
/-- What each is given. -/
def fairF (ls : List Int) (n : Nat) (r : Int) (i : Nat) : Int := giv (vs ls n) n r (rank (gi ls) n i)
theorem rank_le (ls : List Int) (n i j : Nat) (hi : i < n) (hj : j < n) (h : gi ls i < gi ls j) : rank (gi ls) n i ≤ rank (gi ls) n j :=
  Nat.le_of_lt (rank_step (gi ls) n i j hi (by unfold bfr; rw [decide_eq_true_eq]; exact .inl h))
theorem vs_nn (ls : List Int) (n : Nat) (h : ∀ i, i < n → 0 ≤ gi ls i) (k : Nat) (hk : k < n) : 0 ≤ vs ls n k := by
  obtain ⟨i, hi, _, e⟩ := vs_get ls n k hk
  rw [e]; exact h i hi
theorem fair_bd (ls : List Int) (n : Nat) (r : Int) (hr : 0 ≤ r) (h : ∀ i, i < n → 0 ≤ gi ls i) (i : Nat) (hi : i < n) : 0 ≤ fairF ls n r i ∧ fairF ls n r i ≤ gi ls i := by
  have := giv_bd (vs ls n) n r hr (vs_nn ls n h) (rank (gi ls) n i) (rank_lt _ _ _ hi)
  rw [vs_at ls n i hi] at this
  exact ⟨this.1, this.2.1⟩
theorem fair_more (ls : List Int) (n : Nat) (r d : Int) (hd : 0 ≤ d) (i : Nat) (hi : i < n) : fairF ls n r i ≤ fairF ls n (r + d) i := giv_mono _ _ _ _ hd _ (rank_lt _ _ _ hi)
/-- Who wants more has no less. -/
theorem fair_up (ls : List Int) (n : Nat) (r : Int) (i k : Nat) (hi : i < n) (hk : k < n) (h : gi ls i < gi ls k) : fairF ls n r i ≤ fairF ls n r k :=
  giv_up _ _ _ (vs_up ls n) _ _ (rank_le ls n i k hi hk h) (rank_lt _ _ _ hk)
/-- Who has less than he wants has no less than anybody else, but for one. -/
theorem fair_cut (ls : List Int) (n : Nat) (r : Int) (hr : 0 ≤ r) (h : ∀ i, i < n → 0 ≤ gi ls i) (i k : Nat) (hi : i < n) (hk : k < n) (hc : fairF ls n r i < gi ls i) : fairF ls n r k ≤ fairF ls n r i + 1 := by
  have ri := rank_lt (gi ls) n i hi
  have rk := rank_lt (gi ls) n k hk
  rcases Nat.lt_or_ge (rank (gi ls) n k) (rank (gi ls) n i) with c | c
  · have := giv_up (vs ls n) n r (vs_up ls n) _ _ (Nat.le_of_lt c) ri
    unfold fairF; omega
  · have := cut (vs ls n) n r hr (vs_nn ls n h) (vs_up ls n) _ ri (by rw [vs_at ls n i hi]; exact hc) (rank (gi ls) n k - rank (gi ls) n i) (by omega)
    rw [show rank (gi ls) n i + (rank (gi ls) n k - rank (gi ls) n i) = rank (gi ls) n k by omega] at this
    exact this.2.2.2.1
theorem sm_lo (v : Nat → Int) (h : ∀ i, 0 ≤ v i) : ∀ n, 0 ≤ sm v n
  | 0 => Int.le_refl _
  | n + 1 => by have := sm_lo v h n; have := h n; simp only [sm]; omega
/-- A sum does not hang on the order. -/
theorem sm_upd (v : Nat → Int) (i : Nat) (x : Int) : ∀ n, sm (fun j => if j = i then x else v j) n = sm v n + (if i < n then x - v i else 0)
  | 0 => by simp [sm]
  | n + 1 => by
    simp only [sm]
    rw [sm_upd v i x n]
    by_cases e : n = i
    · rw [if_pos e, e, if_neg (by omega), if_pos (by omega)]; omega
    · rw [if_neg e]
      by_cases e2 : i < n
      · rw [if_pos e2, if_pos (by omega)]; omega
      · rw [if_neg e2, if_neg (by omega)]; omega
theorem sm_congr (v u : Nat → Int) : ∀ n, (∀ i, i < n → v i = u i) → sm v n = sm u n
  | 0, _ => rfl
  | n + 1, h => by simp only [sm]; rw [sm_congr v u n (fun i hi => h i (by omega)), h n (by omega)]
theorem sm_zero (n : Nat) : sm (fun _ => 0) n = 0 := by
  induction n with
  | zero => rfl
  | succ n ih => simp only [sm]; omega
/-- What the places of the first m give. -/
def acc (w : Nat → Int) (q : Nat → Nat) : Nat → Nat → Int
  | 0 => fun _ => 0
  | m + 1 => fun j => if j = q m then w m else acc w q m j
theorem acc_out (w : Nat → Int) (q : Nat → Nat) (j : Nat) : ∀ m, (∀ k, k < m → q k ≠ j) → acc w q m j = 0
  | 0, _ => rfl
  | m + 1, h => by
    simp only [acc]
    rw [if_neg (fun e => h m (by omega) e.symm)]
    exact acc_out w q j m (fun k hk => h k (by omega))
theorem acc_at (w : Nat → Int) (q : Nat → Nat) (k : Nat) : ∀ m, k < m → (∀ a b, a < m → b < m → q a = q b → a = b) → acc w q m (q k) = w k
  | 0, h, _ => by omega
  | m + 1, h, hq => by
    simp only [acc]
    by_cases e : k = m
    · rw [e, if_pos rfl]
    · rw [if_neg (fun e2 => e (hq k m (by omega) (by omega) e2))]
      exact acc_at w q k m (by omega) (fun a b ha hb => hq a b (by omega) (by omega))
theorem acc_sum (w : Nat → Int) (q : Nat → Nat) (n : Nat) : ∀ m, (∀ k, k < m → q k < n) → (∀ a b, a < m → b < m → q a = q b → a = b) → sm (acc w q m) n = sm w m
  | 0, _, _ => sm_zero n
  | m + 1, h, hq => by
    have ih := acc_sum w q n m (fun k hk => h k (by omega)) (fun a b ha hb => hq a b (by omega) (by omega))
    show sm (fun j => if j = q m then w m else acc w q m j) n = _
    rw [sm_upd, ih, if_pos (h m (by omega)), acc_out w q (q m) m (fun k hk e => by have := hq k m (by omega) (by omega) e; omega)]
    simp only [sm]; omega
/-- Sums by rank are sums by place. -/
theorem sm_rank (ls : List Int) (n : Nat) (w : Nat → Int) : sm (fun i => w (rank (gi ls) n i)) n = sm w n := by
  have hq : ∀ k, k < n → ∃ i, i < n ∧ rank (gi ls) n i = k := fun k hk => by
    obtain ⟨i, a, b, _⟩ := vs_get ls n k hk
    exact ⟨i, a, b⟩
  have h1 := acc_sum (fun i => w (rank (gi ls) n i)) (rank (gi ls) n) n n (fun k hk => rank_lt _ _ _ hk) (fun a b ha hb e => rank_inj _ _ _ _ ha hb e)
  rw [← h1]
  exact sm_congr _ _ n (fun k hk => by
    obtain ⟨i, a, b⟩ := hq k hk
    have := acc_at (fun i => w (rank (gi ls) n i)) (rank (gi ls) n) i n a (fun a b ha hb e => rank_inj _ _ _ _ ha hb e)
    rw [b] at this
    rw [this])
theorem fair_sum (ls : List Int) (n : Nat) (r : Int) (hr : 0 ≤ r) (h : ∀ i, i < n → 0 ≤ gi ls i) : sm (fairF ls n r) n = min r (sm (gi ls) n) := by
  have a : sm (fairF ls n r) n = sm (giv (vs ls n) n r) n := sm_rank ls n (giv (vs ls n) n r)
  have b : sm (vs ls n) n = sm (gi ls) n := by
    rw [← sm_rank ls n (vs ls n)]
    exact sm_congr _ _ n (fun i hi => vs_at ls n i hi)
  rw [a, all_given (vs ls n) n r hr (vs_nn ls n h) (vs_up ls n), b]
end Go.Proofs.Ytfhmckmglkjbeaa.FairM
