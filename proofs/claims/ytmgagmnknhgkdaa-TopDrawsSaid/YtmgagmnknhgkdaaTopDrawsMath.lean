/- The plain law of TopDraws: how often each is picked when parts come one by one, each with all columns (Walker), or by the sums (each as often as its weight, times the number of weights). -/
import Derived.Test.YtmgagmnknhgkdaaAliasUse
import Derived.Test.YtmgagmnknhgkdaaPick
namespace Go.Proofs.Ytmgagmnknhgkdaa.topDraws
open Go.Proofs.Ytmgagmnknhgkdaa

def ofI (own : Nat → Int) (rest : Nat → Nat) (A : Int) (c p j : Nat) : Int := shF own rest A c j + (if c = j then min (p : Int) (own c) else 0) + (if rest c = j then (p : Int) - min (p : Int) (own c) else 0)
theorem ofI_zero (own : Nat → Int) (rest : Nat → Nat) (A : Int) (c j : Nat) (h : 0 ≤ own c) : ofI own rest A c 0 j = shF own rest A c j := by
  unfold ofI
  split <;> split <;> omega
theorem ofI_end (own : Nat → Int) (rest : Nat → Nat) (A : Nat) (c j : Nat) (h : own c ≤ A) : ofI own rest A c A j = shF own rest A (c + 1) j := by
  unfold ofI shF
  simp only [Wk.sumT]
  generalize Wk.sumT (fun i => if rest i = j then (A : Int) - own i else 0) c = S
  have hm : min (A : Int) (own c) = own c := by omega
  rw [hm]
  by_cases e : c = j
  · subst e
    rw [if_pos (show c = c from rfl), if_neg (show ¬ c < c by omega), if_pos (show c < c + 1 by omega)]
    omega
  · rw [if_neg (show ¬ c = j from e)]
    by_cases e2 : j < c
    · rw [if_pos (show j < c from e2), if_pos (show j < c + 1 by omega)]
      omega
    · rw [if_neg (show ¬ j < c from e2), if_neg (show ¬ j < c + 1 by omega)]
      omega
/-- Is j picked? -/
def hit (own : Nat → Int) (rest : Nat → Nat) (j c p : Nat) : Int := if apk own rest c p = j then 1 else 0
theorem ofI_hit (own : Nat → Int) (rest : Nat → Nat) (A : Int) (c p j : Nat) : ofI own rest A c (p + 1) j = ofI own rest A c p j + hit own rest j c p := by
  unfold ofI hit apk
  by_cases h : (p : Int) < own c
  · rw [if_pos h]
    have h1 : min ((p + 1 : Nat) : Int) (own c) = (p : Int) + 1 := by omega
    have h2 : min (p : Int) (own c) = (p : Int) := by omega
    rw [h1, h2]
    by_cases e : c = j
    · rw [if_pos e, if_pos e, if_pos e]; split <;> omega
    · rw [if_neg e, if_neg e, if_neg e]; split <;> omega
  · rw [if_neg h]
    have h1 : min ((p + 1 : Nat) : Int) (own c) = own c := by omega
    have h2 : min (p : Int) (own c) = own c := by omega
    rw [h1, h2]
    by_cases e : rest c = j
    · rw [if_pos e, if_pos e, if_pos e]; split <;> omega
    · rw [if_neg e, if_neg e, if_neg e]; split <;> omega
theorem ofI_sum (own : Nat → Int) (rest : Nat → Nat) (A : Int) (c j : Nat) (h : 0 ≤ own c) : ∀ p, ofI own rest A c p j = shF own rest A c j + Wk.sumT (hit own rest j c) p
  | 0 => by rw [ofI_zero _ _ _ _ _ h]; simp [Wk.sumT]
  | p + 1 => by rw [ofI_hit, ofI_sum own rest A c j h p]; simp only [Wk.sumT]; omega
theorem sumT_add (f g : Nat → Int) : ∀ n, Wk.sumT (fun i => f i + g i) n = Wk.sumT f n + Wk.sumT g n
  | 0 => rfl
  | n + 1 => by simp only [Wk.sumT]; rw [sumT_add f g n]; omega
theorem sumT_swap (f : Nat → Nat → Int) (m : Nat) : ∀ n, Wk.sumT (fun p => Wk.sumT (fun c => f c p) m) n = Wk.sumT (fun c => Wk.sumT (f c) n) m
  | 0 => by
    simp only [Wk.sumT]
    exact (Wk.sumT_zero _ _ (fun _ _ => rfl)).symm
  | n + 1 => by
    simp only [Wk.sumT]
    rw [sumT_swap f m n, ← sumT_add]
theorem sumT_tel (g : Nat → Int) : ∀ n, Wk.sumT (fun c => g (c + 1) - g c) n = g n - g 0
  | 0 => by simp [Wk.sumT]
  | n + 1 => by simp only [Wk.sumT]; rw [sumT_tel g n]; omega
/-- How often j was picked by all n columns of the first i parts, and by c columns of the next. -/
def two (own : Nat → Int) (rest : Nat → Nat) (n i c j : Nat) : Int := Wk.sumT (fun p => Wk.sumT (fun c' => hit own rest j c' p) n) i + Wk.sumT (fun c' => hit own rest j c' i) c
theorem two_zero (own : Nat → Int) (rest : Nat → Nat) (n j : Nat) : two own rest n 0 0 j = 0 := rfl
theorem two_step (own : Nat → Int) (rest : Nat → Nat) (n i c j : Nat) : two own rest n i (c + 1) j = if j = apk own rest c i then two own rest n i c (apk own rest c i) + 1 else two own rest n i c j := by
  unfold two
  simp only [Wk.sumT]
  by_cases e : j = apk own rest c i
  · rw [if_pos e, ← e]
    have : hit own rest j c i = 1 := by unfold hit; rw [if_pos e.symm]
    rw [this]; omega
  · rw [if_neg e]
    have : hit own rest j c i = 0 := by unfold hit; rw [if_neg (fun h => e h.symm)]
    rw [this]; omega
theorem two_next (own : Nat → Int) (rest : Nat → Nat) (n i j : Nat) : two own rest n i n j = two own rest n (i + 1) 0 j := by
  unfold two
  simp only [Wk.sumT]
  omega
theorem hit_bd (own : Nat → Int) (rest : Nat → Nat) (j c p : Nat) : 0 ≤ hit own rest j c p ∧ hit own rest j c p ≤ 1 := by
  unfold hit; split <;> omega
theorem two_bd (own : Nat → Int) (rest : Nat → Nat) (n i c j : Nat) (hn : n ≤ 40) (hc : c ≤ 40) (hi : i ≤ 10000) : 0 ≤ two own rest n i c j ∧ two own rest n i c j ≤ 1000000 := by
  have a := sumT_bd (fun p => Wk.sumT (fun c' => hit own rest j c' p) n) n i (fun p _ => by
    have := sumT_bd (fun c' => hit own rest j c' p) 1 n (fun c' _ => hit_bd own rest j c' p)
    exact ⟨this.1, by have := this.2; omega⟩)
  have b := sumT_bd (fun c' => hit own rest j c' i) 1 c (fun c' _ => hit_bd own rest j c' i)
  have e : (i : Int) * (n : Int) ≤ ((10000 * 40 : Nat) : Int) := by
    rw [← Int.natCast_mul]; exact Int.ofNat_le.2 (Nat.mul_le_mul hi hn)
  unfold two
  omega
theorem two_all {n : Nat} {A : Nat} {V own : Nat → Int} {rest : Nat → Nat} (h : Wk.Fin n A V own rest) (j : Nat) (hj : j < n) : two own rest n A 0 j = V j := by
  have s : shF own rest A n j = V j := by
    rw [← h.sh j hj]
    unfold shF
    rw [if_pos hj]
  have z : shF own rest A 0 j = 0 := by simp [shF, Wk.sumT]
  have e1 : two own rest n A 0 j = Wk.sumT (fun c => Wk.sumT (hit own rest j c) A) n := by
    unfold two
    rw [sumT_swap (hit own rest j) n A]
    simp [Wk.sumT]
  have e2 : Wk.sumT (fun c => Wk.sumT (hit own rest j c) A) n = Wk.sumT (fun c => shF own rest A (c + 1) j - shF own rest A c j) n := Wk.sumT_congr _ _ _ (fun c hc => by
    have b := h.bd c hc
    have := ofI_sum own rest A c j b.1 A
    rw [ofI_end own rest A c j b.2] at this
    omega)
  rw [e1, e2, sumT_tel (fun c => shF own rest A c j) n, z, s]
  omega
/-- How often a thing is picked by the first t parts, times n. -/
def oft (xs : List Int) (t u : Nat) : Int := min (t : Int) (sumK xs (u + 1)) - min (t : Int) (sumK xs u)
theorem oft_step (xs : List Int) (n : Nat) (h : okN xs n = true) (t i u : Nat) (hi : i < n) (hu : u < n) (a1 : sumK xs i ≤ t) (a2 : (t : Int) < sumK xs (i + 1)) : oft xs (t + 1) u = if u = i then oft xs t i + 1 else oft xs t u := by
  unfold oft
  have m0 : sumK xs u ≤ sumK xs (u + 1) := sumK_le xs n h u (u + 1) (by omega) (by omega)
  by_cases e : u = i
  · rw [if_pos e, e]; omega
  · rw [if_neg e]
    rcases Nat.lt_or_ge u i with hl | hl
    · have := sumK_le xs n h (u + 1) i (by omega) (by omega)
      omega
    · have := sumK_le xs n h (i + 1) u (by omega) (by omega)
      omega
theorem oft_bd (xs : List Int) (n : Nat) (h : okN xs n = true) (t u : Nat) (hu : u < n) : 0 ≤ oft xs t u ∧ oft xs t u ≤ t := by
  have m0 : sumK xs u ≤ sumK xs (u + 1) := sumK_le xs n h u (u + 1) (by omega) (by omega)
  have := (sumK_ok xs u (okN_down xs n u h (by omega))).1
  unfold oft
  omega
theorem oft_all (xs : List Int) (n A : Nat) (h : okN xs n = true) (hA : (A : Int) = sumK xs n) (u : Nat) (hu : u < n) : oft xs A u = gi xs u := by
  have m0 : sumK xs (u + 1) ≤ sumK xs n := sumK_le xs n h (u + 1) n (by omega) (by omega)
  have m1 : sumK xs (u + 1) = sumK xs u + gi xs u := rfl
  have := okN_at xs n h u hu
  unfold oft
  omega
def one (xs : List Int) (n t u : Nat) : Int := oft xs t u * (n : Int)
theorem one_zero (xs : List Int) (n : Nat) (h : okN xs n = true) (u : Nat) (hu : u < n) : one xs n 0 u = 0 := by
  have := oft_bd xs n h 0 u hu
  have e : oft xs 0 u = 0 := by omega
  unfold one; rw [e]; simp
theorem one_step (xs : List Int) (n : Nat) (h : okN xs n = true) (t i u : Nat) (hi : i < n) (hu : u < n) (a1 : sumK xs i ≤ t) (a2 : (t : Int) < sumK xs (i + 1)) : one xs n (t + 1) u = if u = i then one xs n t i + (n : Int) else one xs n t u := by
  unfold one
  rw [oft_step xs n h t i u hi hu a1 a2]
  by_cases e : u = i
  · rw [if_pos e, if_pos e, Int.add_mul]; omega
  · rw [if_neg e, if_neg e]
theorem one_bd (xs : List Int) (n : Nat) (h : okN xs n = true) (t u : Nat) (hu : u < n) (hn : n ≤ 40) (ht : t ≤ 10000) : 0 ≤ one xs n t u ∧ one xs n t u ≤ 1000000 := by
  obtain ⟨a, b⟩ := oft_bd xs n h t u hu
  obtain ⟨x, hx⟩ : ∃ x : Nat, oft xs t u = (x : Int) := ⟨(oft xs t u).toNat, by omega⟩
  unfold one
  rw [hx] at b ⊢
  have e : (x : Int) * (n : Int) ≤ ((10000 * 40 : Nat) : Int) := by
    rw [← Int.natCast_mul]; exact Int.ofNat_le.2 (Nat.mul_le_mul (by omega) hn)
  have e2 : (0 : Int) ≤ (x : Int) * (n : Int) := by rw [← Int.natCast_mul]; omega
  omega
theorem one_all (xs : List Int) (n A : Nat) (h : okN xs n = true) (hA : (A : Int) = sumK xs n) (u : Nat) (hu : u < n) : one xs n A u = ws xs n u := by
  unfold one ws; rw [oft_all xs n A h hA u hu]
theorem sumK_up (xs : List Int) (n : Nat) (h : ∀ i, i < n → gi xs i ≤ 14) : ∀ k, k ≤ n → sumK xs k ≤ 14 * k
  | 0, _ => by simp [sumK]
  | k + 1, hk => by
    have := sumK_up xs n h k (by omega)
    have := h k (by omega)
    simp only [sumK]; omega
/-- What came before i. -/
def cmS : Nat → Int → Bool
  | 0, _ => false
  | i + 1, z => if z = (i : Int) then true else cmS i z
theorem cmS_true (z : Int) : ∀ i : Nat, 0 ≤ z → z < i → cmS i z = true
  | 0, h0, h => by omega
  | i + 1, h0, h => by
    simp only [cmS]
    by_cases e : z = (i : Int)
    · rw [if_pos e]
    · rw [if_neg e]; exact cmS_true z i h0 (by omega)
end Go.Proofs.Ytmgagmnknhgkdaa.topDraws
