/- The mean square of the estimate is the spread (plain Lean: sums over all ways). -/
import Derived.Test.YtboacbimmggleaaSpread
import Derived.Test.YtboacbimmggleaaSum
import Derived.Test.YtboacbimmggleaaEst
import Derived.Test.YtboacbimmggleaaOdoMath
namespace Go.Proofs.Ytboacbimmggleaa
open OdoMath

def sumT (f : Nat → Int) : Nat → Int
  | 0 => 0
  | k + 1 => sumT f k + f k
theorem sumT_congr {f g : Nat → Int} : ∀ {n : Nat}, (∀ i, i < n → f i = g i) → sumT f n = sumT g n
  | 0, _ => rfl
  | n + 1, h => by simp only [sumT]; rw [sumT_congr (n := n) (fun i hi => h i (by omega)), h n (by omega)]
theorem sumT_cat (f : Nat → Int) (a : Nat) : ∀ b, sumT f (a + b) = sumT f a + sumT (fun i => f (a + i)) b
  | 0 => by simp [sumT]
  | b + 1 => by
    have ih := sumT_cat f a b
    show sumT f (a + b) + f (a + b) = sumT f a + (sumT (fun i => f (a + i)) b + f (a + b))
    rw [ih]; omega
theorem sumT_mul (f : Nat → Int) (P : Nat) : ∀ D, sumT f (P * D) = sumT (fun d => sumT (fun i => f (P * d + i)) P) D
  | 0 => rfl
  | D + 1 => by rw [Nat.mul_succ, sumT_cat, sumT_mul f P D]; rfl
theorem sumT_add (f g : Nat → Int) : ∀ n, sumT (fun i => f i + g i) n = sumT f n + sumT g n
  | 0 => rfl
  | n + 1 => by simp only [sumT]; rw [sumT_add f g n]; omega
theorem sumT_const (c : Int) : ∀ n : Nat, sumT (fun _ => c) n = n * c
  | 0 => by simp [sumT]
  | n + 1 => by simp only [sumT]; rw [sumT_const c n, Int.natCast_add, Int.add_mul]; simp
theorem sumT_scale (c : Int) (f : Nat → Int) : ∀ n, sumT (fun i => c * f i) n = c * sumT f n
  | 0 => by simp [sumT]
  | n + 1 => by simp only [sumT]; rw [sumT_scale c f n, Int.mul_add]
theorem sumT_bd (f : Nat → Int) (B : Int) : ∀ n : Nat, (∀ i, i < n → 0 ≤ f i ∧ f i ≤ B) → 0 ≤ sumT f n ∧ sumT f n ≤ n * B
  | 0, _ => by simp [sumT]
  | n + 1, h => by
    have a := sumT_bd f B n (fun i hi => h i (by omega))
    have b := h n (by omega)
    simp only [sumT]
    rw [Int.natCast_add, Int.add_mul]
    simp
    omega
/-- The j-th of eight-fold digits. -/
def d8 (t j : Nat) : Nat := t / 8 ^ j % 8
theorem d8_low (n d i j : Nat) (h : j < n) : d8 (8 ^ n * d + i) j = d8 i j := by
  unfold d8
  obtain ⟨m, rfl⟩ : ∃ m, n = j + 1 + m := ⟨n - (j + 1), by omega⟩
  have e : 8 ^ (j + 1 + m) * d + i = i + 8 ^ j * (8 * (8 ^ m * d)) := by
    rw [Nat.pow_add, Nat.pow_succ, Nat.add_comm]
    congr 1
    simp only [Nat.mul_assoc]
  rw [e, Nat.add_mul_div_left _ _ (Nat.pow_pos (by omega)), Nat.add_mul_mod_self_left]
theorem d8_top (n d i : Nat) (h : i < 8 ^ n) (hd : d < 8) : d8 (8 ^ n * d + i) n = d := by
  unfold d8
  rw [Nat.add_comm, Nat.add_mul_div_left _ _ (Nat.pow_pos (by omega)), Nat.div_eq_of_lt h, Nat.zero_add, Nat.mod_eq_of_lt hd]
/-- By how much a thing of a level counts for more, or less, than once. -/
def coef (l d : Nat) : Int := (if lev l ≤ (d : Int) * 9007199254740992 then 2 ^ l else 0) - 1
theorem coef_one : ∀ l, l < 4 → sumT (fun d => coef l d) 8 = 0 := by decide +kernel
theorem coef_two : ∀ l, l < 4 → sumT (fun d => coef l d * coef l d) 8 = 8 * (2 ^ l - 1) := by decide +kernel
theorem est1_coef (v l : Int) (d : Nat) : est1 v l ((d : Int) * 9007199254740992) - v = v * coef l.toNat d := by
  unfold est1 coef
  split
  · rw [Int.mul_sub, Int.mul_one]
  · simp
/-- By how much the estimate of the first n is off. -/
def dev (vs ls : List Int) : Nat → Nat → Int
  | 0, _ => 0
  | n + 1, t => dev vs ls n t + gi vs n * coef (gi ls n).toNat (d8 t n)
theorem dev_low (vs ls : List Int) (n d i : Nat) : ∀ m, m ≤ n → dev vs ls m (8 ^ n * d + i) = dev vs ls m i
  | 0, _ => rfl
  | m + 1, h => by simp only [dev]; rw [dev_low vs ls n d i m (by omega), d8_low n d i m (by omega)]
theorem dev_sum (vs ls : List Int) : ∀ n, (∀ i, i < n → 0 ≤ gi ls i ∧ gi ls i ≤ 3) → sumT (dev vs ls n) (8 ^ n) = 0 ∧ sumT (fun t => dev vs ls n t * dev vs ls n t) (8 ^ n) = ((8 ^ n : Nat) : Int) * sprS vs ls n
  | 0, _ => by simp [sumT, dev, sprS]
  | n + 1, h => by
    obtain ⟨h1, h2⟩ := dev_sum vs ls n (fun i hi => h i (by omega))
    have hl := h n (by omega)
    have c1 := coef_one (gi ls n).toNat (by omega)
    have c2 := coef_two (gi ls n).toNat (by omega)
    rw [Nat.pow_succ, sumT_mul, sumT_mul]
    have e : ∀ d, d < 8 → ∀ i, i < 8 ^ n → dev vs ls (n + 1) (8 ^ n * d + i) = dev vs ls n i + gi vs n * coef (gi ls n).toNat d := fun d hd i hi => by
      simp only [dev]
      rw [dev_low vs ls n d i n (Nat.le_refl _), d8_top n d i hi hd]
    constructor
    · rw [sumT_congr (g := fun d => ((8 ^ n : Nat) : Int) * gi vs n * coef (gi ls n).toNat d) (fun d hd => by
        rw [sumT_congr (g := fun i => dev vs ls n i + gi vs n * coef (gi ls n).toNat d) (fun i hi => e d hd i hi), sumT_add, sumT_const, h1, Int.zero_add, Int.mul_assoc]), sumT_scale, c1, Int.mul_zero]
    · rw [sumT_congr (g := fun d => ((8 ^ n : Nat) : Int) * sprS vs ls n + ((8 ^ n : Nat) : Int) * (gi vs n * gi vs n) * (coef (gi ls n).toNat d * coef (gi ls n).toNat d)) (fun d hd => by
        generalize hc : gi vs n * coef (gi ls n).toNat d = c at e
        rw [sumT_congr (g := fun i => (dev vs ls n i * dev vs ls n i + (2 * c) * dev vs ls n i) + c * c) (fun i hi => by
          rw [e d hd i hi, ← hc]
          generalize gi vs n * coef (gi ls n).toNat d = c
          generalize dev vs ls n i = x
          rw [Int.add_mul, Int.mul_add, Int.mul_add, Int.mul_comm x c, Int.mul_assoc 2 c x]
          omega)]
        rw [sumT_add, sumT_add, sumT_scale, sumT_const, h1, h2, Int.mul_zero, Int.add_zero, ← hc]
        congr 1
        ac_rfl)]
      rw [sumT_add, sumT_const, sumT_scale, c2]
      simp only [sprS, spr1]
      rw [Int.natCast_mul]
      generalize ((8 ^ n : Nat) : Int) = P
      generalize (2 : Int) ^ (gi ls n).toNat - 1 = q
      rw [Int.mul_add]
      congr 1
      · show (8 : Int) * _ = _
        ac_rfl
      · show _ = P * ((8 : Nat) : Int) * _
        ac_rfl
/-- The draws of a way. -/
def drawsOf (w8 : List Int) (n : Nat) : List Int := tab (fun j => gi w8 j * 9007199254740992) n
theorem estS_dev (vs ls : List Int) (n t : Nat) : ∀ k, k ≤ n → estS vs ls (drawsOf (tab (fun j => (d8 t j : Int)) n) n) k - sumK vs k = dev vs ls k t
  | 0, _ => rfl
  | k + 1, h => by
    have ih := estS_dev vs ls n t k (by omega)
    have e := est1_coef (gi vs k) (gi ls k) (d8 t k)
    simp only [estS, sumK, dev]
    unfold drawsOf at *
    rw [tab_gi _ _ _ (by omega), tab_gi _ _ _ (by omega)]
    omega
end Go.Proofs.Ytboacbimmggleaa
