/- Merged: Lev, Est. -/
import Derived.Test.YtfhmckmglkjbeaaBase
import Derived.Test.YtfhmckmglkjbeaaMem
import Derived.Deep.QuietTactic
import Derived.BigQuiet
import Derived.WalkSmall
/- The threshold of a level, as a number (plain Lean). -/
namespace Go.Proofs.Ytfhmckmglkjbeaa

def lev (n : Nat) : Int := 72057594037927936 - 72057594037927936 / 2 ^ n
theorem lev_nat (n : Nat) : lev n = 72057594037927936 - ((72057594037927936 / 2 ^ n : Nat) : Int) := by
  unfold lev; rw [Int.natCast_ediv, Int.natCast_pow]; rfl
theorem lev_lo (n : Nat) : 0 ≤ lev n := by
  unfold lev
  have : (72057594037927936 : Int) / 2 ^ n ≤ 72057594037927936 := Int.ediv_le_self _ (by omega)
  omega
theorem lev_hi (n : Nat) : lev n ≤ 72057594037927936 := by
  unfold lev
  have : 0 ≤ (72057594037927936 : Int) / 2 ^ n := Int.ediv_nonneg (by omega) (Int.le_of_lt (Int.pow_pos (by omega)))
  omega
end Go.Proofs.Ytfhmckmglkjbeaa

/- Contracts of est.look and est.Sum at lists that fit: what each call returns, and that old memory stays as it is. -/
namespace Go.Proofs.Ytfhmckmglkjbeaa
open Go.ChangeShapes Go.WideShapes Go.ChangeAt Go.RowKit
set_option maxRecDepth 20000

theorem look_ok (a0 a1 : Option Addr) (n c0 c1 : Nat) (vs ls : List Int) (w : World) (h0 : IntsAt w a0 n c0 vs) (h1 : IntsAt w a1 n c1 ls) (hn : n ≤ 40)
    (hv : ∀ i, i < n → -1000000000000 ≤ gi vs i ∧ gi vs i ≤ 1000000000000) (hl : ∀ i, i < n → 0 ≤ gi ls i ∧ gi ls i ≤ 20) :
    Calls Try.prog 44 #[.slice a0 n c0, .slice a1 n c1] w fun e w' => e = .returned (.int .i64 0) ∧ w = w' := by
  have HV := hidp hv
  have HL := hidp hl
  clear hv hl
  rcases Nat.eq_zero_or_pos n with hz | hz
  · subst hz
    go_enter Try.func44, Try.ntmps44
    go_wp2_with fail
    refine wp_loop_rounds 1 ?_; rw [rounds_succ]
    go_wp2
    go_ret
    exact ⟨rfl, rfl⟩
  · obtain ⟨b0, o0, rfl, hb0, hc0⟩ := h0.addr hz
    obtain ⟨b1, o1, rfl, hb1, hc1⟩ := h1.addr hz
    have C0 := hidp hc0
    have C1 := hidp hc1
    clear hc0 hc1 h0 h1
    go_enter Try.func44, Try.ntmps44
    go_wp2_with fail
    go_loop [22] (fun i => ∃ k : Nat, k ≤ n ∧ i = .int .i64 k) (fun i => n - (intOf i).toNat)
    case atStart => exact ⟨0, by omega, rfl⟩
    case round =>
      obtain ⟨k, hk, rfl⟩ := hrel
      by_cases hlt : k < n
      · have q0 := C0.out k hlt
        have q1 := C1.out k hlt
        have q2 := HV.out k hlt
        have q3 := HL.out k hlt
        obtain ⟨q4, q5⟩ := q2
        obtain ⟨q6, q7⟩ := q3
        go_wp2
        go_round
        case rel => exact ⟨k + 1, by omega, by go_num⟩
        case measure => simp [intOf]; omega
      · go_wp2
        go_ret
        exact ⟨rfl, rfl⟩

theorem two_pow_le (m : Nat) (hm : m ≤ 20) : (2 : Int) ^ m ≤ 1048576 := by
  have this : ((2 ^ m : Nat) : Int) ≤ ((1048576 : Nat) : Int) := Int.ofNat_le.2 (Nat.pow_le_pow_right (show 0 < 2 by omega) hm)
  rw [Int.natCast_pow] at this
  exact this
/-- One term of the estimate. -/
def est1 (v l r : Int) : Int := if lev l.toNat ≤ r then v * 2 ^ l.toNat else 0
/-- The estimate of the first k. -/
def estS (vs ls rs : List Int) : Nat → Int
  | 0 => 0
  | k + 1 => estS vs ls rs k + est1 (gi vs k) (gi ls k) (gi rs k)
theorem est1_bd (B v l r : Int) (hl : 0 ≤ l ∧ l ≤ 20) (hv : -B ≤ v ∧ v ≤ B) : -(B * 1048576) ≤ est1 v l r ∧ est1 v l r ≤ B * 1048576 := by
  unfold est1
  have hB : 0 ≤ B := by omega
  split
  · obtain ⟨m, rfl⟩ := Int.eq_ofNat_of_zero_le hl.1
    have e : ((m : Int)).toNat = m := rfl
    rw [e]
    have hm : m ≤ 20 := by omega
    have h2 : (2 : Int) ^ m ≤ 1048576 := by
      have this : ((2 ^ m : Nat) : Int) ≤ ((1048576 : Nat) : Int) := Int.ofNat_le.2 (Nat.pow_le_pow_right (show 0 < 2 by omega) hm)
      rw [Int.natCast_pow] at this
      exact this
    have h3 : (0 : Int) ≤ 2 ^ m := Int.le_of_lt (Int.pow_pos (by omega))
    have x1 : v * 2 ^ m ≤ B * 2 ^ m := Int.mul_le_mul_of_nonneg_right hv.2 h3
    have x2 : B * 2 ^ m ≤ B * 1048576 := Int.mul_le_mul_of_nonneg_left h2 hB
    have x3 : -B * 2 ^ m ≤ v * 2 ^ m := Int.mul_le_mul_of_nonneg_right hv.1 h3
    rw [Int.neg_mul] at x3
    omega
  · omega
theorem estS_bd (B : Int) (vs ls rs : List Int) (hB : 0 ≤ B) : ∀ k, (∀ i, i < k → (0 ≤ gi ls i ∧ gi ls i ≤ 20) ∧ -B ≤ gi vs i ∧ gi vs i ≤ B) → -(B * 1048576 * k) ≤ estS vs ls rs k ∧ estS vs ls rs k ≤ B * 1048576 * k
  | 0, _ => by
    simp only [estS]
    rw [show ((0 : Nat) : Int) = 0 from rfl, Int.mul_zero]
    exact ⟨by omega, by omega⟩
  | k + 1, h => by
    have a := estS_bd B vs ls rs hB k (fun i hi => h i (by omega))
    have b := est1_bd B (gi vs k) (gi ls k) (gi rs k) (h k (by omega)).1 (h k (by omega)).2
    have e : B * 1048576 * ((k + 1 : Nat) : Int) = B * 1048576 * k + B * 1048576 := by rw [Int.natCast_add, Int.mul_add]; simp
    rw [e]
    simp only [estS]
    omega

set_option maxHeartbeats 2000000 in
theorem sum_ok (a0 a1 a2 : Option Addr) (n c0 c1 c2 : Nat) (vs ls rs : List Int) (w : World) (h0 : IntsAt w a0 n c0 vs) (h1 : IntsAt w a1 n c1 ls) (h2 : IntsAt w a2 n c2 rs) (hn : n ≤ 40)
    (hv : ∀ i, i < n → -1000000 ≤ gi vs i ∧ gi vs i ≤ 1000000) (hl : ∀ i, i < n → 0 ≤ gi ls i ∧ gi ls i ≤ 20) (hr : ∀ i, i < n → 0 ≤ gi rs i ∧ gi rs i < 72057594037927936) :
    Calls Try.prog 19 #[.slice a0 n c0, .slice a1 n c1, .slice a2 n c2] w fun e w' => e = .returned (.tuple #[.int .i64 (estS vs ls rs n), .int .i64 0]) ∧ Below w.heap.size w w' := by
  have CL := hidp (look_ok a0 a1 n c0 c1 vs ls w h0 h1 hn (fun i hi => ⟨by have := hv i hi; omega, by have := hv i hi; omega⟩) hl)
  have HB := hidp (fun k (hk : k ≤ n) => estS_bd 1000000 vs ls rs (by omega) k (fun i hi => ⟨hl i (by omega), hv i (by omega)⟩))
  have HV := hidp hv
  have HL := hidp hl
  have HR := hidp hr
  clear hv hl hr
  rcases Nat.eq_zero_or_pos n with hz | hz
  · subst hz
    go_enter Try.func19, Try.ntmps19
    go_wp2_with fail
    refine CL.out.mono ?_; rintro e w' ⟨rfl, rfl⟩
    go_wp2_with fail
    refine wp_loop_rounds 1 ?_; rw [rounds_succ]
    go_wp2
    go_ret2
    exact ⟨rfl, Below.refl _ _⟩
  · obtain ⟨b0, o0, rfl, hb0, hc0⟩ := h0.addr hz
    obtain ⟨b1, o1, rfl, hb1, hc1⟩ := h1.addr hz
    obtain ⟨b2, o2, rfl, hb2, hc2⟩ := h2.addr hz
    have C0 := hidp hc0
    have C1 := hidp hc1
    have C2 := hidp hc2
    clear hc0 hc1 hc2 h0 h1 h2
    go_enter Try.func19, Try.ntmps19
    go_wp2_with fail
    refine CL.out.mono ?_; rintro e w' ⟨rfl, rfl⟩
    go_wp2_with fail
    go_loopw [9, 25] (fun s i wr => ∃ k : Nat, k ≤ n ∧ i = .int .i64 k ∧ s = .int .i64 (estS vs ls rs k) ∧ Below w.heap.size w wr) (fun _ i _ => n - (intOf i).toNat)
    case atStart => exact ⟨0, by omega, rfl, rfl, Below.refl _ _⟩
    case round =>
      obtain ⟨k, hk, rfl, rfl, hbl⟩ := hrel
      have B1 := HB.out k hk
      by_cases hlt : k < n
      · have q0 := carry_cell ⟨hb0, C0.out k hlt⟩ hbl
        have q1 := carry_cell ⟨hb1, C1.out k hlt⟩ hbl
        have q2 := carry_cell ⟨hb2, C2.out k hlt⟩ hbl
        obtain ⟨q3, q4⟩ := HV.out k hlt
        obtain ⟨q5, q6⟩ := HL.out k hlt
        obtain ⟨q7, q8⟩ := HR.out k hlt
        have q9 := lev_lo (gi ls k).toNat
        have q10 := lev_hi (gi ls k).toNat
        have EST : estS vs ls rs (k + 1) = estS vs ls rs k + est1 (gi vs k) (gi ls k) (gi rs k) := rfl
        have B2 := HB.out (k + 1) (by omega)
        have B3 : ((k + 1 : Nat) : Int) ≤ 40 := by omega
        have E2 := hidp EST
        have B4 : -41943040000000 ≤ estS vs ls rs (k + 1) ∧ estS vs ls rs (k + 1) ≤ 41943040000000 := by omega
        have B5 : -41943040000000 ≤ estS vs ls rs k ∧ estS vs ls rs k ≤ 41943040000000 := by omega
        obtain ⟨B6, B7⟩ := B5
        rw [EST] at B4
        clear B1 B2 EST
        by_cases hkp : lev (gi ls k).toNat ≤ gi rs k
        · have p0 : est1 (gi vs k) (gi ls k) (gi rs k) = gi vs k * 2 ^ (gi ls k).toNat := by unfold est1; rw [if_pos hkp]
          have p1 := est1_bd 1000000 (gi vs k) (gi ls k) (gi rs k) ⟨q5, q6⟩ ⟨q3, q4⟩
          have p2 : (0 : Int) ≤ 2 ^ (gi ls k).toNat := Int.le_of_lt (Int.pow_pos (by omega))
          have p3 : (2 : Int) ^ (gi ls k).toNat ≤ 1048576 := two_pow_le _ (by omega)
          rw [p0] at B4 p1
          obtain ⟨B4a, B4b⟩ := B4
          obtain ⟨p1a, p1b⟩ := p1
          have P0 := hidp p0
          clear p0
          unfold lev at q9 q10 hkp
          go_wp2_with fail
          go_quiet (fail)
          go_wp2
          go_roundw
          case rel => exact ⟨k + 1, by omega, by go_num, v_int (by rw [E2.out, P0.out]), below_drewN hbl _⟩
          case measure => simp [intOf]; omega
        · have p0 : est1 (gi vs k) (gi ls k) (gi rs k) = 0 := by unfold est1; rw [if_neg hkp]
          have P0 := hidp p0
          clear p0
          unfold lev at q9 q10 hkp
          go_wp2
          go_roundw
          case rel => exact ⟨k + 1, by omega, by go_num, v_int (by rw [E2.out, P0.out, Int.add_zero]), hbl⟩
          case measure => simp [intOf]; omega
      · obtain rfl : k = n := by omega
        go_wp2
        go_ret2
        exact ⟨rfl, hbl⟩
end Go.Proofs.Ytfhmckmglkjbeaa
