/- Contract of est.Spread at values that are not too great: what the call returns, and that memory stays as it is. -/
import Derived.Test.YtboacbimmggleaaEst
namespace Go.Proofs.Ytboacbimmggleaa
open Go.ChangeShapes Go.WideShapes Go.ChangeAt Go.RowKit

/-- One term of the spread. -/
def spr1 (v l : Int) : Int := v * v * (2 ^ l.toNat - 1)
def sprS (vs ls : List Int) : Nat → Int
  | 0 => 0
  | k + 1 => sprS vs ls k + spr1 (gi vs k) (gi ls k)
theorem sq_bd (v : Int) (h : -100000 ≤ v ∧ v ≤ 100000) : 0 ≤ v * v ∧ v * v ≤ 10000000000 := by
  have e : v * v = (v.natAbs : Int) * (v.natAbs : Int) := by rw [← Int.natCast_mul, Int.natAbs_mul_self]
  rw [e]
  exact ⟨Int.mul_nonneg (by omega) (by omega), mul_le_cast (A := 100000) (B := 100000) (by omega) (by omega)⟩
theorem spr1_bd (v l : Int) (h : -100000 ≤ v ∧ v ≤ 100000) (hl : 0 ≤ l ∧ l ≤ 20) : 0 ≤ spr1 v l ∧ spr1 v l ≤ 10485750000000000 := by
  unfold spr1
  have a := sq_bd v h
  have b := two_pow_le l.toNat (by omega)
  have c : (1 : Int) ≤ 2 ^ l.toNat := by have : (0 : Int) < 2 ^ l.toNat := Int.pow_pos (by omega); omega
  generalize v * v = s at *
  generalize (2 : Int) ^ l.toNat = p at *
  obtain ⟨m, rfl⟩ := Int.eq_ofNat_of_zero_le a.1
  obtain ⟨q, hq⟩ := Int.eq_ofNat_of_zero_le (show 0 ≤ p - 1 by omega)
  rw [hq]
  exact ⟨Int.mul_nonneg (by omega) (by omega), mul_le_cast (A := 10000000000) (B := 1048575) (by omega) (by omega)⟩
theorem sprS_bd (vs ls : List Int) : ∀ k, (∀ i, i < k → (-100000 ≤ gi vs i ∧ gi vs i ≤ 100000) ∧ 0 ≤ gi ls i ∧ gi ls i ≤ 20) → 0 ≤ sprS vs ls k ∧ sprS vs ls k ≤ 10485750000000000 * k
  | 0, _ => by simp only [sprS]; exact ⟨by omega, by omega⟩
  | k + 1, h => by
    have a := sprS_bd vs ls k (fun i hi => h i (by omega))
    have b := spr1_bd (gi vs k) (gi ls k) (h k (by omega)).1 (h k (by omega)).2
    simp only [sprS]
    omega

set_option maxHeartbeats 2000000 in
theorem spread_c (a0 a1 : Option Addr) (n c0 c1 : Nat) (vs ls : List Int) (w : World) (h0 : IntsAt w a0 n c0 vs) (h1 : IntsAt w a1 n c1 ls) (hn : n ≤ 40)
    (hv : ∀ i, i < n → -100000 ≤ gi vs i ∧ gi vs i ≤ 100000) (hl : ∀ i, i < n → 0 ≤ gi ls i ∧ gi ls i ≤ 20) :
    Calls Try.prog 23 #[.slice a0 n c0, .slice a1 n c1] w fun e w' => e = .returned (.tuple #[.int .i64 (sprS vs ls n), .int .i64 0]) ∧ w = w' := by
  have CL := hidp (look_ok a0 a1 n c0 c1 vs ls w h0 h1 hn (fun i hi => ⟨by have := hv i hi; omega, by have := hv i hi; omega⟩) hl)
  have HB := hidp (fun k (hk : k ≤ n) => sprS_bd vs ls k (fun i hi => ⟨hv i (by omega), hl i (by omega)⟩))
  have HV := hidp hv
  have HL := hidp hl
  clear hv hl
  rcases Nat.eq_zero_or_pos n with hz | hz
  · subst hz
    go_enter Try.func23, Try.ntmps23
    go_wp2_with fail
    refine CL.out.mono ?_; rintro e w' ⟨rfl, rfl⟩
    go_wp2_with fail
    refine wp_loop_rounds 1 ?_; rw [rounds_succ]
    go_wp2_with fail
    refine wp_loop_rounds 1 ?_; rw [rounds_succ]
    go_wp2
    go_ret2
    exact ⟨rfl, rfl⟩
  · obtain ⟨b0, o0, rfl, hb0, hc0⟩ := h0.addr hz
    obtain ⟨b1, o1, rfl, hb1, hc1⟩ := h1.addr hz
    have C0 := hidp hc0
    have C1 := hidp hc1
    clear hc0 hc1 h0 h1
    go_enter Try.func23, Try.ntmps23
    go_wp2_with fail
    refine CL.out.mono ?_; rintro e w' ⟨rfl, rfl⟩
    go_wp2_with fail
    go_loop [20] (fun i => ∃ k : Nat, k ≤ n ∧ i = .int .i64 k) (fun i => n - (intOf i).toNat)
    case atStart => exact ⟨0, by omega, rfl⟩
    case round =>
      obtain ⟨k, hk, rfl⟩ := hrel
      by_cases hlt : k < n
      · have q0 := C0.out k hlt
        obtain ⟨q2, q3⟩ := HV.out k hlt
        go_wp2
        go_round
        case rel => exact ⟨k + 1, by omega, by go_num⟩
        case measure => simp [intOf]; omega
      · go_wp2_with fail
        go_loop [9, 33] (fun s i => ∃ k : Nat, k ≤ n ∧ i = .int .i64 k ∧ s = .int .i64 (sprS vs ls k)) (fun _ i => n - (intOf i).toNat)
        case atStart => exact ⟨0, by omega, rfl, rfl⟩
        case round =>
          obtain ⟨k, hk, rfl, rfl⟩ := hrel
          obtain ⟨B1, B2⟩ := HB.out k hk
          by_cases hlt : k < n
          · have q0 := C0.out k hlt
            have q1 := C1.out k hlt
            have q2 := HV.out k hlt
            have q4 := HL.out k hlt
            obtain ⟨s1, s2⟩ := sq_bd (gi vs k) q2
            have s3 := two_pow_le (gi ls k).toNat (by omega)
            have s4 : (1 : Int) ≤ 2 ^ (gi ls k).toNat := by have : (0 : Int) < 2 ^ (gi ls k).toNat := Int.pow_pos (by omega); omega
            obtain ⟨s5, s6⟩ := spr1_bd (gi vs k) (gi ls k) q2 q4
            have E := hidp (show sprS vs ls (k + 1) = sprS vs ls k + gi vs k * gi vs k * (2 ^ (gi ls k).toNat - 1) from rfl)
            unfold spr1 at s5 s6
            obtain ⟨q2, q3⟩ := q2
            obtain ⟨q4, q5⟩ := q4
            go_wp2
            go_round
            case rel => exact ⟨k + 1, by omega, by go_num, v_int E.out.symm⟩
            case measure => simp [intOf]; omega
          · obtain rfl : k = n := by omega
            go_wp2
            go_ret2
            exact ⟨rfl, rfl⟩
end Go.Proofs.Ytboacbimmggleaa
