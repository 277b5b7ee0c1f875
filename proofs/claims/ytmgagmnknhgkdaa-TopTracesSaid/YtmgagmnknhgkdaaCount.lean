/- Contract of span.Count at spans that may be: what the call returns, and that old memory stays as it is. -/
import Derived.Test.YtmgagmnknhgkdaaSpan
namespace Go.Proofs.Ytmgagmnknhgkdaa
open Go.ChangeShapes Go.WideShapes Go.ChangeAt Go.RowKit
set_option maxRecDepth 20000

/-- What the first k that are kept stand for. -/
def cntS (ls : List Int) (ks : List Bool) : Nat → Int
  | 0 => 0
  | k + 1 => cntS ls ks k + if gb ks k then 2 ^ (gi ls k).toNat else 0
theorem pow20 (m : Nat) (hm : m ≤ 20) : (1 : Int) ≤ 2 ^ m ∧ (2 : Int) ^ m ≤ 1048576 := by
  have h1 : ((2 ^ m : Nat) : Int) ≤ ((1048576 : Nat) : Int) := Int.ofNat_le.2 (Nat.pow_le_pow_right (show 0 < 2 by omega) hm)
  rw [Int.natCast_pow] at h1
  have h2 : (0 : Int) < 2 ^ m := Int.pow_pos (by omega)
  exact ⟨by omega, h1⟩
theorem cntS_bd (ls : List Int) (ks : List Bool) : ∀ k, (∀ i, i < k → 0 ≤ gi ls i ∧ gi ls i ≤ 20) → 0 ≤ cntS ls ks k ∧ cntS ls ks k ≤ 1048576 * k
  | 0, _ => by simp only [cntS]; exact ⟨by omega, by omega⟩
  | k + 1, h => by
    have a := cntS_bd ls ks k (fun i hi => h i (by omega))
    have b := h k (by omega)
    have c := pow20 (gi ls k).toNat (by omega)
    simp only [cntS]
    split <;> omega

set_option maxHeartbeats 1000000 in
theorem count_c (a a' : Option Addr) (n c c' : Nat) (us ls : List Int) (ks : List Bool) (w : World) (h : SpansAt w a n c us ls) (h' : BoolsAt w a' n c' ks) (hn : n ≤ 40) (hok : SpansOk n us ls) :
    Calls Try.prog 42 #[.slice a n c, .slice a' n c'] w fun e w' => e = .returned (.tuple #[.int .i64 (cntS ls ks n), .int .i64 0]) ∧ Below w.heap.size w w' := by
  have CH := hidp (scheck_c a n c us ls w h hn hok)
  have HB := hidp (fun k (hk : k ≤ n) => cntS_bd ls ks k (fun i hi => by have := hok i (by omega); omega))
  have OK := hidp hok
  clear hok
  have m := h.max
  have l := h.le
  have m' := h'.max
  have l' := h'.le
  rcases Nat.eq_zero_or_pos n with hz | hz
  · subst hz
    clear h h'
    go_enter Try.func42, Try.ntmps42
    go_wp2_with fail
    refine CH.out.mono ?_
    rintro e wa ⟨rfl, hba⟩
    go_wp2_with fail
    refine wp_loop_rounds 1 ?_; rw [rounds_succ]
    go_wp2
    go_ret2
    exact ⟨rfl, hba⟩
  · obtain ⟨b, o, rfl, hb, hc⟩ := h.cells hz
    obtain ⟨b', o', rfl, hb', hc'⟩ := h'.cells hz
    have C := hidp hc
    have C' := hidp hc'
    clear hc hc' h h'
    go_enter Try.func42, Try.ntmps42
    go_wp2_with fail
    refine CH.out.mono ?_
    rintro e wa ⟨rfl, hba⟩
    go_wp2_with fail
    go_loopw [7, 22] (fun s i wr => ∃ k : Nat, k ≤ n ∧ i = .int .i64 k ∧ s = .int .i64 (cntS ls ks k) ∧ Below w.heap.size w wr) (fun _ i _ => n - (intOf i).toNat)
    case atStart => exact ⟨0, by omega, rfl, rfl, hba⟩
    case round =>
      obtain ⟨k, hk, rfl, rfl, hbl⟩ := hrel
      have hsz := hbl.size
      obtain ⟨B1, B2⟩ := HB.out k hk
      by_cases hlt : k < n
      · have q0 := carry_cell ⟨hb, (C.out k hlt).1⟩ hbl
        have q1 := carry_cell ⟨hb, (C.out k hlt).2⟩ hbl
        have q2 := carry_cell ⟨hb', C'.out k hlt⟩ hbl
        obtain ⟨p1, p2, p3, p4⟩ := OK.out k hlt
        have hbw : b' < wr.heap.size := by omega
        obtain ⟨c1, c2⟩ := pow20 (gi ls k).toNat (by omega)
        cases hx : gb ks k
        · have E := hidp (show cntS ls ks (k + 1) = cntS ls ks k by simp only [cntS]; rw [hx]; simp)
          rw [hx] at q2
          clear hx
          go_wp2
          go_roundw
          case rel => exact ⟨k + 1, by omega, by go_num, v_int E.out.symm, hbl.alloc hsz _⟩
          case measure => simp [intOf]; omega
        · have E := hidp (show cntS ls ks (k + 1) = cntS ls ks k + 2 ^ (gi ls k).toNat by simp only [cntS]; rw [hx]; simp)
          rw [hx] at q2
          clear hx
          go_wp2
          go_roundw
          case rel => exact ⟨k + 1, by omega, by go_num, v_int E.out.symm, hbl.alloc hsz _⟩
          case measure => simp [intOf]; omega
      · obtain rfl : k = n := by omega
        go_wp2
        go_ret2
        exact ⟨rfl, hbl⟩
end Go.Proofs.Ytmgagmnknhgkdaa
