/- Contract of span.Whole at spans that may be: what the call returns, and that old memory stays as it is. -/
import Derived.Test.YtdfghgeccannnaaDoorMgSpan
namespace Go.Proofs.YtdfghgeccannnaaDoor
open Go.ChangeShapes Go.WideShapes Go.ChangeAt Go.RowKit
set_option maxRecDepth 20000

/-- Is the parent of i kept, if i is? -/
def wh1 (us : List Int) (ks : List Bool) (i : Nat) : Bool := !(gb ks i && decide (0 ≤ gi us i) && !gb ks (gi us i).toNat)
/-- Is what is kept whole? -/
def wholeB (us : List Int) (ks : List Bool) (n : Nat) : Bool := (List.range n).all (wh1 us ks)
theorem wholeB_true (us : List Int) (ks : List Bool) (n : Nat) (h : ∀ i, i < n → wh1 us ks i = true) : wholeB us ks n = true := by
  unfold wholeB; rw [List.all_eq_true]; intro i hi; exact h i (List.mem_range.1 hi)
theorem wholeB_false (us : List Int) (ks : List Bool) (n i : Nat) (hi : i < n) (h : wh1 us ks i = false) : wholeB us ks n = false := by
  unfold wholeB; rw [List.all_eq_false]; exact ⟨i, List.mem_range.2 hi, by rw [h]; simp⟩
theorem wholeB_iff (us : List Int) (ks : List Bool) (n : Nat) : wholeB us ks n = true ↔ ∀ i, i < n → wh1 us ks i = true := by
  unfold wholeB; rw [List.all_eq_true]
  exact ⟨fun h i hi => h i (List.mem_range.2 hi), fun h i hi => h i (List.mem_range.1 hi)⟩

set_option maxHeartbeats 4000000 in
theorem whole_c (a a' : Option Addr) (n c c' : Nat) (us ls : List Int) (ks : List Bool) (w : World) (h : SpansAt w a n c us ls) (h' : BoolsAt w a' n c' ks) (hn : n ≤ 40) (hok : SpansOk n us ls) :
    Calls Tryd.prog 13 #[.slice a n c, .slice a' n c'] w fun e w' => e = .returned (.tuple #[.bool (wholeB us ks n), .int .i64 0]) ∧ Below w.heap.size w w' := by
  have CH := hidp (scheck_c a n c us ls w h hn hok)
  have OK := hidp hok
  clear hok
  have m := h.max
  have l := h.le
  have m' := h'.max
  have l' := h'.le
  rcases Nat.eq_zero_or_pos n with hz | hz
  · subst hz
    clear h h'
    go_enter Tryd.func13, Tryd.ntmps13
    go_wp2_with fail
    refine CH.out.mono ?_
    rintro e wa ⟨rfl, hba⟩
    go_wp2_with fail
    refine wp_loop_rounds 1 ?_; rw [rounds_succ]
    go_wp2
    go_ret2
    exact ⟨rfl, hba⟩
  · obtain ⟨b, o, rfl, hb, hc⟩ := h.cells hz
    obtain ⟨b', o', rfl, hb', hc'⟩ := h'.cells hz
    have C := hidp hc
    have C' := hidp hc'
    clear hc hc' h h'
    go_enter Tryd.func13, Tryd.ntmps13
    go_wp2_with fail
    refine CH.out.mono ?_
    rintro e wa ⟨rfl, hba⟩
    go_wp2_with fail
    go_loopw [21] (fun i wr => ∃ k : Nat, k ≤ n ∧ i = .int .i64 k ∧ Hid (∀ j, j < k → wh1 us ks j = true) ∧ Below w.heap.size w wr) (fun i _ => n - (intOf i).toNat)
    case atStart => exact ⟨0, by omega, rfl, fun j hj => by omega, hba⟩
    case round =>
      obtain ⟨k, hk, rfl, hall, hbl⟩ := hrel
      have hsz := hbl.size
      by_cases hlt : k < n
      · have q0 := carry_cell ⟨hb, (C.out k hlt).1⟩ hbl
        have q1 := carry_cell ⟨hb, (C.out k hlt).2⟩ hbl
        have q2 := carry_cell ⟨hb', C'.out k hlt⟩ hbl
        obtain ⟨p1, p2, p3, p4⟩ := OK.out k hlt
        have hbw : b' < wr.heap.size := by omega
        by_cases hx : gb ks k = true
        · by_cases hu : 0 ≤ gi us k
          · obtain ⟨j, hj⟩ := Int.eq_ofNat_of_zero_le hu
            have q3 := carry_cell ⟨hb', C'.out j (by omega)⟩ hbl
            by_cases hy : gb ks j = true
            · have HW := hidp (show wh1 us ks k = true by unfold wh1; rw [hj]; simp [hy])
              rw [hj] at q0
              rw [hx] at q2
              rw [hy] at q3
              rw [hj] at p1 p2 hu
              have HJ := hidp hj
              clear hj hx hy
              go_wp2
              go_roundw
              case rel => exact ⟨k + 1, by omega, by go_num, fun i hi => by
                by_cases h : i < k
                · exact hall.out i h
                · obtain rfl : i = k := by omega
                  exact HW.out, hbl.alloc hsz _⟩
              case measure => simp [intOf]; omega
            · have hy' : gb ks j = false := by simpa using hy
              have HW := hidp (wholeB_false us ks n k hlt (by unfold wh1; rw [hj, hx]; simp [hy']))
              rw [hj] at q0
              rw [hx] at q2
              rw [hy'] at q3
              rw [hj] at p1 p2 hu
              have HJ := hidp hj
              clear hj hx hy hy'
              go_wp2
              go_ret2
              exact ⟨ret_tup2 (v_bool HW.out.symm) rfl, hbl.alloc hsz _⟩
          · have HW := hidp (show wh1 us ks k = true by unfold wh1; simp [hu])
            rw [hx] at q2
            clear hx
            go_wp2
            go_roundw
            case rel => exact ⟨k + 1, by omega, by go_num, fun i hi => by
              by_cases h : i < k
              · exact hall.out i h
              · obtain rfl : i = k := by omega
                exact HW.out, hbl.alloc hsz _⟩
            case measure => simp [intOf]; omega
        · have hx' : gb ks k = false := by simpa using hx
          have HW := hidp (show wh1 us ks k = true by unfold wh1; simp [hx'])
          rw [hx'] at q2
          clear hx hx'
          go_wp2
          go_roundw
          case rel => exact ⟨k + 1, by omega, by go_num, fun i hi => by
            by_cases h : i < k
            · exact hall.out i h
            · obtain rfl : i = k := by omega
              exact HW.out, hbl.alloc hsz _⟩
          case measure => simp [intOf]; omega
      · obtain rfl : k = n := by omega
        have HW := hidp (wholeB_true us ks k hall.out)
        go_wp2
        go_ret2
        exact ⟨ret_tup2 (v_bool HW.out.symm) rfl, hbl⟩
end Go.Proofs.YtdfghgeccannnaaDoor
