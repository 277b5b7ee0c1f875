/- Contract of slices.Equal at truth values: whether two lists are the same. -/
import Derived.Test.YtdfghgeccannnaaDoorMem
import Derived.Deep.QuietTactic
import Derived.BigQuiet
import Derived.WalkSmall
namespace Go.Proofs.YtdfghgeccannnaaDoor
open Go.ChangeShapes Go.WideShapes Go.ChangeAt Go.RowKit
set_option maxRecDepth 20000

theorem gb_ext (xs ys : List Bool) (h : xs.length = ys.length) (hg : ∀ j, j < xs.length → gb xs j = gb ys j) : xs = ys := by
  apply List.ext_getElem h
  intro i h1 h2
  have := hg i h1
  unfold gb at this
  rw [List.getD_eq_getElem?_getD, List.getD_eq_getElem?_getD, List.getElem?_eq_getElem h1, List.getElem?_eq_getElem h2] at this
  exact this

theorem equalb_c (a1 a2 : Option Addr) (n m c1 c2 : Nat) (xs ys : List Bool) (w : World) (h1 : BoolsAt w a1 n c1 xs) (h2 : BoolsAt w a2 m c2 ys) :
    Calls Tryd.prog 33 #[.slice a1 n c1, .slice a2 m c2] w fun e w' => e = .returned (.bool (decide (xs = ys))) ∧ Below w.heap.size w w' := by
  have l1 := h1.len
  have l2 := h2.len
  have m1 := h1.max
  have m2 := h2.max
  have e1 := h1.le
  have e2 := h2.le
  by_cases hnm : n = m
  · subst hnm
    rcases Nat.eq_zero_or_pos n with hz | hz
    · subst hz
      have hd : decide (xs = ys) = true := by
        rw [List.eq_nil_of_length_eq_zero l1, List.eq_nil_of_length_eq_zero l2]; rfl
      have HD := hidp hd
      clear h1 h2 l1 l2 hd
      go_enter Tryd.func33, Tryd.ntmps33
      go_wp2_with fail
      refine wp_loop_rounds 1 ?_; rw [rounds_succ]
      go_wp2
      go_ret
      exact ⟨ret_bool HD.out.symm, Below.refl _ _⟩
    · obtain ⟨b1, o1, rfl, hb1, hc1⟩ := h1.cells hz
      obtain ⟨b2, o2, rfl, hb2, hc2⟩ := h2.cells hz
      have C1 := hidp hc1
      have C2 := hidp hc2
      have L1 := hidp l1
      have L2 := hidp l2
      clear hc1 hc2 h1 h2 l1 l2
      go_enter Tryd.func33, Tryd.ntmps33
      go_wp2_with fail
      go_loopw [13] (fun i wr => ∃ k : Nat, k ≤ n ∧ i = .int .i64 k ∧ Hid (∀ j, j < k → gb xs j = gb ys j) ∧ Below w.heap.size w wr) (fun i _ => n - (intOf i).toNat)
      case atStart => exact ⟨0, by omega, rfl, fun j hj => by omega, Below.refl _ _⟩
      case round =>
        obtain ⟨k, hk, rfl, hsame, hbl⟩ := hrel
        by_cases hlt : k < n
        · have q1 := carry_cell ⟨hb1, C1.out k hlt⟩ hbl
          have q2 := carry_cell ⟨hb2, C2.out k hlt⟩ hbl
          by_cases hxy : gb xs k = gb ys k
          · have hB : (!gb xs k == gb ys k) = false := by rw [hxy]; simp
            have HXY := hidp hxy
            clear hxy
            go_wp2_with fail
            go_quiet (fail)
            go_wp2
            go_roundw
            case rel => exact ⟨k + 1, by omega, by go_num, fun j hj => by
              by_cases h : j < k
              · exact hsame.out j h
              · obtain rfl : j = k := by omega
                exact HXY.out, below_drewN hbl _⟩
            case measure => simp [intOf]; omega
          · have hB : (!gb xs k == gb ys k) = true := by simp [hxy]
            have hd : decide (xs = ys) = false := decide_eq_false (fun e => hxy (by rw [e]))
            have HD := hidp hd
            clear hxy hd
            go_wp2_with fail
            go_quiet (fail)
            go_wp2
            go_ret
            exact ⟨ret_bool HD.out.symm, below_drewN hbl _⟩
        · obtain rfl : k = n := by omega
          have hd : decide (xs = ys) = true := decide_eq_true (gb_ext xs ys (by rw [L1.out, L2.out]) (fun j hj => hsame.out j (by rw [L1.out] at hj; exact hj)))
          have HD := hidp hd
          clear hd
          go_wp2
          go_ret
          exact ⟨ret_bool HD.out.symm, hbl⟩
  · have hd : decide (xs = ys) = false := decide_eq_false (fun e => hnm (by rw [← l1, ← l2, e]))
    have HD := hidp hd
    have hne : ((n : Int) != (m : Int)) = true := by rw [bne_iff_ne]; omega
    clear h1 h2 l1 l2 hd
    go_enter Tryd.func33, Tryd.ntmps33
    go_wp2
    go_ret
    exact ⟨ret_bool HD.out.symm, Below.refl _ _⟩
end Go.Proofs.YtdfghgeccannnaaDoor
