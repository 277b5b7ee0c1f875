/- Contract of slices.Equal at integers: whether two lists are the same. -/
import Derived.Test.YtffocoflmbhknaaMem
import Derived.Deep.QuietTactic
import Derived.BigQuiet
import Derived.WalkSmall
namespace Go.Proofs.Ytffocoflmbhknaa
open Go.ChangeShapes Go.WideShapes Go.ChangeAt Go.RowKit
set_option maxRecDepth 20000

theorem gi_ext (xs ys : List Int) (h : xs.length = ys.length) (hg : ∀ j, j < xs.length → gi xs j = gi ys j) : xs = ys := by
  apply List.ext_getElem h
  intro i h1 h2
  have := hg i h1
  unfold gi at this
  rw [List.getD_eq_getElem?_getD, List.getD_eq_getElem?_getD, List.getElem?_eq_getElem h1, List.getElem?_eq_getElem h2] at this
  exact this

theorem equaliq_c (a1 a2 : Option Addr) (n m c1 c2 : Nat) (xs ys : List Int) (w : World) (h1 : IntsAt w a1 n c1 xs) (h2 : IntsAt w a2 m c2 ys) :
    Calls Try.prog 42 #[.slice a1 n c1, .slice a2 m c2] w fun e w' => e = .returned (.bool (decide (xs = ys))) ∧ ∃ q, w' = w.drewN q := by
  have l1 := h1.len
  have l2 := h2.len
  have m1 := h1.max
  have m2 := h2.max
  have e1 := h1.le
  have e2 := h2.le
  by_cases hnm : n = m
  · subst hnm
    rcases Nat.eq_zero_or_pos n with hz | hz
    · subst hz
      have hd : decide (xs = ys) = true := by
        rw [List.eq_nil_of_length_eq_zero l1, List.eq_nil_of_length_eq_zero l2]; rfl
      have HD := hidp hd
      clear h1 h2 l1 l2 hd
      go_enter Try.func42, Try.ntmps42
      go_wp2_with fail
      refine wp_loop_rounds 1 ?_; rw [rounds_succ]
      go_wp2
      go_ret
      exact ⟨ret_bool HD.out.symm, 0, rfl⟩
    · obtain ⟨b1, o1, rfl, hb1, hc1⟩ := h1.addr hz
      obtain ⟨b2, o2, rfl, hb2, hc2⟩ := h2.addr hz
      have C1 := hidp hc1
      have C2 := hidp hc2
      have L1 := hidp l1
      have L2 := hidp l2
      clear hc1 hc2 h1 h2 l1 l2
      go_enter Try.func42, Try.ntmps42
      go_wp2_with fail
      go_loopw [13] (fun i wr => ∃ k : Nat, k ≤ n ∧ i = .int .i64 k ∧ Hid (∀ j, j < k → gi xs j = gi ys j) ∧ ∃ q, wr = w.drewN q) (fun i _ => n - (intOf i).toNat)
      case atStart => exact ⟨0, by omega, rfl, fun j hj => by omega, 0, rfl⟩
      case round =>
        obtain ⟨k, hk, rfl, hsame, qd, hqd⟩ := hrel
        have hbl : Below w.heap.size w wr := by rw [hqd]; exact below_drewN (Below.refl _ _) qd
        have HQ := hidp hqd
        clear hqd
        by_cases hlt : k < n
        · have q1 := carry_cell ⟨hb1, C1.out k hlt⟩ hbl
          have q2 := carry_cell ⟨hb2, C2.out k hlt⟩ hbl
          by_cases hxy : gi xs k = gi ys k
          · have hB : (gi xs k != gi ys k) = false := by rw [hxy]; simp
            have HXY := hidp hxy
            clear hxy
            go_wp2_with fail
            go_quiet (fail)
            go_wp2
            go_roundw
            case rel => exact ⟨k + 1, by omega, by go_num, fun j hj => by
              by_cases h : j < k
              · exact hsame.out j h
              · obtain rfl : j = k := by omega
                exact HXY.out, _, by rw [HQ.out]; exact World.drewN_drewN _ _ _⟩
            case measure => simp [intOf]; omega
          · have hB : (gi xs k != gi ys k) = true := by simp [hxy]
            have hd : decide (xs = ys) = false := decide_eq_false (fun e => hxy (by rw [e]))
            have HD := hidp hd
            clear hxy hd
            go_wp2_with fail
            go_quiet (fail)
            go_wp2
            go_ret
            exact ⟨ret_bool HD.out.symm, _, by rw [HQ.out]; exact World.drewN_drewN _ _ _⟩
        · obtain rfl : k = n := by omega
          have hd : decide (xs = ys) = true := decide_eq_true (gi_ext xs ys (by rw [L1.out, L2.out]) (fun j hj => hsame.out j (by rw [L1.out] at hj; exact hj)))
          have HD := hidp hd
          clear hd
          go_wp2
          go_ret
          exact ⟨ret_bool HD.out.symm, qd, HQ.out⟩
  · have hd : decide (xs = ys) = false := decide_eq_false (fun e => hnm (by rw [← l1, ← l2, e]))
    have HD := hidp hd
    have hne : ((n : Int) != (m : Int)) = true := by rw [bne_iff_ne]; omega
    clear h1 h2 l1 l2 hd
    go_enter Try.func42, Try.ntmps42
    go_wp2
    go_ret
    exact ⟨ret_bool HD.out.symm, 0, rfl⟩
theorem equali_c (a1 a2 : Option Addr) (n m c1 c2 : Nat) (xs ys : List Int) (w : World) (h1 : IntsAt w a1 n c1 xs) (h2 : IntsAt w a2 m c2 ys) :
    Calls Try.prog 42 #[.slice a1 n c1, .slice a2 m c2] w fun e w' => e = .returned (.bool (decide (xs = ys))) ∧ Below w.heap.size w w' := by
  refine (equaliq_c a1 a2 n m c1 c2 xs ys w h1 h2).mono ?_
  rintro e w' ⟨rfl, q, rfl⟩
  exact ⟨rfl, below_drewN (Below.refl _ _) q⟩
end Go.Proofs.Ytffocoflmbhknaa
