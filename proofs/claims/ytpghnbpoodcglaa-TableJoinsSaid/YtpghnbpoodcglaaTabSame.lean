/- Contract of culref.SameTable at equal tables; slices.Equal that only draws. -/
import Derived.Test.YtpghnbpoodcglaaTablePut2
import Derived.Test.YtpghnbpoodcglaaEqI
namespace Go.Proofs.Ytpghnbpoodcglaa
open Go.ChangeShapes Go.WideShapes Go.ChangeAt Go.RowKit
set_option maxRecDepth 20000

theorem sameT1_c (a1 a2 : Option Addr) (n c1 c2 : Nat) (xs : List Int) (w : World) (h1 : IntsAt w a1 n c1 xs) (h2 : IntsAt w a2 n c2 xs) :
    Calls Try.prog 60 #[.slice a1 n c1, .slice a2 n c2] w fun e w' => e = .returned (.bool true) ∧ Below w.heap.size w w' := by
  have C := hidp (equali_c a1 a2 n n c1 c2 xs xs w h1 h2)
  rw [decide_eq_true rfl] at C
  clear h1 h2
  go_enter Try.func60, Try.ntmps60
  go_wp2_with fail
  refine C.out.mono ?_
  rintro e w1 ⟨rfl, hb⟩
  go_wp2_with fail
  go_ret
  exact ⟨rfl, hb⟩
set_option maxHeartbeats 2000000 in
theorem eqrows_c (a a' : Option Addr) (n m c c' : Nat) (T : Nat → Nat → Int) (w : World) (h : RowsAt w a n c (tabL T m n)) (h' : RowsAt w a' n c' (tabL T m n)) (hm : 1 ≤ m) (hn : 1 ≤ n) (hn2 : n ≤ 1000) :
    Calls Try.prog 59 #[.slice a n c, .slice a' n c', .func (.func 60) #[] #[]] w fun e w' => e = .returned (.bool true) ∧ Below w.heap.size w w' := by
  have mm := h.max
  have ee := h.le
  have mm' := h'.max
  have ee' := h'.le
  obtain ⟨b, o, rfl, hlt, hc⟩ := h.cells (by omega)
  obtain ⟨b', o', rfl, hlt', hc'⟩ := h'.cells (by omega)
  have R := hidp (fun i hi => tabL_row hc hm i hi)
  have R' := hidp (fun i hi => tabL_row hc' hm i hi)
  have hne : ((n : Int) != (n : Int)) = false := by simp
  clear hc hc' h h'
  go_enter Try.func59, Try.ntmps59
  go_wp2_with fail
  go_loopw [17] (fun i wr => ∃ k : Nat, k ≤ n ∧ i = .int .i64 k ∧ Below w.heap.size w wr) (fun i _ => n - (intOf i).toNat)
  case atStart => exact ⟨0, by omega, rfl, Below.refl _ _⟩
  case round =>
    obtain ⟨k, hk, rfl, hbl⟩ := hrel
    by_cases hlt2 : k < n
    · obtain ⟨bi, oi, ci, q0, q1, q2⟩ := R.out k hlt2
      obtain ⟨bj, oj, cj, p0, p1, p2⟩ := R'.out k hlt2
      have q := carry_cell ⟨hlt, q0⟩ hbl
      have p := carry_cell ⟨hlt', p0⟩ hbl
      have C := hidp (sameT1_c _ _ m ci cj _ wr (q1.below hbl) (p1.below hbl))
      clear q0 q1 p0 p1
      go_wp2_with fail
      refine C.out.mono ?_
      rintro e w1 ⟨rfl, hb⟩
      have bl := bstep hbl hb
      clear hb hbl q p C
      go_wp2_with fail
      go_roundw
      case rel => exact ⟨k + 1, by omega, by go_num, bl⟩
      case measure => simp [intOf]; omega
    · obtain rfl : k = n := by omega
      go_wp2_with fail
      go_ret
      exact ⟨rfl, hbl⟩
set_option maxHeartbeats 2000000 in
theorem samet_c (m : Nat) (a a' : Option Addr) (n c c' : Nat) (T : Nat → Nat → Int) (w : World) (h : RowsAt w a n c (tabL T m n)) (h' : RowsAt w a' n c' (tabL T m n)) (hm : 1 ≤ m) (hn : 1 ≤ n) (hn2 : n ≤ 1000) :
    Calls Try.prog 27 #[tabV m a n c, tabV m a' n c'] w fun e w' => e = .returned (.bool true) ∧ Below w.heap.size w w' := by
  have hb0 : Below w.heap.size w ((w.alloc (.cells #[.int .i64 (m : Nat), .slice a n c] 44)).alloc (.cells #[.int .i64 (m : Nat), .slice a' n c'] 44)) := bal (bal (Below.refl _ _) _) _
  have C := hidp (eqrows_c a a' n m c c' T _ (h.below hb0) (h'.below hb0) hm hn hn2)
  have HB := hidp hb0
  have es : ((m : Int) == (m : Int)) = true := by simp
  clear h h' hb0
  unfold tabV
  go_enter Try.func27, Try.ntmps27
  go_wp2_with fail
  refine C.out.mono ?_
  rintro e wa ⟨rfl, hba⟩
  have hwa := bstep HB.out hba
  clear hba
  go_wp2_with fail
  go_ret
  exact ⟨rfl, hwa⟩
/-- slices.Equal at equal lists only draws. -/
theorem equali_q (a1 a2 : Option Addr) (n c1 c2 : Nat) (xs : List Int) (w : World) (h1 : IntsAt w a1 n c1 xs) (h2 : IntsAt w a2 n c2 xs) :
    Calls Try.prog 19 #[.slice a1 n c1, .slice a2 n c2] w fun e w' => e = .returned (.bool true) ∧ ∃ q, w' = w.drewN q := by
  have l1 := h1.len
  have m1 := h1.max
  have m2 := h2.max
  have e1 := h1.le
  have e2 := h2.le
  obtain ⟨b1, o1, hz1, hc1⟩ := h1.split
  obtain ⟨b2, o2, hz2, hc2⟩ := h2.split
  have hz1' : Hid (n = 0) ∨ a1 = some ⟨b1, o1, none⟩ := hz1.imp_left hidp
  have hz2' : Hid (n = 0) ∨ a2 = some ⟨b2, o2, none⟩ := hz2.imp_left hidp
  have C1 := hidp hc1
  have C2 := hidp hc2
  have hne : ((n : Int) != (n : Int)) = false := by simp
  clear hc1 hc2 h1 h2 l1 hz1 hz2
  go_enter Try.func19, Try.ntmps19
  go_wp2_with fail
  go_loopw [13] (fun i wr => ∃ k q : Nat, k ≤ n ∧ i = .int .i64 k ∧ wr = w.drewN q) (fun i _ => n - (intOf i).toNat)
  case atStart => exact ⟨0, 0, by omega, rfl, rfl⟩
  case round =>
    obtain ⟨k, q, hk, rfl, rfl⟩ := hrel
    by_cases hlt : k < n
    · obtain rfl := hz1'.resolve_left (fun e => by have := e.out; omega)
      obtain rfl := hz2'.resolve_left (fun e => by have := e.out; omega)
      have q1 : (w.drewN q).cell? ⟨b1, o1 + k, none⟩ = some (.int .i64 (gi xs k)) := (C1.out k hlt).2
      have q2 : (w.drewN q).cell? ⟨b2, o2 + k, none⟩ = some (.int .i64 (gi xs k)) := (C2.out k hlt).2
      have hB : (gi xs k != gi xs k) = false := by simp
      generalize hW : w.drewN q = W at *
      go_wp2_with fail
      go_quiet (fail)
      go_wp2
      go_roundw
      case rel => exact ⟨k + 1, q + nq, by omega, by go_num, by rw [← hW]; simp [World.drewN, Nat.add_assoc]⟩
      case measure => simp [intOf]; omega
    · obtain rfl : k = n := by omega
      go_wp2
      go_ret
      exact ⟨rfl, q, rfl⟩
end Go.Proofs.Ytpghnbpoodcglaa
