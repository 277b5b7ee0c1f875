/- Contract of slices.Equal at pairs of texts: equal where they are the same. -/
import Derived.Test.YtmlkhiffmkkmdaaDoorPairs
import Derived.Deep.QuietTactic
import Derived.BigQuiet
namespace Go.Proofs.YtmlkhiffmkkmdaaDoor
open Go.ChangeShapes Go.WideShapes Go.ChangeAt Go.RowKit
set_option maxRecDepth 20000
theorem eqp_c (a1 a2 : Option Addr) (n c1 c2 : Nat) (L : List (ByteArray × ByteArray)) (w : World) (h1 : PairsAt w a1 n c1 L) (h2 : PairsAt w a2 n c2 L) :
    Calls Tryd.prog 6 #[.slice a1 n c1, .slice a2 n c2] w fun e w' => e = .returned (.bool true) ∧ Below w.heap.size w w' := by
  have m1 := h1.max
  have m2 := h2.max
  have e1 := h1.le
  have e2 := h2.le
  have hne : ((n : Int) != (n : Int)) = false := by simp
  have C1 := hidp h1.cells
  have C2 := hidp h2.cells
  clear h1 h2
  go_enter Tryd.func6, Tryd.ntmps6
  go_wp2_with fail
  go_loopw [13] (fun i wr => ∃ k : Nat, k ≤ n ∧ i = .int .i64 k ∧ Below w.heap.size w wr) (fun i _ => n - (intOf i).toNat)
  case atStart => exact ⟨0, by omega, rfl, Below.refl _ _⟩
  case round =>
    obtain ⟨k, hk, rfl, hbl⟩ := hrel
    by_cases hlt : k < n
    · obtain ⟨b, o, rfl, hb, hc⟩ := C1.out (by omega)
      obtain ⟨b', o', rfl, hb', hc'⟩ := C2.out (by omega)
      have q0 := carry_cell ⟨hb, (hc k hlt).1⟩ hbl
      have q1 := carry_cell ⟨hb, (hc k hlt).2⟩ hbl
      have q2 := carry_cell ⟨hb', (hc' k hlt).1⟩ hbl
      have q3 := carry_cell ⟨hb', (hc' k hlt).2⟩ hbl
      clear hc hc'
      generalize pk L k = s at *
      generalize pv L k = v at *
      go_wp2_with fail
      go_quiet (fail)
      go_wp2
      go_roundw
      case rel => exact ⟨k + 1, by omega, by go_num, below_drewN hbl _⟩
      case measure => simp [intOf]; omega
    · obtain rfl : k = n := by omega
      go_wp2
      go_ret
      exact ⟨rfl, hbl⟩
end Go.Proofs.YtmlkhiffmkkmdaaDoor
