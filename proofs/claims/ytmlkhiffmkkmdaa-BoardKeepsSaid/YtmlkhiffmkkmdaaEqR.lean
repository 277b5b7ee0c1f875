/- Contract of slices.Equal at rules: equal where they are the same. -/
import Derived.Test.YtmlkhiffmkkmdaaRules
import Derived.Deep.QuietTactic
import Derived.BigQuiet
import Derived.WalkSmall
namespace Go.Proofs.Ytmlkhiffmkkmdaa
open Go.ChangeShapes Go.WideShapes Go.ChangeAt Go.RowKit
set_option maxRecDepth 20000
theorem eqr_c (a1 a2 : Option Addr) (n c1 c2 : Nat) (L : List Rl) (w : World) (h1 : RulesAt w a1 n c1 L) (h2 : RulesAt w a2 n c2 L) :
    Calls Try.prog 26 #[.slice a1 n c1, .slice a2 n c2] w fun e w' => e = .returned (.bool true) ∧ Below w.heap.size w w' := by
  have m1 := h1.max
  have m2 := h2.max
  have e1 := h1.le
  have e2 := h2.le
  have hne : ((n : Int) != (n : Int)) = false := by simp
  have C1 := hidp h1.cells
  have C2 := hidp h2.cells
  clear h1 h2
  go_enter Try.func26, Try.ntmps26
  go_wp2_with fail
  go_loopw [13] (fun i wr => ∃ k : Nat, k ≤ n ∧ i = .int .i64 k ∧ Below w.heap.size w wr) (fun i _ => n - (intOf i).toNat)
  case atStart => exact ⟨0, by omega, rfl, Below.refl _ _⟩
  case round =>
    obtain ⟨k, hk, rfl, hbl⟩ := hrel
    by_cases hlt : k < n
    · obtain ⟨b, o, rfl, hb, hc⟩ := C1.out (by omega)
      obtain ⟨b', o', rfl, hb', hc'⟩ := C2.out (by omega)
      have q0 := carry_cell ⟨hb, (hc k hlt).1⟩ hbl
      have q1 := carry_cell ⟨hb, (hc k hlt).2.1⟩ hbl
      have q2 := carry_cell ⟨hb, (hc k hlt).2.2⟩ hbl
      have q3 := carry_cell ⟨hb', (hc' k hlt).1⟩ hbl
      have q4 := carry_cell ⟨hb', (hc' k hlt).2.1⟩ hbl
      have q5 := carry_cell ⟨hb', (hc' k hlt).2.2⟩ hbl
      clear hc hc'
      generalize rp L k = s at *
      generalize rl L k = v at *
      generalize re L k = e at *
      go_wp2_with fail
      go_quiet (fail)
      go_wp2
      go_roundw
      case rel => exact ⟨k + 1, by omega, by go_num, below_drewN hbl _⟩
      case measure => simp [intOf]; omega
    · obtain rfl : k = n := by omega
      go_wp2
      go_ret
      exact ⟨rfl, hbl⟩
end Go.Proofs.Ytmlkhiffmkkmdaa
