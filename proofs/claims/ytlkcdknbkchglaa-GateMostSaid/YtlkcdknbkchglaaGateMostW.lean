/- The walk of GateMost: the law returns true at all inputs, and no old memory changes. -/
import Derived.Test.YtlkcdknbkchglaaGate
namespace Go.Proofs.Ytlkcdknbkchglaa.gateMost
open Go.ChangeShapes Go.WideShapes Go.ChangeAt Go.RowKit
open Go.Proofs.Ytlkcdknbkchglaa

set_option linter.unusedVariables false
theorem walk (a0 : Int) (a1 : Int) (a2 : Int) (w0 : (Lit.int .i64 a0).wf = true) (w1 : (Lit.int .i64 a1).wf = true) (w2 : (Lit.int .i64 a2).wf = true) (w : World) :
    Calls Try.prog 4 #[.int .i64 a0, .int .i64 a1, .int .i64 a2] w fun e w' => e = .returned (.bool true) ∧ Grown w w' := by
  have b0 := drw_lo a0
  have b1 := drw_hi a0
  have b2 := drw_lo a1
  have b3 := drw_hi a1
  have b4 := drw_lo a2
  have b5 := drw_hi a2
  go_enter Try.func4, Try.ntmps4
  go_wp2_with (first | (go_at_call 15; refine (keep_c _ _ (by omega) (by omega) (by omega) (by omega) _).mono ?_; rintro e w' ⟨rfl, rfl⟩) | (go_at_call 16; refine (draw_c _ _).mono ?_; rintro e w' ⟨rfl, rfl⟩))
  all_goals (go_ret; first | exact ⟨rfl, Grown.refl _⟩ | exact ⟨ret_bool (by simp; omega), Grown.refl _⟩)
end Go.Proofs.Ytlkcdknbkchglaa.gateMost
