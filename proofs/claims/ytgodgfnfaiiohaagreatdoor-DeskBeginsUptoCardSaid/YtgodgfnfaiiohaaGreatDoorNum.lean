/- Contract of hexa.Num: is it a number that is drawn? -/
import Derived.Test.YtgodgfnfaiiohaaGreatDoorBase
namespace Go.Proofs.YtgodgfnfaiiohaaGreatDoor
open Go.ChangeShapes Go.WideShapes Go.ChangeAt Go.RowKit
set_option maxRecDepth 20000

theorem num_c (n : Int) (w : World) :
    Calls Tryz.prog 91 #[.int .i64 n] w fun e w' => e = .returned (.bool (decide (0 ≤ n ∧ n < 72057594037927936))) ∧ w = w' := by
  by_cases h1 : 0 ≤ n <;> by_cases h2 : n < 72057594037927936
  all_goals
    go_enter Tryz.func91, Tryz.ntmps91
    go_wp2
    go_ret
    exact ⟨ret_bool (by simp [h1, h2]), rfl⟩
end Go.Proofs.YtgodgfnfaiiohaaGreatDoor
