/- Contracts of gate.Keep and gate.Level: what each call returns, and that memory stays as it is. -/
import Derived.Test.YtpdigiefldnpaaaLev
namespace Go.Proofs.Ytpdigiefldnpaaa
open Go.ChangeShapes Go.WideShapes Go.ChangeAt Go.RowKit
set_option maxRecDepth 20000


/-- Level within its bounds. -/
theorem level_c (n : Int) (h1 : 0 ≤ n) (h2 : n ≤ 20) (w : World) :
    Calls Try.prog 43 #[.int .i64 n] w fun e w' => e = .returned (.tuple #[.int .i64 (lev n.toNat), .int .i64 0]) ∧ w = w' := by
  go_enter Try.func43, Try.ntmps43
  go_wp2
  go_ret2
  have a := lev_lo n.toNat
  have b := lev_hi n.toNat
  exact ⟨ret_tup_ii (IntWalk.wrap64_in _ ⟨by show -_ ≤ lev n.toNat; omega, by show lev n.toNat ≤ _; omega⟩) rfl, rfl⟩
end Go.Proofs.Ytpdigiefldnpaaa
