/- Contract of cultop's begun. -/
import Derived.Test.YtpdigiefldnpaaaOrder
import Derived.Test.YtpdigiefldnpaaaEqI
namespace Go.Proofs.Ytpdigiefldnpaaa
open Go.ChangeShapes Go.WideShapes Go.ChangeAt Go.RowKit
set_option maxRecDepth 20000
set_option maxHeartbeats 2000000 in
theorem begun_c (w : World) : Calls Try.prog 35 #[] w fun e w' => e = .returned (.bool true) ∧ Below w.heap.size w w' := by
  go_enter Try.func35, Try.ntmps35
  go_wp2_with fail
  refine (order_c 2 1 2 1 rfl rfl (by omega) (by decide) _).mono ?_
  rintro e wa ⟨v, rfl, hv, hba⟩
  rw [show ordL 2 1 (idn 2) = [1, 0] from by decide +kernel] at hv
  obtain ⟨av, cv, rfl, hav⟩ := owns_ints hv (by simp)
  clear hv
  go_wp2_with fail
  refine (equali_c _ _ 2 2 _ _ [1, 0] [1, 0] _ (hav.alloc _) ?s3).mono ?_
  case s3 => exact ints_lit [1, 0] (by simp) (by rfl) (by rfl) (by simp) (by omega)
  rintro e wb ⟨rfl, hbb⟩
  rw [decide_eq_true rfl]
  have hwb : Below w.heap.size w wb := bstep (bal hba _) hbb
  clear hba hbb hav
  go_wp2_with fail
  go_ret
  exact ⟨rfl, hwb⟩
end Go.Proofs.Ytpdigiefldnpaaa
