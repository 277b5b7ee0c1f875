/- Contract of culref.SameFilter at filters of the same bits. -/
import Derived.Test.YtpghnbpoodcglaaBloomL
import Derived.Test.YtpghnbpoodcglaaEqB
namespace Go.Proofs.Ytpghnbpoodcglaa
open Go.ChangeShapes Go.WideShapes Go.ChangeAt Go.RowKit
set_option maxRecDepth 20000
set_option maxHeartbeats 2000000 in
theorem samef_c (sz wy : Nat) (a a' : Option Addr) (c c' : Nat) (bs : List Bool) (w : World) (h : BoolsAt w a sz c bs) (h' : BoolsAt w a' sz c' bs) :
    Calls Try.prog 36 #[.agg #[.int .i64 (sz : Nat), .int .i64 (wy : Nat), .slice a sz c], .agg #[.int .i64 (sz : Nat), .int .i64 (wy : Nat), .slice a' sz c']] w fun e w' => e = .returned (.bool true) ∧ Below w.heap.size w w' := by
  have hb0 : Below w.heap.size w ((w.alloc (.cells #[.int .i64 (sz : Nat), .int .i64 (wy : Nat), .slice a sz c] 35)).alloc (.cells #[.int .i64 (sz : Nat), .int .i64 (wy : Nat), .slice a' sz c'] 35)) := bal (bal (Below.refl _ _) _) _
  have H := hidp (h.below hb0)
  have H' := hidp (h'.below hb0)
  have HB := hidp hb0
  have es : ((sz : Int) == (sz : Int)) = true := by simp
  have ew : ((wy : Int) == (wy : Int)) = true := by simp
  clear h h' hb0
  go_enter Try.func36, Try.ntmps36
  go_wp2_with fail
  refine (equalb_c _ _ _ _ _ _ bs bs _ H.out H'.out).mono ?_
  rintro e wa ⟨rfl, hba⟩
  rw [decide_eq_true rfl]
  have hwa := bstep HB.out hba
  clear hba
  go_wp2_with fail
  go_ret
  exact ⟨rfl, hwa⟩
end Go.Proofs.Ytpghnbpoodcglaa
