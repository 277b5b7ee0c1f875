/- Contracts of the small number functions (Within, draw, Num, Keep): what each call returns, and that memory stays as it is. -/
import Derived.Test.YtgodgfnfaiiohaaGreatDoorRows
import Derived.WalkKit
import Derived.ProofKit
import Derived.OpenShut
namespace Go.Proofs.YtgodgfnfaiiohaaGreatDoor
open Go.ChangeShapes Go.WideShapes Go.ChangeAt Go.RowKit
set_option maxRecDepth 20000

theorem ret_int {k : IntKind} {a b : Int} (h : a = b) : Ending.returned (.int k a) = .returned (.int k b) := by rw [h]
theorem ret_bool {a b : Bool} (h : a = b) : Ending.returned (.bool a) = .returned (.bool b) := by rw [h]
theorem v_int {k : IntKind} {a b : Int} (h : a = b) : Value.int k a = Value.int k b := by rw [h]
theorem ret_tup_ii {a b : Int} {c d : Int} (h : a = b) (h' : c = d) : Ending.returned (.tuple #[.int .i64 a, .int .i64 c]) = .returned (.tuple #[.int .i64 b, .int .i64 d]) := by rw [h, h']
theorem mul_le_cast {a b A B : Nat} (h1 : a ≤ A) (h2 : b ≤ B) : (a : Int) * (b : Int) ≤ ((A * B : Nat) : Int) := by
  rw [← Int.natCast_mul]; exact Int.ofNat_le.2 (Nat.mul_le_mul h1 h2)
theorem hidp {p : Prop} (h : p) : Hid p := h
theorem info_int : (Tryz.prog.info? 3).map (fun i => (i.zero, i.size, i.bytes)) = some (some (.int .i64 0), 1, 8) := by kernel_rfl
theorem info_bool : (Tryz.prog.info? 4).map (fun i => (i.zero, i.size, i.bytes)) = some (some (.bool false), 1, 1) := by kernel_rfl
theorem own : ownKnob Tryz.prog.godebug = none := by kernel_rfl

def wi (k n : Int) : Int := (k % 18446744073709551616) % n
end Go.Proofs.YtgodgfnfaiiohaaGreatDoor
