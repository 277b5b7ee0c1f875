/- Contracts of the small number functions (Within, draw, Num, Keep): what each call returns, and that memory stays as it is. -/
import Derived.Test.YtdfghgeccannnaaDoorRows
import Derived.WalkKit
import Derived.ProofKit
import Derived.OpenShut
namespace Go.Proofs.YtdfghgeccannnaaDoor
open Go.ChangeShapes Go.WideShapes Go.ChangeAt Go.RowKit
set_option maxRecDepth 20000

theorem ret_int {k : IntKind} {a b : Int} (h : a = b) : Ending.returned (.int k a) = .returned (.int k b) := by rw [h]
theorem ret_bool {a b : Bool} (h : a = b) : Ending.returned (.bool a) = .returned (.bool b) := by rw [h]
theorem v_int {k : IntKind} {a b : Int} (h : a = b) : Value.int k a = Value.int k b := by rw [h]
theorem v_bool {a b : Bool} (h : a = b) : Value.bool a = Value.bool b := by rw [h]
theorem ret_tup_bi {a b : Bool} {c d : Int} (h : a = b) (h' : c = d) : Ending.returned (.tuple #[.bool a, .int .i64 c]) = .returned (.tuple #[.bool b, .int .i64 d]) := by rw [h, h']
theorem ret_tup_ii {a b : Int} {c d : Int} (h : a = b) (h' : c = d) : Ending.returned (.tuple #[.int .i64 a, .int .i64 c]) = .returned (.tuple #[.int .i64 b, .int .i64 d]) := by rw [h, h']
theorem ret_tup2 {a b c d : Value} (h : a = b) (h' : c = d) : Ending.returned (.tuple #[a, c]) = .returned (.tuple #[b, d]) := by rw [h, h']
theorem mul_le_cast {a b A B : Nat} (h1 : a ≤ A) (h2 : b ≤ B) : (a : Int) * (b : Int) ≤ ((A * B : Nat) : Int) := by
  rw [← Int.natCast_mul]; exact Int.ofNat_le.2 (Nat.mul_le_mul h1 h2)
theorem hidp {p : Prop} (h : p) : Hid p := h
theorem info_int : (Tryd.prog.info? 3).map (fun i => (i.zero, i.size, i.bytes)) = some (some (.int .i64 0), 1, 8) := by kernel_rfl
theorem info_bool : (Tryd.prog.info? 4).map (fun i => (i.zero, i.size, i.bytes)) = some (some (.bool false), 1, 1) := by kernel_rfl
theorem own : ownKnob Tryd.prog.godebug = none := by kernel_rfl

theorem wf_bd {n : Int} (h : (Lit.int .i64 n).wf = true) : -9223372036854775808 ≤ n ∧ n ≤ 9223372036854775807 := by
  have hmin : IntKind.i64.min = -9223372036854775808 := rfl
  have hmax : IntKind.i64.max = 9223372036854775807 := rfl
  simp only [Lit.wf, Bool.and_eq_true, decide_eq_true_eq] at h
  omega

def wi (k n : Int) : Int := (k % 18446744073709551616) % n
theorem wi_lo (k n : Int) (h : 1 ≤ n) : 0 ≤ wi k n := Int.emod_nonneg _ (by omega)
theorem wi_hi (k n : Int) (h : 1 ≤ n) : wi k n < n := Int.emod_lt_of_pos _ (by omega)

/-- Within as a natural number. -/
def wn (k n : Int) : Nat := (wi k n).toNat
theorem wn_cast (k n : Int) (h : 1 ≤ n) : ((wn k n : Nat) : Int) = wi k n := Int.toNat_of_nonneg (wi_lo k n h)
theorem wn_lt (k n : Int) (h : 1 ≤ n) : ((wn k n : Nat) : Int) < n := by rw [wn_cast k n h]; exact wi_hi k n h
def drw (k : Int) : Int := wi k 72057594037927936
theorem drw_lo (k : Int) : 0 ≤ drw k := wi_lo _ _ (by omega)
theorem drw_hi (k : Int) : drw k < 72057594037927936 := wi_hi _ _ (by omega)

end Go.Proofs.YtdfghgeccannnaaDoor
