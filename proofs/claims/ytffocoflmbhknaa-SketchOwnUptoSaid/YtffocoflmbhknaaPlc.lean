/- The places of a key: plain law. -/
import Derived.Test.YtffocoflmbhknaaMem
import Derived.Test.YtffocoflmbhknaaMixMath
namespace Go.Proofs.Ytffocoflmbhknaa
open Go.ChangeShapes Go.WideShapes Go.ChangeAt Go.RowKit
set_option maxRecDepth 20000
open MixMath

/-- The generator's state behind i draws. -/
def stN (s i : Nat) : Nat := (s + i * 11400714819323198485) % 18446744073709551616
theorem stN_lt (s i : Nat) : stN s i < 18446744073709551616 := Nat.mod_lt _ (by decide)
theorem st_gen (s i G M : Nat) : ((s + i * G) % M + G) % M = (s + (i + 1) * G) % M := by
  rw [Nat.mod_add_mod, Nat.add_mul, Nat.one_mul, Nat.add_assoc]
theorem stN_step (s i : Nat) : (stN s i + 11400714819323198485) % 18446744073709551616 = stN s (i + 1) := st_gen _ _ _ _
theorem stN_zero (s : Nat) (h : s < 18446744073709551616) : stN s 0 = s := by unfold stN; rw [Nat.zero_mul, Nat.add_zero, Nat.mod_eq_of_lt h]
/-- A key as a state. -/
def keyN (key : Int) : Nat := (key % 18446744073709551616).toNat
theorem keyN_lt (key : Int) : keyN key < 18446744073709551616 := by unfold keyN; omega
theorem keyN_cast (key : Int) : IntKind.u64.wrap key = (keyN key : Nat) := by rw [IntKind.wrap_u64]; unfold keyN; omega
/-- Place i of a key. -/
def plc (sz : Nat) (key : Int) (i : Nat) : Nat := mixN (stN (keyN key) (i + 1)) % sz
theorem plc_lt (sz : Nat) (key : Int) (i : Nat) (h : 1 ≤ sz) : plc sz key i < sz := Nat.mod_lt _ (by omega)
def plcL (sz : Nat) (key : Int) (k : Nat) : List Int := tab (fun i => (plc sz key i : Nat)) k
end Go.Proofs.Ytffocoflmbhknaa
