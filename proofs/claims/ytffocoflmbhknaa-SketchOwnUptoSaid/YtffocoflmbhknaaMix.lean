/- Contracts of mix.Mix, mix.Next and mix.Of: what each call returns, and that memory stays as it is. -/
import Derived.Test.YtffocoflmbhknaaBase
import Derived.Test.YtffocoflmbhknaaMixMath
namespace Go.Proofs.Ytffocoflmbhknaa
open Go.ChangeShapes Go.WideShapes Go.ChangeAt Go.RowKit
set_option maxRecDepth 20000
open MixMath

theorem mixI_eq (x : Nat) (hx : x < 18446744073709551616) :
    bits BinOp.xor IntKind.u64 (IntKind.u64.wrap (bits BinOp.xor IntKind.u64 (IntKind.u64.wrap (bits BinOp.xor IntKind.u64 (x : Int) ((x : Int) / 1073741824) * 13787848793156543929)) (IntKind.u64.wrap (bits BinOp.xor IntKind.u64 (x : Int) ((x : Int) / 1073741824) * 13787848793156543929) / 134217728) * 10723151780598845931))
      (IntKind.u64.wrap (bits BinOp.xor IntKind.u64 (IntKind.u64.wrap (bits BinOp.xor IntKind.u64 (x : Int) ((x : Int) / 1073741824) * 13787848793156543929)) (IntKind.u64.wrap (bits BinOp.xor IntKind.u64 (x : Int) ((x : Int) / 1073741824) * 13787848793156543929) / 134217728) * 10723151780598845931) / 2147483648) = ((mixN x : Nat) : Int) := by
  have m1 : ∀ a, a % 18446744073709551616 < 18446744073709551616 := fun a => Nat.mod_lt _ (by decide)
  have e1 : IntKind.u64.wrap (bits BinOp.xor IntKind.u64 (x : Int) ((x : Int) / 1073741824) * 13787848793156543929) = (((x ^^^ x / 1073741824) * C1 % M64 : Nat) : Int) := mixStep_u64 x 1073741824 13787848793156543929 hx
  rw [e1]
  obtain ⟨y, hy⟩ : ∃ y, y = (x ^^^ x / 1073741824) * C1 % M64 := ⟨_, rfl⟩
  have hy1 : y < 18446744073709551616 := by rw [hy]; exact m1 _
  have e2 : IntKind.u64.wrap (bits BinOp.xor IntKind.u64 (y : Int) ((y : Int) / 134217728) * 10723151780598845931) = (((y ^^^ y / 134217728) * C2 % M64 : Nat) : Int) := mixStep_u64 y 134217728 10723151780598845931 hy1
  rw [← hy, e2]
  obtain ⟨z, hz⟩ : ∃ z, z = (y ^^^ y / 134217728) * C2 % M64 := ⟨_, rfl⟩
  have hz1 : z < 18446744073709551616 := by rw [hz]; exact m1 _
  have e3 : bits BinOp.xor IntKind.u64 (z : Int) ((z : Int) / 2147483648) = ((z ^^^ z / 2147483648 : Nat) : Int) := xorShift_u64 z 2147483648 hz1
  rw [← hz, e3, hz, hy]
  rfl

theorem mix_c (x : Nat) (hx : x < 18446744073709551616) (w : World) :
    Calls Try.prog 48 #[.int .u64 x] w fun e w' => e = .returned (.int .u64 (mixN x)) ∧ w = w' := by
  have HX := hidp hx
  clear hx
  go_enter Try.func48, Try.ntmps48
  go_wp2
  go_ret
  refine ⟨ret_int ?_, rfl⟩
  exact mixI_eq x HX.out

theorem next_c (x : Nat) (hx : x < 18446744073709551616) (w : World) :
    Calls Try.prog 47 #[.int .u64 x] w fun e w' => e = .returned (.tuple #[.int .u64 ((x + 11400714819323198485) % 18446744073709551616 : Nat), .int .u64 (mixN ((x + 11400714819323198485) % 18446744073709551616))]) ∧ w = w' := by
  have e : IntKind.u64.wrap ((x : Int) + 11400714819323198485) = (((x + 11400714819323198485) % 18446744073709551616 : Nat) : Int) := by rw [IntKind.wrap_u64]; omega
  have c := mix_c ((x + 11400714819323198485) % 18446744073709551616) (Nat.mod_lt _ (by decide))
  have E := hidp e
  have HX := hidp hx
  clear hx e
  go_enter Try.func47, Try.ntmps47
  go_wp2_with fail
  rw [E.out]
  refine (c _).mono ?_; rintro e w' ⟨rfl, rfl⟩
  go_wp2
  go_ret2
  exact ⟨ret_tup2 (v_int (by omega)) rfl, rfl⟩
end Go.Proofs.Ytffocoflmbhknaa
