/- Contract of mix.Of: what the call returns, and that memory stays as it is. -/
import Derived.Test.YtcbklhicellepaaMix
namespace Go.Proofs.Ytcbklhicellepaa
open Go.ChangeShapes Go.WideShapes Go.ChangeAt Go.RowKit
set_option maxRecDepth 20000
open MixMath

def fnvStep (h : Nat) (c : UInt8) : Nat := (h ^^^ c.toNat) * 1099511628211 % 18446744073709551616
def fnv (l : List UInt8) : Nat := l.foldl fnvStep 14695981039346656037
theorem fnv_lt (l : List UInt8) : fnv l < 18446744073709551616 := by
  unfold fnv
  have : ∀ (l : List UInt8) (h : Nat), h < 18446744073709551616 → l.foldl fnvStep h < 18446744073709551616 := by
    intro l
    induction l with
    | nil => intro h hh; exact hh
    | cons c l ih => intro h _; exact ih _ (Nat.mod_lt _ (by decide))
  exact this l _ (by decide)
theorem take_snoc (s : ByteArray) (k : Nat) (h : k < s.size) : s.data.toList.take (k + 1) = s.data.toList.take k ++ [s[k]] := by
  rw [List.take_succ_eq_append_getElem (by simpa using h)]; rfl
theorem fnv_snoc (l : List UInt8) (c : UInt8) : fnv (l ++ [c]) = fnvStep (fnv l) c := by
  unfold fnv; rw [List.foldl_append, List.foldl_cons, List.foldl_nil]
/-- mix.Of of a text that is not too long. -/
def ofN (s : ByteArray) : Nat := mixN (fnv s.data.toList) / 256
theorem ofN_lt (s : ByteArray) : ofN s < 72057594037927936 := by
  unfold ofN
  have := mixN_lt (fnv s.data.toList)
  unfold M64 at this
  omega
theorem fnv_step_int (h : Nat) (c : UInt8) (hh : h < 18446744073709551616) : IntKind.u64.wrap (bits BinOp.xor IntKind.u64 (h : Int) ((c.toNat : Nat) : Int) * 1099511628211) = ((fnvStep h c : Nat) : Int) := by
  have hc := c.toNat_lt
  rw [bits_xor_u64_nat h c.toNat hh (by omega), IntKind.wrap_u64]
  unfold fnvStep
  rw [Int.natCast_emod, Int.natCast_mul]
  rfl

theorem fnv_nil : ((fnv [] : Nat) : Int) = 14695981039346656037 := rfl
theorem fnv_step (l : List UInt8) (c : UInt8) : IntKind.u64.wrap (bits BinOp.xor IntKind.u64 ((fnv l : Nat) : Int) (IntKind.u64.wrap ((c.toNat : Nat) : Int)) * 1099511628211) = ((fnv (l ++ [c]) : Nat) : Int) := by
  have hc := c.toNat_lt
  rw [IntWalk.u64_in ((c.toNat : Nat) : Int) (by constructor <;> omega), fnv_snoc]; exact fnv_step_int _ _ (fnv_lt _)
theorem ofN_eq (s : ByteArray) : RowKit.wrap64 (((mixN (fnv s.data.toList) : Nat) : Int) / 256) = ((ofN s : Nat) : Int) := by
  have hb := ofN_lt s
  unfold ofN at *
  rw [Int.natCast_ediv]
  exact IntWalk.wrap64_in _ (by constructor <;> omega)

/-- The walk, over any function that is reckoned step by step as the loop does. -/
theorem of_any (s : ByteArray) (hs : s.size ≤ 200) (F : List UInt8 → Nat) (h0 : Hid (((F [] : Nat) : Int) = 14695981039346656037)) (h1 : Hid (∀ l c, IntKind.u64.wrap (bits BinOp.xor IntKind.u64 ((F l : Nat) : Int) (IntKind.u64.wrap ((c.toNat : Nat) : Int)) * 1099511628211) = ((F (l ++ [c]) : Nat) : Int)))
    (hlt : Hid (F s.data.toList < 18446744073709551616)) (w : World) :
    Calls Try.prog 5 #[.string s] w fun e w' => e = .returned (.tuple #[.int .i64 (RowKit.wrap64 (((mixN (F s.data.toList) : Nat) : Int) / 256)), .int .i64 0]) ∧ w = w' := by
  go_enter Try.func5, Try.ntmps5
  go_wp2
  go_loop [4, 11] (fun h i => ∃ k : Nat, k ≤ s.size ∧ i = .int .i64 k ∧ h = .int .u64 (F (s.data.toList.take k))) (fun _ i => s.size - (intOf i).toNat)
  case atStart => exact ⟨0, Nat.zero_le _, rfl, v_int h0.out.symm⟩
  case round =>
    obtain ⟨k, hk, rfl, rfl⟩ := hrel
    by_cases hks : k < s.size
    · go_wp2
      go_round
      case rel =>
        refine ⟨k + 1, by omega, by go_num, v_int ?_⟩
        rw [take_snoc s k hks]
        exact h1.out _ _
      case measure => simp [intOf]; omega
    · obtain rfl : k = s.size := by omega
      have e : s.data.toList.take s.size = s.data.toList := List.take_of_length_le (by simp)
      rw [e]
      have c := mix_c (F s.data.toList) hlt.out
      go_wp2_with fail
      refine (c _).mono ?_; rintro e w' ⟨rfl, rfl⟩
      go_wp2
      go_ret2
      exact ⟨rfl, rfl⟩

theorem of_c (s : ByteArray) (hs : s.size ≤ 200) (w : World) :
    Calls Try.prog 5 #[.string s] w fun e w' => e = .returned (.tuple #[.int .i64 (ofN s), .int .i64 0]) ∧ w = w' := by
  have h := of_any s hs fnv (hidp fnv_nil) (hidp fnv_step) (hidp (fnv_lt _)) w
  rw [ofN_eq] at h
  exact h

theorem of_large (s : ByteArray) (hs : 200 < s.size) (h2 : s.size ≤ 9223372036854775807) (w : World) :
    Calls Try.prog 5 #[.string s] w fun e w' => e = .returned (.tuple #[.int .i64 0, .int .i64 2]) ∧ w = w' := by
  go_enter Try.func5, Try.ntmps5
  go_wp2
  go_ret2
  exact ⟨rfl, rfl⟩
end Go.Proofs.Ytcbklhicellepaa
