/- Contract of hexa.ParseTh at every text. -/
import Derived.Test.YtdfghgeccannnaaDoorMgParse
namespace Go.Proofs.YtdfghgeccannnaaDoor
open Go.ChangeShapes Go.WideShapes Go.ChangeAt Go.RowKit
set_option maxRecDepth 20000

theorem size0 (s : ByteArray) (h : s.size = 0) : s = ⟨#[]⟩ := by
  apply ByteArray.ext
  apply Array.ext'
  exact List.eq_nil_of_length_eq_zero h
theorem index_last (s : ByteArray) (h : 1 ≤ s.size) (w : World) : (Instr.index 9 (Value.string s) (Value.int .i64 ((s.size : Int) - 1))).run Tryd.prog w = .ok (.int .u8 (byt s (s.size - 1) : Nat)) w := by
  have := index_byt s (s.size - 1) (by omega) w
  rw [show ((s.size - 1 : Nat) : Int) = (s.size : Int) - 1 by omega] at this
  exact this
theorem eq_empty1 (s : ByteArray) (h : s.size = 0) : s.toList = [] ∧ s.toList.isEmpty = true := by
  rw [size0 s h]; decide +kernel
theorem eq_empty0 (s : ByteArray) (h : ¬ s.size = 0) : ¬ s.toList = [] ∧ s.toList.isEmpty = false := by
  have : ¬ s.toList = [] := by
    rw [ByteArray.toList_eq]
    intro e
    apply h
    have : s.data.toList.length = 0 := by rw [e]; rfl
    exact this
  exact ⟨this, by cases h : s.toList with | nil => exact absurd h this | cons a l => rfl⟩
end Go.Proofs.YtdfghgeccannnaaDoor
