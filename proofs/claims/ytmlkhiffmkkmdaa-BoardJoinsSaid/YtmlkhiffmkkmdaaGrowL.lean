/- Contract of slices.Grow at a nil slice of slices of integers. (The laying of the library's contract: as the shelf's plain mode writes it.) -/
import Derived.Shelf.Spec.SlicesGrow
import Derived.Test.YtmlkhiffmkkmdaaKit
namespace Go.Proofs.Ytmlkhiffmkkmdaa
open Go.ChangeShapes Go.WideShapes Go.ChangeAt Go.RowKit
set_option maxRecDepth 20000
open Go.Shelf

def growRenL : Go.Shelf.Ren := ⟨fun | 4 => 48 | n => n, fun | 22 => 47 | 25 => 38 | 3 => 3 | 4 => 4 | 9 => 9 | 20 => 20 | 0 => 0 | n => n, fun | n => n⟩
theorem growLaysL : Go.Proofs.Lays8.n4 Try.prog growRenL := {
  mixed := by kernel_rfl
  f4 := ⟨Try.f48.name, by decide, Try.func48.trans (congrArg some (by kernel_rfl))⟩
  t0 := Try.underlying0
  a0 := Try.isAgg0
  z0 := Try.sizeOf0
  v0 := Try.zeroValue0
  t3 := Try.underlying3
  a3 := Try.isAgg3
  z3 := Try.sizeOf3
  v3 := Try.zeroValue3
  t4 := Try.underlying4
  a4 := Try.isAgg4
  z4 := Try.sizeOf4
  v4 := Try.zeroValue4
  t9 := Try.underlying9
  a9 := Try.isAgg9
  z9 := Try.sizeOf9
  v9 := Try.zeroValue9
  t20 := Try.underlying20
  a20 := Try.isAgg20
  z20 := Try.sizeOf20
  v20 := Try.zeroValue20
  t22 := Try.underlying47
  a22 := Try.isAgg47
  z22 := Try.sizeOf47
  v22 := Try.zeroValue47 }
theorem info_sl : (Try.prog.info? 38).map (fun i => (i.zero, i.size, i.bytes)) = some (some (.slice none 0 0), 1, 24) := by kernel_rfl
theorem growl_c (n : Nat) (hn1 : 1 ≤ n) (hn : n ≤ 1000000) (w : World) :
    Calls Try.prog 48 #[.slice none 0 0, .int .i64 n] w fun e w' => ∃ v, e = .returned v ∧ w'.ownsRow w.heap.size 38 1 v 0 [] ∧ Below w.heap.size w w' := by
  obtain ⟨i0, hi, hz0, hz1, hz2⟩ := info_parts info_sl
  refine (Any8.slices_Grow_grow growLaysL i0 (.slice none 0 0) hi hz0 (by rw [hz1]; omega) none 0 0 n [] w (by omega) (by omega) (by rw [hz2]; omega) (by omega) (by simp) (fun _ => rfl) (fun a h => by cases h)).mono ?_
  rintro e w' ⟨rfl, rfl⟩
  refine ⟨_, rfl, ⟨rfl, .inr ⟨w.heap.size, _, _, rfl, Nat.le_refl _, heap_alloc_new w.drew _, Nat.zero_le _, grownCap_le_maxLen w (0 + n) 0 _ (by unfold maxLen; omega), ?_, ?_⟩⟩, (Below.refl _ _).drew.alloc (by simp) _⟩
  · have hge := grownCap_ge w (0 + n) 0 (growRenL.t 25)
    rw [Nat.zero_add] at hge ⊢
    simp only [Array.size_append, List.size_toArray, size_zeroCells, List.length_nil]
    show 0 + (n - 0) * 1 + (grownCap w n 0 (growRenL.t 25) - n) * 1 = grownCap w n 0 (growRenL.t 25) * 1
    omega
  · simp
theorem growl_zero (w : World) :
    Calls Try.prog 48 #[.slice none 0 0, .int .i64 0] w fun e w' => ∃ v, e = .returned v ∧ w'.ownsRow w.heap.size 38 1 v 0 [] ∧ Below w.heap.size w w' := by
  go_enter Try.func48, Try.ntmps48
  go_wp2
  go_ret
  exact ⟨_, rfl, World.ownsRow_nil _ _ _ _, Below.refl _ _⟩
end Go.Proofs.Ytmlkhiffmkkmdaa
