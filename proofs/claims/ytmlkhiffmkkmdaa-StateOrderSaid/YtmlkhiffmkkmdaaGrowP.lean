/- Contract of slices.Grow at a nil slice of pairs of texts. (The laying of the library's contract: as the shelf's plain mode writes it.) -/
import Derived.Shelf.Spec.SlicesGrow
import Derived.Test.YtmlkhiffmkkmdaaPairs
namespace Go.Proofs.Ytmlkhiffmkkmdaa
open Go.ChangeShapes Go.WideShapes Go.ChangeAt Go.RowKit
set_option maxRecDepth 20000
open Go.Shelf

def growRenP : Go.Shelf.Ren := ⟨fun | 4 => 33 | n => n, fun | 22 => 22 | 25 => 29 | 3 => 3 | 4 => 4 | 9 => 9 | 20 => 20 | 0 => 0 | n => n, fun | n => n⟩
theorem growLaysP : Go.Proofs.Lays8.n4 Try.prog growRenP := {
  mixed := by kernel_rfl
  f4 := ⟨Try.f33.name, by decide, Try.func33.trans (congrArg some (by kernel_rfl))⟩
  t0 := Try.underlying0
  a0 := Try.isAgg0
  z0 := Try.sizeOf0
  v0 := Try.zeroValue0
  t3 := Try.underlying3
  a3 := Try.isAgg3
  z3 := Try.sizeOf3
  v3 := Try.zeroValue3
  t4 := Try.underlying4
  a4 := Try.isAgg4
  z4 := Try.sizeOf4
  v4 := Try.zeroValue4
  t9 := Try.underlying9
  a9 := Try.isAgg9
  z9 := Try.sizeOf9
  v9 := Try.zeroValue9
  t20 := Try.underlying20
  a20 := Try.isAgg20
  z20 := Try.sizeOf20
  v20 := Try.zeroValue20
  t22 := Try.underlying22
  a22 := Try.isAgg22
  z22 := Try.sizeOf22
  v22 := Try.zeroValue22 }
theorem growp_c (n : Nat) (hn1 : 1 ≤ n) (hn : n ≤ 1000000) (w : World) :
    Calls Try.prog 33 #[.slice none 0 0, .int .i64 n] w fun e w' => ∃ v, e = .returned v ∧ w'.ownsRow w.heap.size 29 2 v 0 [] ∧ Below w.heap.size w w' := by
  obtain ⟨i0, hi, hz0, hz1, hz2⟩ := info_parts info_pair
  refine (Any8.slices_Grow_grow growLaysP i0 (.agg #[.string ⟨#[]⟩, .string ⟨#[]⟩]) hi hz0 (by rw [hz1]; omega) none 0 0 n [] w (by omega) (by omega) (by rw [hz2]; omega) (by omega) (by simp) (fun _ => rfl) (fun a h => by cases h)).mono ?_
  rintro e w' ⟨rfl, rfl⟩
  refine ⟨_, rfl, ⟨rfl, .inr ⟨w.heap.size, _, _, rfl, Nat.le_refl _, heap_alloc_new w.drew _, Nat.zero_le _, grownCap_le_maxLen w (0 + n) 0 _ (by unfold maxLen; omega), ?_, ?_⟩⟩, (Below.refl _ _).drew.alloc (by simp) _⟩
  · have hge := grownCap_ge w (0 + n) 0 (growRenP.t 25)
    rw [Nat.zero_add] at hge ⊢
    simp only [Array.size_append, List.size_toArray, size_zeroCells, List.length_nil]
    show 0 + (n - 0) * 2 + (grownCap w n 0 (growRenP.t 25) - n) * 2 = grownCap w n 0 (growRenP.t 25) * 2
    omega
  · simp
theorem growp_zero (w : World) :
    Calls Try.prog 33 #[.slice none 0 0, .int .i64 0] w fun e w' => ∃ v, e = .returned v ∧ w'.ownsRow w.heap.size 29 2 v 0 [] ∧ Below w.heap.size w w' := by
  go_enter Try.func33, Try.ntmps33
  go_wp2
  go_ret
  exact ⟨_, rfl, World.ownsRow_nil _ _ _ _, Below.refl _ _⟩
end Go.Proofs.Ytmlkhiffmkkmdaa
