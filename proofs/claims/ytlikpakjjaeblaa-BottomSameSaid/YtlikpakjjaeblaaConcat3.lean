/- slices.Concat of three rows, in a later world. -/
import Derived.Test.YtlikpakjjaeblaaConcat2
namespace Go.Proofs.Ytlikpakjjaeblaa
open Go.ChangeShapes Go.WideShapes Go.ChangeAt Go.RowKit
set_option maxRecDepth 20000
theorem concat3_g (aa ab ac : Option Addr) (LA LB LC ca cb cc : Nat) (A B C : List Int) (W W' : World) (b0 : Nat) (hb0 : b0 = W.heap.size) (hA : IntsAt W aa LA ca A) (hB : IntsAt W ab LB cb B) (hC : IntsAt W ac LC cc C) (hL : LA + LB + LC ≤ 100000)
    (hW : Below (W.alloc (.cells #[.slice aa LA ca, .slice ab LB cb, .slice ac LC cc] 22)).heap.size (W.alloc (.cells #[.slice aa LA ca, .slice ab LB cb, .slice ac LC cc] 22)) W') :
    Calls Try.prog 17 #[.slice (some ⟨b0, 0, none⟩) 3 3] W' fun e w' => ∃ a c, e = .returned (.slice a (LA + LB + LC) c) ∧ IntsAt w' a (LA + LB + LC) c (A ++ B ++ C) ∧ Below W'.heap.size W' w' := by
  subst hb0
  have hR : Rws (W.alloc (.cells #[.slice aa LA ca, .slice ab LB cb, .slice ac LC cc] 22)) W.heap.size 0 3 (pick3 aa ab ac) (pick3 LA LB LC) (pick3 ca cb cc) (pick3 A B C) :=
    ⟨by simp, fun i hi => match i, hi with
      | 0, _ => by unfold World.cell?; rw [heap_alloc_new]; rfl
      | 1, _ => by unfold World.cell?; rw [heap_alloc_new]; rfl
      | 2, _ => by unfold World.cell?; rw [heap_alloc_new]; rfl,
     fun i hi => match i, hi with
      | 0, _ => hA.below ((Below.refl _ _).alloc (Nat.le_refl _) _)
      | 1, _ => hB.below ((Below.refl _ _).alloc (Nat.le_refl _) _)
      | 2, _ => hC.below ((Below.refl _ _).alloc (Nat.le_refl _) _)⟩
  have hsum : sumN (pick3 LA LB LC) 3 = LA + LB + LC := by simp [sumN, pick3]
  have hcat : catL (pick3 A B C) 3 = A ++ B ++ C := by simp [catL, pick3]
  have CC := concat_c W.heap.size 0 3 3 _ _ _ _ _ (hR.below hW) (by omega) (by omega) (by rw [hsum]; omega)
  rw [hsum, hcat] at CC
  refine CC.mono ?_
  rintro e w' ⟨v, rfl, hv, hb⟩
  obtain ⟨a, c, rfl, hi⟩ := owns_ints hv (fun x hx => by
    rcases List.mem_append.1 hx with h | h
    · rcases List.mem_append.1 h with h | h
      · exact hA.bd x h
      · exact hB.bd x h
    · exact hC.bd x h)
  exact ⟨a, c, rfl, hi, hb⟩
end Go.Proofs.Ytlikpakjjaeblaa
