/- More on slices of pairs: a part of one. -/
import Derived.Test.YtmlkhiffmkkmdaaConcatP
namespace Go.Proofs.Ytmlkhiffmkkmdaa
open Go.ChangeShapes Go.WideShapes Go.ChangeAt Go.RowKit
set_option maxRecDepth 20000
/-- Where l[T:] lies. -/
def dropP (a : Option Addr) (T c : Nat) : Option Addr := if c = T then a else a.map (fun x => x.add (T * 2))
theorem PairsAt.drop {w : World} {a : Option Addr} {n c : Nat} {L : List (ByteArray × ByteArray)} (h : PairsAt w a n c L) (T : Nat) (hT : T ≤ n) : PairsAt w (dropP a T c) (n - T) (c - T) (L.drop T) := by
  have hl := h.len
  have hle := h.le
  have hm := h.max
  have g : ∀ i, pk (L.drop T) i = pk L (T + i) ∧ pv (L.drop T) i = pv L (T + i) := fun i => by
    unfold pk pv
    rw [List.getD_eq_getElem?_getD, List.getD_eq_getElem?_getD, List.getElem?_drop]
    exact ⟨rfl, rfl⟩
  refine ⟨by rw [List.length_drop]; omega, by omega, by omega, fun hn => ?_, fun p hp => h.sz p (List.mem_of_mem_drop hp)⟩
  obtain ⟨b, off, ha, hb, hc⟩ := h.cells (by omega)
  unfold dropP
  rw [if_neg (by omega), ha]
  refine ⟨b, off + T * 2, by simp [addr_add], hb, fun i hi => ?_⟩
  rw [(g i).1, (g i).2, Nat.add_assoc, ← Nat.add_mul]
  exact hc (T + i) (by omega)
theorem run_dropP (a : Option Addr) (n c T : Nat) (hT : T ≤ n) (W : World) : (Instr.slice 22 (.slice a n c) (some (.int .i64 (T : Int))) none none).run Try.prog W = .ok (.slice (dropP a T c) (n - T) (c - T)) W := by
  have hu : Try.prog.underlying 22 = some (.slice (Try.prog.elem 22)) := by kernel_rfl
  rw [run_slice_l (P := Try.prog) (w := W) 22 a n c hu .i64 (T : Int) (by omega) (by omega), show Try.prog.elem 22 = 29 from by kernel_rfl, Try.sizeOf29]
  simp [Result.andThen, sliced, dropP]
theorem run_takeP (a : Option Addr) (n c T : Nat) (hT : T ≤ c) (W : World) : (Instr.slice 22 (.slice a n c) none (some (.int .i64 (T : Int))) none).run Try.prog W = .ok (.slice a T c) W := by
  have hu : Try.prog.underlying 22 = some (.slice (Try.prog.elem 22)) := by kernel_rfl
  rw [run_slice_h (P := Try.prog) (w := W) 22 a n c hu .i64 (T : Int) (by omega) (by omega), show Try.prog.elem 22 = 29 from by kernel_rfl, Try.sizeOf29]
  simp [Result.andThen, sliced]
  intro h
  cases a with
  | none => rfl
  | some x => simp [Addr.add]
theorem concatp2_g (aa ab : Option Addr) (LA LB ca cb : Nat) (A B : List (ByteArray × ByteArray)) (W W' : World) (b0 : Nat) (hb0 : b0 = W.heap.size) (hA : PairsAt W aa LA ca A) (hB : PairsAt W ab LB cb B) (hL : LA + LB ≤ 100000)
    (hW : Below (W.alloc (.cells #[.slice aa LA ca, .slice ab LB cb] 22)).heap.size (W.alloc (.cells #[.slice aa LA ca, .slice ab LB cb] 22)) W') :
    Calls Try.prog 14 #[.slice (some ⟨b0, 0, none⟩) 2 2] W' fun e w' => ∃ a c, e = .returned (.slice a (LA + LB) c) ∧ PairsAt w' a (LA + LB) c (A ++ B) ∧ Below W'.heap.size W' w' := by
  subst hb0
  have hR : RwsP (W.alloc (.cells #[.slice aa LA ca, .slice ab LB cb] 22)) W.heap.size 0 2 (pickP aa ab) (pickP LA LB) (pickP ca cb) (pickP A B) :=
    ⟨by simp, fun i hi => match i, hi with
      | 0, _ => by unfold World.cell?; rw [heap_alloc_new]; rfl
      | 1, _ => by unfold World.cell?; rw [heap_alloc_new]; rfl,
     fun i hi => match i, hi with
      | 0, _ => hA.below ((Below.refl _ _).alloc (Nat.le_refl _) _)
      | 1, _ => hB.below ((Below.refl _ _).alloc (Nat.le_refl _) _)⟩
  have hsum : sumNP (pickP LA LB) 2 = LA + LB := by simp [sumNP, pickP]
  have hcat : catLP (pickP A B) 2 = A ++ B := by simp [catLP, pickP]
  have CC := concatp_c W.heap.size 0 2 2 _ _ _ _ _ (hR.below hW) (by omega) (by omega) (by rw [hsum]; omega)
  rw [hsum, hcat] at CC
  refine CC.mono ?_
  rintro e w' ⟨v, rfl, hv, hb⟩
  obtain ⟨a, c, rfl, hi⟩ := owns_pairs hv (fun p hp => (List.mem_append.1 hp).elim (hA.sz p) (hB.sz p))
  exact ⟨a, c, rfl, hi, hb⟩
/-- Where an alloc may come up. -/
theorem eB (V : World) (o : Obj) : V.heap.size + 1 = (V.drew.alloc o).heap.size := by simp
theorem hA (V : World) (r : Obj) : Below (V.drew.alloc r).heap.size (V.drew.alloc r) (V.alloc r).drew := Below.refl _ _
theorem hB (V : World) (o r : Obj) : Below ((V.drew.alloc o).alloc r).heap.size ((V.drew.alloc o).alloc r) ((V.alloc o).alloc r).drew := Below.refl _ _
theorem hC (V : World) (r o : Obj) : Below (V.drew.alloc r).heap.size (V.drew.alloc r) ((V.alloc r).alloc o).drew := (Below.refl _ _).alloc (Nat.le_refl _) o
end Go.Proofs.Ytmlkhiffmkkmdaa
