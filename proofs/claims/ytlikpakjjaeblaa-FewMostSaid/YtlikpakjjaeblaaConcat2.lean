/- slices.Concat of two and of three slices; a slice from some place on. -/
import Derived.Test.YtlikpakjjaeblaaConcat
namespace Go.Proofs.Ytlikpakjjaeblaa
open Go.ChangeShapes Go.WideShapes Go.ChangeAt Go.RowKit
set_option maxRecDepth 20000

def pick2 {α : Type} (x y : α) (i : Nat) : α := if i = 0 then x else y
def pick3 {α : Type} (x y z : α) (i : Nat) : α := if i = 0 then x else if i = 1 then y else z
theorem concat2_c (aa ab : Option Addr) (LA LB ca cb : Nat) (A B : List Int) (W : World) (hA : IntsAt W aa LA ca A) (hB : IntsAt W ab LB cb B) (hL : LA + LB ≤ 100000) :
    Calls Try.prog 17 #[.slice (some ⟨W.heap.size, 0, none⟩) 2 2] (W.alloc (.cells #[.slice aa LA ca, .slice ab LB cb] 22)) fun e w' => ∃ a c, e = .returned (.slice a (LA + LB) c) ∧ IntsAt w' a (LA + LB) c (A ++ B) ∧ Below W.heap.size W w' := by
  have hR : Rws (W.alloc (.cells #[.slice aa LA ca, .slice ab LB cb] 22)) W.heap.size 0 2 (pick2 aa ab) (pick2 LA LB) (pick2 ca cb) (pick2 A B) :=
    ⟨by simp, fun i hi => match i, hi with
      | 0, _ => by unfold World.cell?; rw [heap_alloc_new]; rfl
      | 1, _ => by unfold World.cell?; rw [heap_alloc_new]; rfl,
     fun i hi => match i, hi with
      | 0, _ => hA.below ((Below.refl _ _).alloc (Nat.le_refl _) _)
      | 1, _ => hB.below ((Below.refl _ _).alloc (Nat.le_refl _) _)⟩
  have hsum : sumN (pick2 LA LB) 2 = LA + LB := by simp [sumN, pick2]
  have hcat : catL (pick2 A B) 2 = A ++ B := by simp [catL, pick2]
  have CC := concat_c W.heap.size 0 2 2 _ _ _ _ _ hR (by omega) (by omega) (by rw [hsum]; omega)
  rw [hsum, hcat] at CC
  refine CC.mono ?_
  rintro e w' ⟨v, rfl, hv, hb⟩
  obtain ⟨a, c, rfl, hi⟩ := owns_ints hv (fun x hx => by
    rcases List.mem_append.1 hx with h | h
    · exact hA.bd x h
    · exact hB.bd x h)
  exact ⟨a, c, rfl, hi, bstep (bal (Below.refl _ _) _) hb⟩
theorem concat2_g (aa ab : Option Addr) (LA LB ca cb : Nat) (A B : List Int) (W W' : World) (b0 : Nat) (hb0 : b0 = W.heap.size) (hA : IntsAt W aa LA ca A) (hB : IntsAt W ab LB cb B) (hL : LA + LB ≤ 100000)
    (hW : Below (W.alloc (.cells #[.slice aa LA ca, .slice ab LB cb] 22)).heap.size (W.alloc (.cells #[.slice aa LA ca, .slice ab LB cb] 22)) W') :
    Calls Try.prog 17 #[.slice (some ⟨b0, 0, none⟩) 2 2] W' fun e w' => ∃ a c, e = .returned (.slice a (LA + LB) c) ∧ IntsAt w' a (LA + LB) c (A ++ B) ∧ Below W'.heap.size W' w' := by
  subst hb0
  have hR : Rws (W.alloc (.cells #[.slice aa LA ca, .slice ab LB cb] 22)) W.heap.size 0 2 (pick2 aa ab) (pick2 LA LB) (pick2 ca cb) (pick2 A B) :=
    ⟨by simp, fun i hi => match i, hi with
      | 0, _ => by unfold World.cell?; rw [heap_alloc_new]; rfl
      | 1, _ => by unfold World.cell?; rw [heap_alloc_new]; rfl,
     fun i hi => match i, hi with
      | 0, _ => hA.below ((Below.refl _ _).alloc (Nat.le_refl _) _)
      | 1, _ => hB.below ((Below.refl _ _).alloc (Nat.le_refl _) _)⟩
  have hsum : sumN (pick2 LA LB) 2 = LA + LB := by simp [sumN, pick2]
  have hcat : catL (pick2 A B) 2 = A ++ B := by simp [catL, pick2]
  have CC := concat_c W.heap.size 0 2 2 _ _ _ _ _ (hR.below hW) (by omega) (by omega) (by rw [hsum]; omega)
  rw [hsum, hcat] at CC
  refine CC.mono ?_
  rintro e w' ⟨v, rfl, hv, hb⟩
  obtain ⟨a, c, rfl, hi⟩ := owns_ints hv (fun x hx => by
    rcases List.mem_append.1 hx with h | h
    · exact hA.bd x h
    · exact hB.bd x h)
  exact ⟨a, c, rfl, hi, hb⟩
theorem concat3_c (aa ab ac : Option Addr) (LA LB LC ca cb cc : Nat) (A B C : List Int) (W : World) (hA : IntsAt W aa LA ca A) (hB : IntsAt W ab LB cb B) (hC : IntsAt W ac LC cc C) (hL : LA + LB + LC ≤ 100000) :
    Calls Try.prog 17 #[.slice (some ⟨W.heap.size, 0, none⟩) 3 3] (W.alloc (.cells #[.slice aa LA ca, .slice ab LB cb, .slice ac LC cc] 22)) fun e w' => ∃ a c, e = .returned (.slice a (LA + LB + LC) c) ∧ IntsAt w' a (LA + LB + LC) c (A ++ B ++ C) ∧ Below W.heap.size W w' := by
  have hR : Rws (W.alloc (.cells #[.slice aa LA ca, .slice ab LB cb, .slice ac LC cc] 22)) W.heap.size 0 3 (pick3 aa ab ac) (pick3 LA LB LC) (pick3 ca cb cc) (pick3 A B C) :=
    ⟨by simp, fun i hi => match i, hi with
      | 0, _ => by unfold World.cell?; rw [heap_alloc_new]; rfl
      | 1, _ => by unfold World.cell?; rw [heap_alloc_new]; rfl
      | 2, _ => by unfold World.cell?; rw [heap_alloc_new]; rfl,
     fun i hi => match i, hi with
      | 0, _ => hA.below ((Below.refl _ _).alloc (Nat.le_refl _) _)
      | 1, _ => hB.below ((Below.refl _ _).alloc (Nat.le_refl _) _)
      | 2, _ => hC.below ((Below.refl _ _).alloc (Nat.le_refl _) _)⟩
  have hsum : sumN (pick3 LA LB LC) 3 = LA + LB + LC := by simp [sumN, pick3]
  have hcat : catL (pick3 A B C) 3 = A ++ B ++ C := by simp [catL, pick3]
  have CC := concat_c W.heap.size 0 3 3 _ _ _ _ _ hR (by omega) (by omega) (by rw [hsum]; omega)
  rw [hsum, hcat] at CC
  refine CC.mono ?_
  rintro e w' ⟨v, rfl, hv, hb⟩
  obtain ⟨a, c, rfl, hi⟩ := owns_ints hv (fun x hx => by
    rcases List.mem_append.1 hx with h | h
    · rcases List.mem_append.1 h with h | h
      · exact hA.bd x h
      · exact hB.bd x h
    · exact hC.bd x h)
  exact ⟨a, c, rfl, hi, bstep (bal (Below.refl _ _) _) hb⟩
/-- Where a slice lies that begins T places later. -/
def dropA (a : Option Addr) (T cap : Nat) : Option Addr := if cap = T then a else a.map (·.add T)
theorem IntsAt.drop {w : World} {a : Option Addr} {n c : Nat} {xs : List Int} (h : IntsAt w a n c xs) (T : Nat) (hT : T ≤ n) : IntsAt w (dropA a T c) (n - T) (c - T) (xs.drop T) := by
  have hl := h.len
  have hle := h.le
  have hm := h.max
  refine ⟨by rw [List.length_drop]; omega, by omega, by omega, fun hne => ?_, fun x hx => h.bd x (List.mem_of_mem_drop hx)⟩
  have hlt : T < n := by
    rcases Nat.lt_or_ge T n with h | h
    · exact h
    · rw [List.drop_of_length_le (by omega)] at hne
      exact absurd rfl hne
  have h1 : xs.map (Value.int .i64) ≠ [] := by
    intro e
    rw [List.map_eq_nil_iff] at e
    rw [e] at hl
    simp at hl
    omega
  obtain ⟨b, off, ha, hb, hc⟩ := h.cells h1
  unfold dropA
  rw [if_neg (by omega), ha]
  refine ⟨b, off + T, by simp [addr_add], hb, fun i u hu => ?_⟩
  rw [Nat.add_assoc]
  refine hc (T + i) u ?_
  rw [← hu, List.getElem?_map, List.getElem?_map, List.getElem?_drop]
theorem run_drop (a : Option Addr) (n c T : Nat) (hT : T ≤ n) (W : World) : (Instr.slice 22 (.slice a n c) (some (.int .i64 (T : Int))) none none).run Try.prog W = .ok (.slice (dropA a T c) (n - T) (c - T)) W := by
  have hu : Try.prog.underlying 22 = some (.slice (Try.prog.elem 22)) := by kernel_rfl
  rw [run_slice_l (P := Try.prog) (w := W) 22 a n c hu .i64 (T : Int) (by omega) (by omega), show Try.prog.elem 22 = 3 from by kernel_rfl, Try.sizeOf3]
  simp [Result.andThen, sliced, dropA]
end Go.Proofs.Ytlikpakjjaeblaa
