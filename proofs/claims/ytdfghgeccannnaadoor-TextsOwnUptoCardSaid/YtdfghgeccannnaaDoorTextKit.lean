/- Kit for the walk of TextsOwn: rows with room behind them, slices.Contains at Booleans. -/
import Derived.Test.YtdfghgeccannnaaDoorMgXTAll
namespace Go.Proofs.YtdfghgeccannnaaDoor
open Go.ChangeShapes Go.WideShapes Go.ChangeAt Go.RowKit
set_option maxRecDepth 20000
noncomputable def cdT (k : Nat) : Code := restC k (Tryd.f3.body.getD .skip)
def markS : ByteArray := ⟨#[109, 97, 114, 107]⟩
/-- A row of pairs, of spans. -/
def pE (v : Value) (n : Nat) (L : List (ByteArray × ByteArray)) : Ent := ⟨32, 2, v, n, psV L⟩
def spE (v : Value) (n : Nat) (u l : Nat → Int) : Ent := ⟨36, 2, v, n, spanCells u l n⟩
theorem pairs_room {B : Nat} {W : World} {g n : Nat} {L : List (ByteArray × ByteArray)} {x y : ByteArray} (h : W.ownsRow B 32 2 (.slice (some ⟨g, 0, none⟩) (n + 3) (n + 3)) (n + 3) (psV L ++ [.string x, .string y, .string x, .string y, .string x, .string y])) (hs : ∀ p ∈ L, p.1.size ≤ 9223372036854775807 ∧ p.2.size ≤ 9223372036854775807) : PairsAt W (some ⟨g, 0, none⟩) n (n + 3) L ∧ g < W.heap.size ∧ ∀ i, i < 3 → W.cell? ⟨g, (n + i) * 2 + 0, none⟩ = some (.string x) ∧ W.cell? ⟨g, (n + i) * 2 + 1, none⟩ = some (.string y) := by
  have hl : (psV L).length = n * 2 := by have := h.1; simp at this; omega
  have hsh := owns_short h n (by omega)
  rw [List.take_left' hl] at hsh
  obtain ⟨a, c, hv, hI⟩ := owns_pairs hsh hs
  simp only [Value.slice.injEq] at hv
  obtain ⟨rfl, _, rfl⟩ := hv
  refine ⟨hI, (h.lt g rfl).2, fun i hi => ⟨?_, ?_⟩⟩
  · have h1 := World.ownsRow.cellAt h ((n + i) * 2) (by omega)
    rw [Nat.add_zero, h1, List.getElem?_append_right (by omega), hl, show (n + i) * 2 - n * 2 = i * 2 by omega]
    match i, hi with
    | 0, _ => rfl
    | 1, _ => rfl
    | 2, _ => rfl
  · have h1 := World.ownsRow.cellAt h ((n + i) * 2 + 1) (by omega)
    rw [h1, List.getElem?_append_right (by omega), hl, show (n + i) * 2 + 1 - n * 2 = i * 2 + 1 by omega]
    match i, hi with
    | 0, _ => rfl
    | 1, _ => rfl
    | 2, _ => rfl
theorem spans_room {B : Nat} {W : World} {g n : Nat} {u l : Nat → Int} {x y : Int} (h : W.ownsRow B 36 2 (.slice (some ⟨g, 0, none⟩) (n + 3) (n + 3)) (n + 3) (spanCells u l n ++ [.int .i64 x, .int .i64 y, .int .i64 x, .int .i64 y, .int .i64 x, .int .i64 y])) : SpansAt W (some ⟨g, 0, none⟩) n (n + 3) (tab u n) (tab l n) ∧ g < W.heap.size ∧ ∀ i, i < 3 → W.cell? ⟨g, (n + i) * 2 + 0, none⟩ = some (.int .i64 x) ∧ W.cell? ⟨g, (n + i) * 2 + 1, none⟩ = some (.int .i64 y) := by
  have hl := spanCells_len u l n
  have hsh := owns_short h n (by omega)
  rw [List.take_left' hl] at hsh
  obtain ⟨a, c, hv, hI⟩ := owns_spans hsh
  simp only [Value.slice.injEq] at hv
  obtain ⟨rfl, _, rfl⟩ := hv
  refine ⟨hI, (h.lt g rfl).2, fun i hi => ⟨?_, ?_⟩⟩
  · have h1 := World.ownsRow.cellAt h ((n + i) * 2) (by omega)
    rw [Nat.add_zero, h1, List.getElem?_append_right (by omega), hl, show (n + i) * 2 - n * 2 = i * 2 by omega]
    match i, hi with
    | 0, _ => rfl
    | 1, _ => rfl
    | 2, _ => rfl
  · have h1 := World.ownsRow.cellAt h ((n + i) * 2 + 1) (by omega)
    rw [h1, List.getElem?_append_right (by omega), hl, show (n + i) * 2 + 1 - n * 2 = i * 2 + 1 by omega]
    match i, hi with
    | 0, _ => rfl
    | 1, _ => rfl
    | 2, _ => rfl
theorem rules_room {B : Nat} {W : World} {g n : Nat} {L : List Rl} {x : ByteArray} {y z : Int} (h : W.ownsRow B 39 3 (.slice (some ⟨g, 0, none⟩) (n + 3) (n + 3)) (n + 3) (rsV L ++ [.string x, .int .i64 y, .int .i64 z, .string x, .int .i64 y, .int .i64 z, .string x, .int .i64 y, .int .i64 z])) : RulesAt W (some ⟨g, 0, none⟩) n (n + 3) L ∧ g < W.heap.size ∧ ∀ i, i < 3 → W.cell? ⟨g, (n + i) * 3 + 0, none⟩ = some (.string x) ∧ W.cell? ⟨g, (n + i) * 3 + 1, none⟩ = some (.int .i64 y) ∧ W.cell? ⟨g, (n + i) * 3 + 2, none⟩ = some (.int .i64 z) := by
  have hl : (rsV L).length = n * 3 := by have := h.1; simp at this; omega
  have hsh := owns_short h n (by omega)
  rw [List.take_left' hl] at hsh
  obtain ⟨a, c, hv, hI⟩ := owns_rules hsh
  simp only [Value.slice.injEq] at hv
  obtain ⟨rfl, _, rfl⟩ := hv
  refine ⟨hI, (h.lt g rfl).2, fun i hi => ⟨?_, ?_, ?_⟩⟩
  · have h1 := World.ownsRow.cellAt h ((n + i) * 3) (by omega)
    rw [Nat.add_zero, h1, List.getElem?_append_right (by omega), hl, show (n + i) * 3 - n * 3 = i * 3 by omega]
    match i, hi with
    | 0, _ => rfl
    | 1, _ => rfl
    | 2, _ => rfl
  · have h1 := World.ownsRow.cellAt h ((n + i) * 3 + 1) (by omega)
    rw [h1, List.getElem?_append_right (by omega), hl, show (n + i) * 3 + 1 - n * 3 = i * 3 + 1 by omega]
    match i, hi with
    | 0, _ => rfl
    | 1, _ => rfl
    | 2, _ => rfl
  · have h1 := World.ownsRow.cellAt h ((n + i) * 3 + 2) (by omega)
    rw [h1, List.getElem?_append_right (by omega), hl, show (n + i) * 3 + 2 - n * 3 = i * 3 + 2 by omega]
    match i, hi with
    | 0, _ => rfl
    | 1, _ => rfl
    | 2, _ => rfl
/-- slices.Index and slices.Contains, where none is true. -/
theorem indexb_c (a : Option Addr) (n c : Nat) (bs : List Bool) (w : World) (h : BoolsAt w a n c bs) (hf : ∀ i, i < n → gb bs i = false) :
    Calls Tryd.prog 48 #[.slice a n c, .bool true] w fun e w' => e = .returned (.int .i64 (-1)) ∧ Below w.heap.size w w' := by
  have mm := h.max
  have ee := h.le
  rcases Nat.eq_zero_or_pos n with hz | hz
  · subst hz
    clear h hf
    go_enter Tryd.func48, Tryd.ntmps48
    go_wp2_with fail
    refine wp_loop_rounds 1 ?_; rw [rounds_succ]
    go_wp2
    go_ret
    exact ⟨rfl, Below.refl _ _⟩
  · obtain ⟨b, o, rfl, hlt, hc⟩ := h.cells hz
    have C := hidp (fun i (hi : i < n) => (show w.cell? ⟨b, o + i, none⟩ = some (.bool false) by rw [hc i hi, hf i hi]))
    clear hc h hf
    go_enter Tryd.func48, Tryd.ntmps48
    go_wp2_with fail
    go_loopw [8] (fun i wr => ∃ k : Nat, k ≤ n ∧ i = .int .i64 k ∧ Below w.heap.size w wr) (fun i _ => n - (intOf i).toNat)
    case atStart => exact ⟨0, by omega, rfl, Below.refl _ _⟩
    case round =>
      obtain ⟨k, hk, rfl, hbl⟩ := hrel
      by_cases hlt2 : k < n
      · have q0 := carry_cell ⟨hlt, C.out k hlt2⟩ hbl
        have hlI : (k : Int) < (n : Int) := by omega
        go_wp2
        go_roundw
        case rel => exact ⟨k + 1, by omega, by go_num, hbl⟩
        case measure => simp [intOf]; omega
      · obtain rfl : k = n := by omega
        go_wp2
        go_ret
        exact ⟨rfl, hbl⟩
theorem containsb_c (a : Option Addr) (n c : Nat) (bs : List Bool) (w : World) (h : BoolsAt w a n c bs) (hf : ∀ i, i < n → gb bs i = false) :
    Calls Tryd.prog 23 #[.slice a n c, .bool true] w fun e w' => e = .returned (.bool false) ∧ Below w.heap.size w w' := by
  have C := hidp (indexb_c a n c bs w h hf)
  clear h hf
  go_enter Tryd.func23, Tryd.ntmps23
  go_wp2_with fail
  refine C.out.mono ?_
  rintro e w' ⟨rfl, hb⟩
  clear C
  go_wp2
  go_ret
  exact ⟨rfl, hb⟩
end Go.Proofs.YtdfghgeccannnaaDoor
