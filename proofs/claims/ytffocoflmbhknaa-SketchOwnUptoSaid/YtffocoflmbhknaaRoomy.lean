/- Contracts of the generic helpers of own.go at integers: roomy, marked, spoil. -/
import Derived.Test.YtffocoflmbhknaaFr
import Derived.Deep.OwnRows
namespace Go.Proofs.Ytffocoflmbhknaa
open Go.ChangeShapes Go.WideShapes Go.ChangeAt Go.RowKit
set_option maxRecDepth 20000
set_option maxHeartbeats 1000000 in
theorem roomyi_c (a : Option Addr) (n c : Nat) (xs : List Int) (x : Int) (w : World) (h : IntsAt w a n c xs) (HC0 : a = none → c = 0) (hn : n ≤ 17592186043904) :
    Calls Try.prog 33 #[.slice a n c, .int .i64 x] w fun e w' => ∃ g, e = .returned (.slice (some ⟨g, 0, none⟩) n (n + 3)) ∧ w'.ownsRow w.heap.size 3 1 (.slice (some ⟨g, 0, none⟩) (n + 3) (n + 3)) (n + 3) ((xs ++ [x, x, x]).map (Value.int .i64)) ∧ Below w.heap.size w w' := by
  have m := h.max
  have l := h.le
  have hl := h.len
  have hmk : ∀ W : World, (Instr.makeSlice 53 (.int .i64 0) (.int .i64 ((n : Int) + 3))).run Try.prog W = .ok (.slice (some ⟨W.heap.size, 0, none⟩) 0 (n + 3)) (W.alloc (.cells (madeCells #[.int .i64 0] (n + 3)) 3)) := by
    intro W
    obtain ⟨i0, hi, hz0, hz1, hz2⟩ := info_parts info_int
    have hr := run_make (P := Try.prog) W 53 3 i0 _ Try.underlying53 hi hz0 .i64 .i64 0 ((n : Int) + 3) (by omega) (by omega) (by rw [hz2]; omega) (by omega)
    rw [hr, hz1, Nat.mul_one]
    rfl
  have HN : a = none → n = 0 ∧ c = 0 := by
    intro ha
    subst ha
    have hn0 : n = 0 := by
      rcases Nat.eq_zero_or_pos n with hz | hz
      · exact hz
      · obtain ⟨b, o, hb, _⟩ := h.addr hz
        cases hb
    exact ⟨hn0, HC0 rfl⟩
  have hcells : ∀ o b, a = some b → ∀ j u, (xs.map (Value.int .i64))[j]? = some u → (w.alloc o).cell? (b.add j) = some u := by
    intro o b hb j u hu
    have hpos : 0 < n := by
      have := (List.getElem?_eq_some_iff.1 hu).1
      simp at this; omega
    obtain ⟨b', off, hb', hlt, hc⟩ := h.cells (fun e => by rw [List.map_eq_nil_iff] at e; rw [e] at hl; simp at hl; omega)
    rw [hb] at hb'
    cases hb'
    rw [addr_add]
    exact carry_cell ⟨hlt, hc j u hu⟩ ((Below.refl _ _).alloc (Nat.le_refl _) o)
  have HC := hidp hcells
  have OW := hidp (World.ownsRow_made (base := w.heap.size) (e := 3) (size := 1) w (madeCells #[.int .i64 0] (n + 3)) (n + 3) (Nat.le_refl _) (by unfold maxLen; omega) (by rw [size_madeCells]; omega))
  have HL := hidp hl
  clear hcells h hl HC0
  go_enter Try.func33, Try.ntmps33
  go_wp2_with (at_builtin; refine wpList_append_fits rfl (.tmp 10) (.tmp 11) 53 rfl w.heap.size 3 (.int .i64 0) 1 8 Try.underlying53 info_int w.heap.size 0 (n + 3) [] rfl OW.out a n c (xs.map (Value.int .i64)) rfl (by rw [List.length_map, HL.out]; omega) HN (HC.out _) (ints_oneCell _ _) (by omega) ?_; intro w1 h1 h2)
  rw [Nat.zero_add, List.nil_append] at h1
  have hb1 : Below w.heap.size w w1 := ((Below.refl _ _).alloc (Nat.le_refl _) _).grown h2 (by simp) (fun k hk => by cases hk; exact Nat.le_refl _)
  obtain ⟨ys, y1, y2⟩ := owns_full h1
  rw [Nat.mul_one] at y2
  clear h1 h2 OW HC HN hmk
  go_loopw [13] (fun i wr => ∃ (k : Nat) (ys : List Value), k ≤ 3 ∧ i = .int .i64 k ∧ wr.ownsRow w.heap.size 3 1 (.slice (some ⟨w.heap.size, 0, none⟩) (n + 3) (n + 3)) (n + 3) ys ∧ ys.take n = xs.map (Value.int .i64) ∧ Hid (∀ j, j < k → ys[n + j]? = some (.int .i64 x)) ∧ Below w.heap.size w wr) (fun i _ => 3 - (intOf i).toNat)
  case atStart => exact ⟨0, ys, by omega, rfl, y1, y2, hidp (fun j hj => by omega), hb1⟩
  case round =>
    obtain ⟨k, zs, hk, rfl, hO, hT, hX, hB⟩ := hrel
    have hlz := hO.1
    by_cases hlt : k < 3
    · have f1 := hO.frozenAt (n + k)
      have c1 : ∃ u, wr.cell? ⟨w.heap.size, n + k, none⟩ = some u := ⟨zs[n + k]'(by omega), by rw [hO.cellAt (n + k) (by omega), List.getElem?_eq_getElem (by omega)]⟩
      obtain ⟨u, c1⟩ := c1
      have N1 := hidp (hO.stored (n + k) (.int .i64 x)).1
      go_wp2
      go_roundw
      case rel =>
        refine ⟨k + 1, _, by omega, by go_num, N1.out, ?_, hidp (fun j hj => ?_), (hB.setCell (p := ⟨w.heap.size, n + k, none⟩) (Nat.le_refl _) _)⟩
        · rw [List.take_set_of_le (by omega)]; exact hT
        · rw [List.getElem?_set]
          by_cases e : j = k
          · subst e; rw [if_pos rfl, if_pos (by omega)]
          · rw [if_neg (by omega)]; exact hX.out j (by omega)
      case measure => simp [intOf]; omega
    · obtain rfl : k = 3 := by omega
      go_wp2
      go_ret
      refine ⟨_, rfl, ?_, hB⟩
      have : zs = (xs ++ [x, x, x]).map (Value.int .i64) := by
        apply List.ext_getElem?
        intro j
        have hl := HL.out
        by_cases hj : j < n
        · have := congrArg (fun l => l[j]?) hT
          simp only [List.getElem?_take, if_pos hj] at this
          rw [this, List.map_append, List.getElem?_append_left (by simp; omega)]
        · by_cases hj2 : j < n + 3
          · have := hX.out (j - n) (by omega)
            rw [show n + (j - n) = j by omega] at this
            rw [this, List.map_append, List.getElem?_append_right (by simp; omega)]
            simp only [List.length_map, hl]
            have h3 : j - n = 0 ∨ j - n = 1 ∨ j - n = 2 := by omega
            rcases h3 with e | e | e <;> rw [e] <;> rfl
          · rw [List.getElem?_eq_none (by omega), List.getElem?_eq_none (by simp; omega)]
      rw [← this]
      exact hO

/-- Does the mark stand in the room? -/
theorem markedi_c (g n : Nat) (x : Int) (w : World) (hn : n ≤ 17592186043904) (hc : ∀ i, i < 3 → w.cell? ⟨g, n + i, none⟩ = some (.int .i64 x)) :
    Calls Try.prog 20 #[.slice (some ⟨g, 0, none⟩) n (n + 3), .int .i64 x] w fun e w' => e = .returned (.bool true) ∧ Below w.heap.size w w' := by
  have C := hidp hc
  clear hc
  go_enter Try.func20, Try.ntmps20
  go_wp2_with fail
  go_loopw [14] (fun i wr => ∃ (k : Nat), k ≤ 3 ∧ i = .int .i64 k ∧ Below w.heap.size w wr) (fun i _ => 3 - (intOf i).toNat)
  case atStart => exact ⟨0, by omega, rfl, Below.refl _ _⟩
  case round =>
    obtain ⟨k, hk, rfl, hB⟩ := hrel
    by_cases hlt : k < 3
    · have c1 := ck hB (C.out k hlt)
      have hlt' : k < n + 3 - n := by omega
      go_wp2
      go_roundw
      case rel => exact ⟨k + 1, by omega, by go_num, hB⟩
      case measure => simp [intOf]; omega
    · obtain rfl : k = 3 := by omega
      go_wp2
      go_ret
      exact ⟨rfl, hB⟩
set_option maxHeartbeats 1000000 in
/-- A row is spoilt: nothing else changes. -/
theorem spoili_c (v : Value) (n B : Nat) (xs : List Value) (x : Int) (w : World) (h : w.ownsRow B 3 1 v n xs) :
    Calls Try.prog 23 #[v, .int .i64 x] w fun e w' => e = .returned (.tuple #[]) ∧ w.grownBy w' v.ownBlock := by
  rcases h.2 with ⟨rfl, rfl⟩ | ⟨g, cap, cur, rfl, hg, hh, hn, hm, hs, ht⟩
  · clear h
    go_enter Try.func23, Try.ntmps23
    go_wp2_with fail
    refine wp_loop_rounds 1 ?_; rw [rounds_succ]
    go_wp2
    go_end0
    exact ⟨rfl, ⟨rfl, rfl, rfl, Nat.le_refl _, fun _ _ _ => rfl⟩⟩
  · obtain ⟨ys, hO, _⟩ := owns_full h
    clear h hh hs ht cur
    unfold maxLen at hm
    go_enter Try.func23, Try.ntmps23
    go_wp2_with fail
    go_loopw [11] (fun i wr => ∃ (k : Nat) (ys : List Value), k ≤ cap ∧ i = .int .i64 k ∧ wr.ownsRow B 3 1 (.slice (some ⟨g, 0, none⟩) cap cap) cap ys ∧ w.grownBy wr (some g)) (fun i _ => cap - (intOf i).toNat)
    case atStart => exact ⟨0, ys, by omega, rfl, hO, ⟨rfl, rfl, rfl, Nat.le_refl _, fun _ _ _ => rfl⟩⟩
    case round =>
      obtain ⟨k, zs, hk, rfl, hO, hG⟩ := hrel
      have hlz := hO.1
      by_cases hlt : k < cap
      · have f1 := hO.frozenAt k
        have c1 : ∃ u, wr.cell? ⟨g, k, none⟩ = some u := ⟨zs[k]'(by omega), by rw [hO.cellAt k (by omega), List.getElem?_eq_getElem (by omega)]⟩
        obtain ⟨u, c1⟩ := c1
        have N1 := hidp (hO.stored k (.int .i64 x))
        go_wp2
        go_roundw
        case rel => exact ⟨k + 1, _, by omega, by go_num, N1.out.1, hG.trans N1.out.2⟩
        case measure => simp [intOf]; omega
      · obtain rfl : k = cap := by omega
        go_wp2
        go_end0
        exact ⟨rfl, hG⟩
end Go.Proofs.Ytffocoflmbhknaa
