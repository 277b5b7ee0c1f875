/- Contracts of the generic helpers of own.go at cullender/api.Span, in terms of cells (printed by genroomy.py). -/
import Derived.Test.YtdfghgeccannnaaDoorFr
import Derived.Deep.OwnRows
import Derived.RegionTactic
import Derived.ChangeAlike
namespace Go.Proofs.YtdfghgeccannnaaDoor
open Go.ChangeShapes Go.WideShapes Go.ChangeAt Go.RowKit
set_option maxRecDepth 20000
theorem info_S : (Tryd.prog.info? 36).map (fun i => (i.zero, i.size, i.bytes)) = some (some (.agg #[.int .i64 0, .int .i64 0]), 2, 16) := by kernel_rfl
theorem rows_eqS (n : Nat) (cs ys xc : List Value) (h1 : ys.length = (n + 3) * 2) (h2 : cs.length = n * 2) (h3 : xc.length = 2) (hT : ys.take (n * 2) = cs) (hX : ∀ j t, j < 3 → t < 2 → ys[(n + j) * 2 + t]? = xc[t]?) : ys = cs ++ (xc ++ (xc ++ xc)) := by
  apply List.ext_getElem?
  intro j
  by_cases hj : j < n * 2
  · have := congrArg (fun l => l[j]?) hT
    simp only [List.getElem?_take, if_pos hj] at this
    rw [this, List.getElem?_append_left (by omega)]
  · by_cases hj2 : j < (n + 3) * 2
    · have hq := hX ((j - n * 2) / 2) ((j - n * 2) % 2) (by omega) (by omega)
      rw [show (n + (j - n * 2) / 2) * 2 + (j - n * 2) % 2 = j by omega] at hq
      rw [hq, List.getElem?_append_right (by omega), h2]
      generalize hd : j - n * 2 = d at *
      have hd3 : d < 3 * 2 := by omega
      by_cases e1 : d < 2
      · rw [List.getElem?_append_left (by omega), Nat.mod_eq_of_lt e1]
      · rw [List.getElem?_append_right (by omega), h3]
        by_cases e2 : d - 2 < 2
        · rw [List.getElem?_append_left (by omega)]; congr 1; omega
        · rw [List.getElem?_append_right (by omega), h3]; congr 1; omega
    · rw [List.getElem?_eq_none (by omega), List.getElem?_eq_none (by simp only [List.length_append]; omega)]
set_option maxHeartbeats 2000000 in
theorem roomyS_c (a : Option Addr) (n c : Nat) (cs : List Value) (x0 : Int) (x1 : Int) (w : World) (hl : cs.length = n * 2) (hc : ∀ b, a = some b → ∀ j u, cs[j]? = some u → w.cell? (b.add j) = some u) (h1 : ∀ u ∈ cs, u.oneCell' = true) (hN : a = none → n = 0 ∧ c = 0) (hle : n ≤ c) (hm : c ≤ 9223372036854775807) (hn : n ≤ 8796093021952) :
    Calls Tryd.prog 7 #[.slice a n c, .agg #[.int .i64 x0, .int .i64 x1]] w fun e w' => ∃ g, e = .returned (.slice (some ⟨g, 0, none⟩) n (n + 3)) ∧ w'.ownsRow w.heap.size 36 2 (.slice (some ⟨g, 0, none⟩) (n + 3) (n + 3)) (n + 3) (cs ++ ([.int .i64 x0, .int .i64 x1] ++ ([.int .i64 x0, .int .i64 x1] ++ [.int .i64 x0, .int .i64 x1]))) ∧ Below w.heap.size w w' := by
  have hmk : ∀ W : World, (Instr.makeSlice 23 (.int .i64 0) (.int .i64 ((n : Int) + 3))).run Tryd.prog W = .ok (.slice (some ⟨W.heap.size, 0, none⟩) 0 (n + 3)) (W.alloc (.cells (madeCells #[.int .i64 0, .int .i64 0] ((n + 3) * 2)) 36)) := by
    intro W
    obtain ⟨i0, hi, hz0, hz1, hz2⟩ := info_parts info_S
    have hr := run_make (P := Tryd.prog) W 23 36 i0 _ Tryd.underlying23 hi hz0 .i64 .i64 0 ((n : Int) + 3) (by omega) (by omega) (by rw [hz2]; omega) (by omega)
    rw [hr, hz1]
    rfl
  have hcells : ∀ W, Below w.heap.size w W → ∀ b, a = some b → ∀ j u, cs[j]? = some u → W.cell? (b.add j) = some u := by
    intro W hW b hb j u hu
    have h2 := hc b hb j u hu
    exact ck hW h2
  have HC := hidp hcells
  have OW := hidp (fun W (hW : w.heap.size ≤ W.heap.size) => World.ownsRow_made (base := w.heap.size) (e := 36) (size := 2) W (madeCells #[.int .i64 0, .int .i64 0] ((n + 3) * 2)) (n + 3) hW (by unfold maxLen; omega) (by rw [size_madeCells]))
  have HL := hidp hl
  have H1 := hidp h1
  have HN := hidp hN
  clear hcells hc hl h1 hN
  go_enter Tryd.func7, Tryd.ntmps7
  have hb0 : Below w.heap.size w (w.alloc (.cells #[.int .i64 x0, .int .i64 x1] 36)) := bal (Below.refl _ _) _
  have OW1 := hidp (show ((w.alloc (.cells #[.int .i64 x0, .int .i64 x1] 36)).alloc (.cells (madeCells #[.int .i64 0, .int .i64 0] ((n + 3) * 2)) 36)).ownsRow w.heap.size 36 2 (.slice (some ⟨w.heap.size + 1, 0, none⟩) 0 (n + 3)) 0 [] from by
    have := OW.out (w.alloc (.cells #[.int .i64 x0, .int .i64 x1] 36)) hb0.size
    rwa [show (w.alloc (.cells #[.int .i64 x0, .int .i64 x1] 36)).heap.size = w.heap.size + 1 by simp] at this)
  go_wp2_with (at_builtin; go_loud (refine wpList_append_fits rfl (.tmp 10) (.tmp 11) 23 rfl w.heap.size 36 (.agg #[.int .i64 0, .int .i64 0]) 2 16 Tryd.underlying23 info_S (w.heap.size + 1) 0 (n + 3) [] rfl OW1.out a n c cs rfl (by rw [HL.out]) HN.out (HC.out _ (bal hb0 _)) H1.out (by omega) ?_); intro w1 h1 h2)
  rw [Nat.zero_add, List.nil_append] at h1
  have hb1 : Below w.heap.size w w1 := (bal hb0 _).grown h2 (by simp; omega) (fun k hk => by cases hk; omega)
  obtain ⟨ys, y1, y2⟩ := owns_full h1
  have b0 : w1.cell? ⟨w.heap.size, 0, none⟩ = some (.int .i64 x0) := gk h2 (by go_simp) (by simp)
  have b1 : w1.cell? ⟨w.heap.size, 1, none⟩ = some (.int .i64 x1) := gk h2 (by go_simp) (by simp)
  clear h2 OW HC HN hmk hb0 OW1
  obtain ⟨g, hg⟩ : ∃ g, g = w.heap.size + 1 := ⟨_, rfl⟩
  have hgB : w.heap.size ≤ g := by omega
  have hgn : ¬ g = w.heap.size := by omega
  have hgn' : ¬ w.heap.size = g := by omega
  rw [← hg] at y1
  rw [← hg]
  clear hg h1
  go_loopw [13] (fun i wr => ∃ (k : Nat) (ys : List Value), k ≤ 3 ∧ i = .int .i64 k ∧ wr.ownsRow w.heap.size 36 2 (.slice (some ⟨g, 0, none⟩) (n + 3) (n + 3)) (n + 3) ys ∧ Hid (ys.take (n * 2) = cs) ∧ Hid (∀ j t, j < k → t < 2 → ys[(n + j) * 2 + t]? = [.int .i64 x0, .int .i64 x1][t]?) ∧ Below w.heap.size w wr ∧ wr.cell? ⟨w.heap.size, 0, none⟩ = some (.int .i64 x0) ∧ wr.cell? ⟨w.heap.size, 1, none⟩ = some (.int .i64 x1)) (fun i _ => 3 - (intOf i).toNat)
  case atStart => exact ⟨0, ys, by omega, rfl, y1, y2, hidp (fun j t hj => by omega), hb1, b0, b1⟩
  case round =>
    obtain ⟨k, zs, hk, rfl, hO, hT, hX, hB, e0, e1⟩ := hrel
    have hlz := hO.1
    by_cases hlt : k < 3
    · have f0 := hO.frozenAt ((n + k) * 2)
      have c0 : ∃ u, wr.cell? ⟨g, (n + k) * 2, none⟩ = some u := ⟨zs[(n + k) * 2]'(by omega), by rw [hO.cellAt ((n + k) * 2) (by omega), List.getElem?_eq_getElem (by omega)]⟩
      obtain ⟨u0, c0⟩ := c0
      have f1 := hO.frozenAt ((n + k) * 2 + 1)
      have c1 : ∃ u, wr.cell? ⟨g, (n + k) * 2 + 1, none⟩ = some u := ⟨zs[(n + k) * 2 + 1]'(by omega), by rw [hO.cellAt ((n + k) * 2 + 1) (by omega), List.getElem?_eq_getElem (by omega)]⟩
      obtain ⟨u1, c1⟩ := c1
      have N0 := (hO.stored ((n + k) * 2) (.int .i64 x0)).1
      have N1 := (N0.stored ((n + k) * 2 + 1) (.int .i64 x1)).1
      have HNN := hidp N1
      clear N0 N1
      go_wp2_with fail
      go_region
      go_wp2
      go_roundw
      case rel =>
        refine ⟨k + 1, ((zs.set ((n + k) * 2) (.int .i64 x0)).set ((n + k) * 2 + 1) (.int .i64 x1)), by omega, by go_num, HNN.out, hidp ?_, hidp (fun j t hj ht => ?_), ((hB.setCell (p := ⟨g, (n + k) * 2, none⟩) hgB _).setCell (p := ⟨g, (n + k) * 2 + 1, none⟩) hgB _).drew, by go_simp, by go_simp⟩
        · rw [List.take_set_of_le (by omega), List.take_set_of_le (by omega)]; exact hT.out
        · simp only [List.getElem?_set, List.length_set]
          have ht' : t = 0 ∨ t = 1 := by omega
          by_cases e : j = k
          · subst e
            rcases ht' with rfl | rfl
            · rw [if_neg (by omega), if_pos (by omega), if_pos (by omega)]; rfl
            · rw [if_pos (by omega), if_pos (by omega)]; rfl
          · rw [if_neg (by omega), if_neg (by omega)]; exact hX.out j t (by omega) ht
      case measure => simp [intOf]; omega
    · obtain rfl : k = 3 := by omega
      go_wp2
      go_ret
      have e := rows_eqS n cs zs [.int .i64 x0, .int .i64 x1] hlz HL.out rfl hT.out (fun j t hj ht => hX.out j t hj ht)
      rw [e] at hO
      refine ⟨_, rfl, by simpa using hO, hB⟩
set_option maxHeartbeats 2000000 in
/-- Does the mark stand in the room? -/
theorem markedS_c (g n : Nat) (x0 : Int) (x1 : Int) (w : World) (hg : g < w.heap.size) (hn : n ≤ 8796093021952) (hc : ∀ i, i < 3 → w.cell? ⟨g, (n + i) * 2 + 0, none⟩ = some (.int .i64 x0) ∧ w.cell? ⟨g, (n + i) * 2 + 1, none⟩ = some (.int .i64 x1)) :
    Calls Tryd.prog 21 #[.slice (some ⟨g, 0, none⟩) n (n + 3), .agg #[.int .i64 x0, .int .i64 x1]] w fun e w' => e = .returned (.bool true) ∧ Below w.heap.size w w' := by
  have C := hidp hc
  clear hc
  go_enter Tryd.func21, Tryd.ntmps21
  have hb0 : Below w.heap.size w (w.alloc (.cells #[.int .i64 x0, .int .i64 x1] 36)) := bal (Below.refl _ _) _
  have b0 : (w.alloc (.cells #[.int .i64 x0, .int .i64 x1] 36)).cell? ⟨w.heap.size, 0, none⟩ = some (.int .i64 x0) := by go_simp
  have b1 : (w.alloc (.cells #[.int .i64 x0, .int .i64 x1] 36)).cell? ⟨w.heap.size, 1, none⟩ = some (.int .i64 x1) := by go_simp
  go_wp2_with fail
  generalize (w.alloc (.cells #[.int .i64 x0, .int .i64 x1] 36)) = w1 at *
  go_loopw [14] (fun i wr => ∃ (k : Nat), k ≤ 3 ∧ i = .int .i64 k ∧ Below w.heap.size w wr ∧ wr.cell? ⟨w.heap.size, 0, none⟩ = some (.int .i64 x0) ∧ wr.cell? ⟨w.heap.size, 1, none⟩ = some (.int .i64 x1)) (fun i _ => 3 - (intOf i).toNat)
  case atStart => exact ⟨0, by omega, rfl, hb0, b0, b1⟩
  case round =>
    obtain ⟨k, hk, rfl, hB, e0, e1⟩ := hrel
    by_cases hlt : k < 3
    · obtain ⟨q0, q1⟩ := C.out k hlt
      have c0 : wr.cell? ⟨g, n * 2 + k * 2, none⟩ = some (.int .i64 x0) := by have := ck hB q0; rwa [show (n + k) * 2 + 0 = n * 2 + k * 2 by omega] at this
      have c1 : wr.cell? ⟨g, n * 2 + k * 2 + 1, none⟩ = some (.int .i64 x1) := by have := ck hB q1; rwa [show (n + k) * 2 + 1 = n * 2 + k * 2 + 1 by omega] at this
      clear q0 q1
      have hlt' : k < n + 3 - n := by omega
      have hs := hB.size
      have hw : w.heap.size < wr.heap.size := lt_of_cell e0
      have n1 : ¬ wr.heap.size = w.heap.size := by omega
      have n1' : ¬ w.heap.size = wr.heap.size := by omega
      have n2 : ¬ g = wr.heap.size := by omega
      have n2' : ¬ wr.heap.size = g := by omega
      go_wp2
      go_roundw
      case rel => exact ⟨k + 1, by omega, by go_num, bal hB _, ca e0 _, ca e1 _⟩
      case measure => simp [intOf]; omega
    · obtain rfl : k = 3 := by omega
      go_wp2
      go_ret
      exact ⟨rfl, hB⟩
set_option maxHeartbeats 2000000 in
/-- A row is spoilt: nothing else that was there changes. -/
theorem spoilS_c (v : Value) (n B : Nat) (xs : List Value) (x0 : Int) (x1 : Int) (w : World) (h : w.ownsRow B 36 2 v n xs) :
    Calls Tryd.prog 30 #[v, .agg #[.int .i64 x0, .int .i64 x1]] w fun e w' => e = .returned (.tuple #[]) ∧ w.grownBy w' v.ownBlock := by
  rcases h.2 with ⟨rfl, rfl⟩ | ⟨g, cap, cur, rfl, hg, hh, hn, hm, hs, ht⟩
  · clear h
    go_enter Tryd.func30, Tryd.ntmps30
    go_wp2_with fail
    refine wp_loop_rounds 1 ?_; rw [rounds_succ]
    go_wp2
    go_end0
    exact ⟨rfl, World.grownBy_alloc w _ _⟩
  · obtain ⟨ys, hO, _⟩ := owns_full h
    have hgl := (hO.lt g rfl).2
    clear h hh hs ht cur
    unfold maxLen at hm
    go_enter Tryd.func30, Tryd.ntmps30
    have hO1 := hO.alloc (.cells #[.int .i64 x0, .int .i64 x1] 36)
    have hG1 : w.grownBy (w.alloc (.cells #[.int .i64 x0, .int .i64 x1] 36)) (some g) := World.grownBy_alloc w _ _
    have b0 : (w.alloc (.cells #[.int .i64 x0, .int .i64 x1] 36)).cell? ⟨w.heap.size, 0, none⟩ = some (.int .i64 x0) := by go_simp
    have b1 : (w.alloc (.cells #[.int .i64 x0, .int .i64 x1] 36)).cell? ⟨w.heap.size, 1, none⟩ = some (.int .i64 x1) := by go_simp
    go_wp2_with fail
    generalize (w.alloc (.cells #[.int .i64 x0, .int .i64 x1] 36)) = w1 at *
    have hgn : ¬ g = w.heap.size := by omega
    have hgn' : ¬ w.heap.size = g := by omega
    go_loopw [11] (fun i wr => ∃ (k : Nat) (ys : List Value), k ≤ cap ∧ i = .int .i64 k ∧ wr.ownsRow B 36 2 (.slice (some ⟨g, 0, none⟩) cap cap) cap ys ∧ w.grownBy wr (some g) ∧ wr.cell? ⟨w.heap.size, 0, none⟩ = some (.int .i64 x0) ∧ wr.cell? ⟨w.heap.size, 1, none⟩ = some (.int .i64 x1)) (fun i _ => cap - (intOf i).toNat)
    case atStart => exact ⟨0, ys, by omega, rfl, hO1, hG1, b0, b1⟩
    case round =>
      obtain ⟨k, zs, hk, rfl, hO, hG, e0, e1⟩ := hrel
      have hlz := hO.1
      by_cases hlt : k < cap
      · have f0 := hO.frozenAt (k * 2)
        have c0 : ∃ u, wr.cell? ⟨g, k * 2, none⟩ = some u := ⟨zs[k * 2]'(by omega), by rw [hO.cellAt (k * 2) (by omega), List.getElem?_eq_getElem (by omega)]⟩
        obtain ⟨u0, c0⟩ := c0
        have f1 := hO.frozenAt (k * 2 + 1)
        have c1 : ∃ u, wr.cell? ⟨g, k * 2 + 1, none⟩ = some u := ⟨zs[k * 2 + 1]'(by omega), by rw [hO.cellAt (k * 2 + 1) (by omega), List.getElem?_eq_getElem (by omega)]⟩
        obtain ⟨u1, c1⟩ := c1
        have N0 := hO.stored (k * 2) (.int .i64 x0)
        have N1 := N0.1.stored (k * 2 + 1) (.int .i64 x1)
        have HNN := hidp N1.1
        have Hg := hidp ((hG.trans N0.2).trans N1.2)
        clear N0 N1
        go_wp2
        go_roundw
        case rel => exact ⟨k + 1, _, by omega, by go_num, HNN.out, Hg.out, by go_simp, by go_simp⟩
        case measure => simp [intOf]; omega
      · obtain rfl : k = cap := by omega
        go_wp2
        go_end0
        exact ⟨rfl, hG⟩
end Go.Proofs.YtdfghgeccannnaaDoor
