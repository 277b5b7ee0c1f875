/- Contracts of the generic helpers of own.go at bool, in terms of cells (printed by genroomy.py). -/
import Derived.Test.YtdfghgeccannnaaDoorFr
import Derived.Deep.OwnRows
import Derived.RegionTactic
import Derived.ChangeAlike
namespace Go.Proofs.YtdfghgeccannnaaDoor
open Go.ChangeShapes Go.WideShapes Go.ChangeAt Go.RowKit
set_option maxRecDepth 20000
theorem rows_eqB (n : Nat) (cs ys xc : List Value) (h1 : ys.length = (n + 3) * 1) (h2 : cs.length = n * 1) (h3 : xc.length = 1) (hT : ys.take (n * 1) = cs) (hX : ∀ j t, j < 3 → t < 1 → ys[(n + j) * 1 + t]? = xc[t]?) : ys = cs ++ (xc ++ (xc ++ xc)) := by
  apply List.ext_getElem?
  intro j
  by_cases hj : j < n * 1
  · have := congrArg (fun l => l[j]?) hT
    simp only [List.getElem?_take, if_pos hj] at this
    rw [this, List.getElem?_append_left (by omega)]
  · by_cases hj2 : j < (n + 3) * 1
    · have hq := hX ((j - n * 1) / 1) ((j - n * 1) % 1) (by omega) (by omega)
      rw [show (n + (j - n * 1) / 1) * 1 + (j - n * 1) % 1 = j by omega] at hq
      rw [hq, List.getElem?_append_right (by omega), h2]
      generalize hd : j - n * 1 = d at *
      have hd3 : d < 3 * 1 := by omega
      by_cases e1 : d < 1
      · rw [List.getElem?_append_left (by omega), Nat.mod_eq_of_lt e1]
      · rw [List.getElem?_append_right (by omega), h3]
        by_cases e2 : d - 1 < 1
        · rw [List.getElem?_append_left (by omega)]; congr 1; omega
        · rw [List.getElem?_append_right (by omega), h3]; congr 1; omega
    · rw [List.getElem?_eq_none (by omega), List.getElem?_eq_none (by simp only [List.length_append]; omega)]
set_option maxHeartbeats 2000000 in
theorem roomyB_c (a : Option Addr) (n c : Nat) (cs : List Value) (x0 : Bool) (w : World) (hl : cs.length = n * 1) (hc : ∀ b, a = some b → ∀ j u, cs[j]? = some u → w.cell? (b.add j) = some u) (h1 : ∀ u ∈ cs, u.oneCell' = true) (hN : a = none → n = 0 ∧ c = 0) (hle : n ≤ c) (hm : c ≤ 9223372036854775807) (hn : n ≤ 140737488351232) :
    Calls Tryd.prog 9 #[.slice a n c, .bool x0] w fun e w' => ∃ g, e = .returned (.slice (some ⟨g, 0, none⟩) n (n + 3)) ∧ w'.ownsRow w.heap.size 4 1 (.slice (some ⟨g, 0, none⟩) (n + 3) (n + 3)) (n + 3) (cs ++ ([.bool x0] ++ ([.bool x0] ++ [.bool x0]))) ∧ Below w.heap.size w w' := by
  have hmk : ∀ W : World, (Instr.makeSlice 40 (.int .i64 0) (.int .i64 ((n : Int) + 3))).run Tryd.prog W = .ok (.slice (some ⟨W.heap.size, 0, none⟩) 0 (n + 3)) (W.alloc (.cells (madeCells #[.bool false] (n + 3)) 4)) := by
    intro W
    obtain ⟨i0, hi, hz0, hz1, hz2⟩ := info_parts info_bool
    have hr := run_make (P := Tryd.prog) W 40 4 i0 _ Tryd.underlying40 hi hz0 .i64 .i64 0 ((n : Int) + 3) (by omega) (by omega) (by rw [hz2]; omega) (by omega)
    rw [hr, hz1, Nat.mul_one]
    rfl
  have hcells : ∀ W, Below w.heap.size w W → ∀ b, a = some b → ∀ j u, cs[j]? = some u → W.cell? (b.add j) = some u := by
    intro W hW b hb j u hu
    have h2 := hc b hb j u hu
    exact ck hW h2
  have HC := hidp hcells
  have OW := hidp (fun W (hW : w.heap.size ≤ W.heap.size) => World.ownsRow_made (base := w.heap.size) (e := 4) (size := 1) W (madeCells #[.bool false] (n + 3)) (n + 3) hW (by unfold maxLen; omega) (by rw [size_madeCells]; omega))
  have HL := hidp hl
  have H1 := hidp h1
  have HN := hidp hN
  clear hcells hc hl h1 hN
  go_enter Tryd.func9, Tryd.ntmps9
  have hb0 : Below w.heap.size w w := Below.refl _ _
  go_wp2_with (at_builtin; go_loud (refine wpList_append_fits rfl (.tmp 10) (.tmp 11) 40 rfl w.heap.size 4 (.bool false) 1 1 Tryd.underlying40 info_bool (w.heap.size) 0 (n + 3) [] rfl (OW.out w hb0.size) a n c cs rfl (by rw [HL.out]) HN.out (HC.out _ (bal hb0 _)) H1.out (by omega) ?_); intro w1 h1 h2)
  rw [Nat.zero_add, List.nil_append] at h1
  have hb1 : Below w.heap.size w w1 := (bal hb0 _).grown h2 (by simp) (fun k hk => by cases hk; omega)
  obtain ⟨ys, y1, y2⟩ := owns_full h1
  clear h2 OW HC HN hmk hb0
  have hgB := Nat.le_refl w.heap.size
  clear h1
  go_loopw [13] (fun i wr => ∃ (k : Nat) (ys : List Value), k ≤ 3 ∧ i = .int .i64 k ∧ wr.ownsRow w.heap.size 4 1 (.slice (some ⟨w.heap.size, 0, none⟩) (n + 3) (n + 3)) (n + 3) ys ∧ Hid (ys.take (n * 1) = cs) ∧ Hid (∀ j t, j < k → t < 1 → ys[(n + j) * 1 + t]? = [.bool x0][t]?) ∧ Below w.heap.size w wr) (fun i _ => 3 - (intOf i).toNat)
  case atStart => exact ⟨0, ys, by omega, rfl, y1, y2, hidp (fun j t hj => by omega), hb1⟩
  case round =>
    obtain ⟨k, zs, hk, rfl, hO, hT, hX, hB⟩ := hrel
    have hlz := hO.1
    by_cases hlt : k < 3
    · have f0 := hO.frozenAt (n + k)
      have c0 : ∃ u, wr.cell? ⟨w.heap.size, n + k, none⟩ = some u := ⟨zs[n + k]'(by omega), by rw [hO.cellAt (n + k) (by omega), List.getElem?_eq_getElem (by omega)]⟩
      obtain ⟨u0, c0⟩ := c0
      have N0 := (hO.stored (n + k) (.bool x0)).1
      have HNN := hidp N0
      clear N0
      go_wp2
      go_roundw
      case rel =>
        refine ⟨k + 1, (zs.set (n + k) (.bool x0)), by omega, by go_num, HNN.out, hidp ?_, hidp (fun j t hj ht => ?_), (hB.setCell (p := ⟨w.heap.size, n + k, none⟩) hgB _)⟩
        · rw [List.take_set_of_le (by omega)]; exact hT.out
        · simp only [List.getElem?_set, List.length_set]
          have ht' : t = 0 := by omega
          by_cases e : j = k
          · subst e
            obtain rfl := ht'
            rw [if_pos (by omega), if_pos (by omega)]; rfl
          · rw [if_neg (by omega)]; exact hX.out j t (by omega) ht
      case measure => simp [intOf]; omega
    · obtain rfl : k = 3 := by omega
      go_wp2
      go_ret
      have e := rows_eqB n cs zs [.bool x0] hlz HL.out rfl hT.out (fun j t hj ht => hX.out j t hj ht)
      rw [e] at hO
      refine ⟨_, rfl, by simpa using hO, hB⟩
set_option maxHeartbeats 2000000 in
/-- Does the mark stand in the room? -/
theorem markedB_c (g n : Nat) (x0 : Bool) (w : World) (hg : g < w.heap.size) (hn : n ≤ 140737488351232) (hc : ∀ i, i < 3 → w.cell? ⟨g, (n + i) * 1 + 0, none⟩ = some (.bool x0)) :
    Calls Tryd.prog 24 #[.slice (some ⟨g, 0, none⟩) n (n + 3), .bool x0] w fun e w' => e = .returned (.bool true) ∧ Below w.heap.size w w' := by
  have C := hidp hc
  clear hc
  go_enter Tryd.func24, Tryd.ntmps24
  go_wp2_with fail
  go_loopw [14] (fun i wr => ∃ (k : Nat), k ≤ 3 ∧ i = .int .i64 k ∧ Below w.heap.size w wr) (fun i _ => 3 - (intOf i).toNat)
  case atStart => exact ⟨0, by omega, rfl, Below.refl _ _⟩
  case round =>
    obtain ⟨k, hk, rfl, hB⟩ := hrel
    by_cases hlt : k < 3
    · have c0 : wr.cell? ⟨g, n + k, none⟩ = some (.bool x0) := by have := ck hB (C.out k hlt); rwa [Nat.mul_one, Nat.add_zero] at this
      have hlt' : k < n + 3 - n := by omega
      go_wp2
      go_roundw
      case rel => exact ⟨k + 1, by omega, by go_num, hB⟩
      case measure => simp [intOf]; omega
    · obtain rfl : k = 3 := by omega
      go_wp2
      go_ret
      exact ⟨rfl, hB⟩
set_option maxHeartbeats 2000000 in
/-- A row is spoilt: nothing else that was there changes. -/
theorem spoilB_c (v : Value) (n B : Nat) (xs : List Value) (x0 : Bool) (w : World) (h : w.ownsRow B 4 1 v n xs) :
    Calls Tryd.prog 32 #[v, .bool x0] w fun e w' => e = .returned (.tuple #[]) ∧ w.grownBy w' v.ownBlock := by
  rcases h.2 with ⟨rfl, rfl⟩ | ⟨g, cap, cur, rfl, hg, hh, hn, hm, hs, ht⟩
  · clear h
    go_enter Tryd.func32, Tryd.ntmps32
    go_wp2_with fail
    refine wp_loop_rounds 1 ?_; rw [rounds_succ]
    go_wp2
    go_end0
    exact ⟨rfl, ⟨rfl, rfl, rfl, Nat.le_refl _, fun _ _ _ => rfl⟩⟩
  · obtain ⟨ys, hO, _⟩ := owns_full h
    have hgl := (hO.lt g rfl).2
    clear h hh hs ht cur
    unfold maxLen at hm
    go_enter Tryd.func32, Tryd.ntmps32
    have hO1 := hO
    have hG1 : w.grownBy w (some g) := ⟨rfl, rfl, rfl, Nat.le_refl _, fun _ _ _ => rfl⟩
    go_wp2_with fail
    go_loopw [11] (fun i wr => ∃ (k : Nat) (ys : List Value), k ≤ cap ∧ i = .int .i64 k ∧ wr.ownsRow B 4 1 (.slice (some ⟨g, 0, none⟩) cap cap) cap ys ∧ w.grownBy wr (some g)) (fun i _ => cap - (intOf i).toNat)
    case atStart => exact ⟨0, ys, by omega, rfl, hO1, hG1⟩
    case round =>
      obtain ⟨k, zs, hk, rfl, hO, hG⟩ := hrel
      have hlz := hO.1
      by_cases hlt : k < cap
      · have f0 := hO.frozenAt (k)
        have c0 : ∃ u, wr.cell? ⟨g, k, none⟩ = some u := ⟨zs[k]'(by omega), by rw [hO.cellAt (k) (by omega), List.getElem?_eq_getElem (by omega)]⟩
        obtain ⟨u0, c0⟩ := c0
        have N0 := hO.stored (k) (.bool x0)
        have HNN := hidp N0.1
        have Hw.heap.size := hidp (hG.trans N0.2)
        clear N0
        go_wp2
        go_roundw
        case rel => exact ⟨k + 1, _, by omega, by go_num, HNN.out, Hw.heap.size.out⟩
        case measure => simp [intOf]; omega
      · obtain rfl : k = cap := by omega
        go_wp2
        go_end0
        exact ⟨rfl, hG⟩
end Go.Proofs.YtdfghgeccannnaaDoor
