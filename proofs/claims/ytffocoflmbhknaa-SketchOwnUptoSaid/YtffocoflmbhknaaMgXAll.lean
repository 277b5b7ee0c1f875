/- Merged: RoomyB, TabSame, EqB, TabSame2, BloomAny, XAll. -/
import Derived.Test.YtffocoflmbhknaaFr
import Derived.Deep.OwnRows
import Derived.RegionTactic
import Derived.ChangeAlike
import Derived.Test.YtffocoflmbhknaaMgTablePut2
import Derived.Test.YtffocoflmbhknaaEqI
import Derived.Test.YtffocoflmbhknaaMem
import Derived.Deep.QuietTactic
import Derived.BigQuiet
import Derived.WalkSmall
import Derived.Test.YtffocoflmbhknaaBloom
import Derived.Test.YtffocoflmbhknaaFiltOpen
import Derived.Test.YtffocoflmbhknaaMgApartC
import Derived.Test.YtffocoflmbhknaaTabAny
import Derived.Test.YtffocoflmbhknaaFewAny
import Derived.Test.YtffocoflmbhknaaCopied
import Derived.Test.YtffocoflmbhknaaMgConcatL
import Derived.Test.YtffocoflmbhknaaCloneB
import Derived.Test.YtffocoflmbhknaaRegInv
/- Contracts of the generic helpers of own.go at bool, in terms of cells (printed by genroomy.py). -/
namespace Go.Proofs.Ytffocoflmbhknaa
open Go.ChangeShapes Go.WideShapes Go.ChangeAt Go.RowKit
set_option maxRecDepth 20000
theorem rows_eqB (n : Nat) (cs ys xc : List Value) (h1 : ys.length = (n + 3) * 1) (h2 : cs.length = n * 1) (h3 : xc.length = 1) (hT : ys.take (n * 1) = cs) (hX : ∀ j t, j < 3 → t < 1 → ys[(n + j) * 1 + t]? = xc[t]?) : ys = cs ++ (xc ++ (xc ++ xc)) := by
  apply List.ext_getElem?
  intro j
  by_cases hj : j < n * 1
  · have := congrArg (fun l => l[j]?) hT
    simp only [List.getElem?_take, if_pos hj] at this
    rw [this, List.getElem?_append_left (by omega)]
  · by_cases hj2 : j < (n + 3) * 1
    · have hq := hX ((j - n * 1) / 1) ((j - n * 1) % 1) (by omega) (by omega)
      rw [show (n + (j - n * 1) / 1) * 1 + (j - n * 1) % 1 = j by omega] at hq
      rw [hq, List.getElem?_append_right (by omega), h2]
      generalize hd : j - n * 1 = d at *
      have hd3 : d < 3 * 1 := by omega
      by_cases e1 : d < 1
      · rw [List.getElem?_append_left (by omega), Nat.mod_eq_of_lt e1]
      · rw [List.getElem?_append_right (by omega), h3]
        by_cases e2 : d - 1 < 1
        · rw [List.getElem?_append_left (by omega)]; congr 1; omega
        · rw [List.getElem?_append_right (by omega), h3]; congr 1; omega
    · rw [List.getElem?_eq_none (by omega), List.getElem?_eq_none (by simp only [List.length_append]; omega)]
set_option maxHeartbeats 2000000 in
theorem roomyB_c (a : Option Addr) (n c : Nat) (cs : List Value) (x0 : Bool) (w : World) (hl : cs.length = n * 1) (hc : ∀ b, a = some b → ∀ j u, cs[j]? = some u → w.cell? (b.add j) = some u) (h1 : ∀ u ∈ cs, u.oneCell' = true) (hN : a = none → n = 0 ∧ c = 0) (hle : n ≤ c) (hm : c ≤ 9223372036854775807) (hn : n ≤ 140737488351232) :
    Calls Try.prog 6 #[.slice a n c, .bool x0] w fun e w' => ∃ g, e = .returned (.slice (some ⟨g, 0, none⟩) n (n + 3)) ∧ w'.ownsRow w.heap.size 4 1 (.slice (some ⟨g, 0, none⟩) (n + 3) (n + 3)) (n + 3) (cs ++ ([.bool x0] ++ ([.bool x0] ++ [.bool x0]))) ∧ Below w.heap.size w w' := by
  have hmk : ∀ W : World, (Instr.makeSlice 22 (.int .i64 0) (.int .i64 ((n : Int) + 3))).run Try.prog W = .ok (.slice (some ⟨W.heap.size, 0, none⟩) 0 (n + 3)) (W.alloc (.cells (madeCells #[.bool false] (n + 3)) 4)) := by
    intro W
    obtain ⟨i0, hi, hz0, hz1, hz2⟩ := info_parts info_bool
    have hr := run_make (P := Try.prog) W 22 4 i0 _ Try.underlying22 hi hz0 .i64 .i64 0 ((n : Int) + 3) (by omega) (by omega) (by rw [hz2]; omega) (by omega)
    rw [hr, hz1, Nat.mul_one]
    rfl
  have hcells : ∀ W, Below w.heap.size w W → ∀ b, a = some b → ∀ j u, cs[j]? = some u → W.cell? (b.add j) = some u := by
    intro W hW b hb j u hu
    have h2 := hc b hb j u hu
    exact ck hW h2
  have HC := hidp hcells
  have OW := hidp (fun W (hW : w.heap.size ≤ W.heap.size) => World.ownsRow_made (base := w.heap.size) (e := 4) (size := 1) W (madeCells #[.bool false] (n + 3)) (n + 3) hW (by unfold maxLen; omega) (by rw [size_madeCells]; omega))
  have HL := hidp hl
  have H1 := hidp h1
  have HN := hidp hN
  clear hcells hc hl h1 hN
  go_enter Try.func6, Try.ntmps6
  have hb0 : Below w.heap.size w w := Below.refl _ _
  go_wp2_with (at_builtin; go_loud (refine wpList_append_fits rfl (.tmp 10) (.tmp 11) 22 rfl w.heap.size 4 (.bool false) 1 1 Try.underlying22 info_bool (w.heap.size) 0 (n + 3) [] rfl (OW.out w hb0.size) a n c cs rfl (by rw [HL.out]) HN.out (HC.out _ (bal hb0 _)) H1.out (by omega) ?_); intro w1 h1 h2)
  rw [Nat.zero_add, List.nil_append] at h1
  have hb1 : Below w.heap.size w w1 := (bal hb0 _).grown h2 (by simp) (fun k hk => by cases hk; omega)
  obtain ⟨ys, y1, y2⟩ := owns_full h1
  clear h2 OW HC HN hmk hb0
  have hgB := Nat.le_refl w.heap.size
  clear h1
  go_loopw [13] (fun i wr => ∃ (k : Nat) (ys : List Value), k ≤ 3 ∧ i = .int .i64 k ∧ wr.ownsRow w.heap.size 4 1 (.slice (some ⟨w.heap.size, 0, none⟩) (n + 3) (n + 3)) (n + 3) ys ∧ Hid (ys.take (n * 1) = cs) ∧ Hid (∀ j t, j < k → t < 1 → ys[(n + j) * 1 + t]? = [.bool x0][t]?) ∧ Below w.heap.size w wr) (fun i _ => 3 - (intOf i).toNat)
  case atStart => exact ⟨0, ys, by omega, rfl, y1, y2, hidp (fun j t hj => by omega), hb1⟩
  case round =>
    obtain ⟨k, zs, hk, rfl, hO, hT, hX, hB⟩ := hrel
    have hlz := hO.1
    by_cases hlt : k < 3
    · have f0 := hO.frozenAt (n + k)
      have c0 : ∃ u, wr.cell? ⟨w.heap.size, n + k, none⟩ = some u := ⟨zs[n + k]'(by omega), by rw [hO.cellAt (n + k) (by omega), List.getElem?_eq_getElem (by omega)]⟩
      obtain ⟨u0, c0⟩ := c0
      have N0 := (hO.stored (n + k) (.bool x0)).1
      have HNN := hidp N0
      clear N0
      go_wp2
      go_roundw
      case rel =>
        refine ⟨k + 1, (zs.set (n + k) (.bool x0)), by omega, by go_num, HNN.out, hidp ?_, hidp (fun j t hj ht => ?_), (hB.setCell (p := ⟨w.heap.size, n + k, none⟩) hgB _)⟩
        · rw [List.take_set_of_le (by omega)]; exact hT.out
        · simp only [List.getElem?_set, List.length_set]
          have ht' : t = 0 := by omega
          by_cases e : j = k
          · subst e
            obtain rfl := ht'
            rw [if_pos (by omega), if_pos (by omega)]; rfl
          · rw [if_neg (by omega)]; exact hX.out j t (by omega) ht
      case measure => simp [intOf]; omega
    · obtain rfl : k = 3 := by omega
      go_wp2
      go_ret
      have e := rows_eqB n cs zs [.bool x0] hlz HL.out rfl hT.out (fun j t hj ht => hX.out j t hj ht)
      rw [e] at hO
      refine ⟨_, rfl, by simpa using hO, hB⟩
set_option maxHeartbeats 2000000 in
/-- Does the mark stand in the room? -/
theorem markedB_c (g n : Nat) (x0 : Bool) (w : World) (hg : g < w.heap.size) (hn : n ≤ 140737488351232) (hc : ∀ i, i < 3 → w.cell? ⟨g, (n + i) * 1 + 0, none⟩ = some (.bool x0)) :
    Calls Try.prog 17 #[.slice (some ⟨g, 0, none⟩) n (n + 3), .bool x0] w fun e w' => e = .returned (.bool true) ∧ Below w.heap.size w w' := by
  have C := hidp hc
  clear hc
  go_enter Try.func17, Try.ntmps17
  go_wp2_with fail
  go_loopw [14] (fun i wr => ∃ (k : Nat), k ≤ 3 ∧ i = .int .i64 k ∧ Below w.heap.size w wr) (fun i _ => 3 - (intOf i).toNat)
  case atStart => exact ⟨0, by omega, rfl, Below.refl _ _⟩
  case round =>
    obtain ⟨k, hk, rfl, hB⟩ := hrel
    by_cases hlt : k < 3
    · have c0 : wr.cell? ⟨g, n + k, none⟩ = some (.bool x0) := by have := ck hB (C.out k hlt); rwa [Nat.mul_one, Nat.add_zero] at this
      have hlt' : k < n + 3 - n := by omega
      go_wp2
      go_roundw
      case rel => exact ⟨k + 1, by omega, by go_num, hB⟩
      case measure => simp [intOf]; omega
    · obtain rfl : k = 3 := by omega
      go_wp2
      go_ret
      exact ⟨rfl, hB⟩
end Go.Proofs.Ytffocoflmbhknaa

/- Contract of culref.SameTable at equal tables; slices.Equal that only draws. -/
namespace Go.Proofs.Ytffocoflmbhknaa
open Go.ChangeShapes Go.WideShapes Go.ChangeAt Go.RowKit
set_option maxRecDepth 20000

theorem sameT1_c (a1 a2 : Option Addr) (n c1 c2 : Nat) (xs : List Int) (w : World) (h1 : IntsAt w a1 n c1 xs) (h2 : IntsAt w a2 n c2 xs) :
    Calls Try.prog 41 #[.slice a1 n c1, .slice a2 n c2] w fun e w' => e = .returned (.bool true) ∧ Below w.heap.size w w' := by
  have C := hidp (equali_c a1 a2 n n c1 c2 xs xs w h1 h2)
  rw [decide_eq_true rfl] at C
  clear h1 h2
  go_enter Try.func41, Try.ntmps41
  go_wp2_with fail
  refine C.out.mono ?_
  rintro e w1 ⟨rfl, hb⟩
  go_wp2_with fail
  go_ret
  exact ⟨rfl, hb⟩
set_option maxHeartbeats 2000000 in
theorem eqrows_c (a a' : Option Addr) (n m c c' : Nat) (T : Nat → Nat → Int) (w : World) (h : RowsAt w a n c (tabL T m n)) (h' : RowsAt w a' n c' (tabL T m n)) (hm : 1 ≤ m) (hn : 1 ≤ n) (hn2 : n ≤ 1000) :
    Calls Try.prog 40 #[.slice a n c, .slice a' n c', .func (.func 41) #[] #[]] w fun e w' => e = .returned (.bool true) ∧ Below w.heap.size w w' := by
  have mm := h.max
  have ee := h.le
  have mm' := h'.max
  have ee' := h'.le
  obtain ⟨b, o, rfl, hlt, hc⟩ := h.cells (by omega)
  obtain ⟨b', o', rfl, hlt', hc'⟩ := h'.cells (by omega)
  have R := hidp (fun i hi => tabL_row hc hm i hi)
  have R' := hidp (fun i hi => tabL_row hc' hm i hi)
  have hne : ((n : Int) != (n : Int)) = false := by simp
  clear hc hc' h h'
  go_enter Try.func40, Try.ntmps40
  go_wp2_with fail
  go_loopw [17] (fun i wr => ∃ k : Nat, k ≤ n ∧ i = .int .i64 k ∧ Below w.heap.size w wr) (fun i _ => n - (intOf i).toNat)
  case atStart => exact ⟨0, by omega, rfl, Below.refl _ _⟩
  case round =>
    obtain ⟨k, hk, rfl, hbl⟩ := hrel
    by_cases hlt2 : k < n
    · obtain ⟨bi, oi, ci, q0, q1, q2⟩ := R.out k hlt2
      obtain ⟨bj, oj, cj, p0, p1, p2⟩ := R'.out k hlt2
      have q := carry_cell ⟨hlt, q0⟩ hbl
      have p := carry_cell ⟨hlt', p0⟩ hbl
      have C := hidp (sameT1_c _ _ m ci cj _ wr (q1.below hbl) (p1.below hbl))
      clear q0 q1 p0 p1
      go_wp2_with fail
      refine C.out.mono ?_
      rintro e w1 ⟨rfl, hb⟩
      have bl := bstep hbl hb
      clear hb hbl q p C
      go_wp2_with fail
      go_roundw
      case rel => exact ⟨k + 1, by omega, by go_num, bl⟩
      case measure => simp [intOf]; omega
    · obtain rfl : k = n := by omega
      go_wp2_with fail
      go_ret
      exact ⟨rfl, hbl⟩
set_option maxHeartbeats 2000000 in
theorem samet_c (m : Nat) (a a' : Option Addr) (n c c' : Nat) (T : Nat → Nat → Int) (w : World) (h : RowsAt w a n c (tabL T m n)) (h' : RowsAt w a' n c' (tabL T m n)) (hm : 1 ≤ m) (hn : 1 ≤ n) (hn2 : n ≤ 1000) :
    Calls Try.prog 15 #[tabV m a n c, tabV m a' n c'] w fun e w' => e = .returned (.bool true) ∧ Below w.heap.size w w' := by
  have hb0 : Below w.heap.size w ((w.alloc (.cells #[.int .i64 (m : Nat), .slice a n c] 27)).alloc (.cells #[.int .i64 (m : Nat), .slice a' n c'] 27)) := bal (bal (Below.refl _ _) _) _
  have C := hidp (eqrows_c a a' n m c c' T _ (h.below hb0) (h'.below hb0) hm hn hn2)
  have HB := hidp hb0
  have es : ((m : Int) == (m : Int)) = true := by simp
  clear h h' hb0
  unfold tabV
  go_enter Try.func15, Try.ntmps15
  go_wp2_with fail
  refine C.out.mono ?_
  rintro e wa ⟨rfl, hba⟩
  have hwa := bstep HB.out hba
  clear hba
  go_wp2_with fail
  go_ret
  exact ⟨rfl, hwa⟩
/-- slices.Equal at equal lists only draws. -/
theorem equali_q (a1 a2 : Option Addr) (n c1 c2 : Nat) (xs : List Int) (w : World) (h1 : IntsAt w a1 n c1 xs) (h2 : IntsAt w a2 n c2 xs) :
    Calls Try.prog 42 #[.slice a1 n c1, .slice a2 n c2] w fun e w' => e = .returned (.bool true) ∧ ∃ q, w' = w.drewN q := by
  have l1 := h1.len
  have m1 := h1.max
  have m2 := h2.max
  have e1 := h1.le
  have e2 := h2.le
  obtain ⟨b1, o1, hz1, hc1⟩ := h1.split
  obtain ⟨b2, o2, hz2, hc2⟩ := h2.split
  have hz1' : Hid (n = 0) ∨ a1 = some ⟨b1, o1, none⟩ := hz1.imp_left hidp
  have hz2' : Hid (n = 0) ∨ a2 = some ⟨b2, o2, none⟩ := hz2.imp_left hidp
  have C1 := hidp hc1
  have C2 := hidp hc2
  have hne : ((n : Int) != (n : Int)) = false := by simp
  clear hc1 hc2 h1 h2 l1 hz1 hz2
  go_enter Try.func42, Try.ntmps42
  go_wp2_with fail
  go_loopw [13] (fun i wr => ∃ k q : Nat, k ≤ n ∧ i = .int .i64 k ∧ wr = w.drewN q) (fun i _ => n - (intOf i).toNat)
  case atStart => exact ⟨0, 0, by omega, rfl, rfl⟩
  case round =>
    obtain ⟨k, q, hk, rfl, rfl⟩ := hrel
    by_cases hlt : k < n
    · obtain rfl := hz1'.resolve_left (fun e => by have := e.out; omega)
      obtain rfl := hz2'.resolve_left (fun e => by have := e.out; omega)
      have q1 : (w.drewN q).cell? ⟨b1, o1 + k, none⟩ = some (.int .i64 (gi xs k)) := (C1.out k hlt).2
      have q2 : (w.drewN q).cell? ⟨b2, o2 + k, none⟩ = some (.int .i64 (gi xs k)) := (C2.out k hlt).2
      have hB : (gi xs k != gi xs k) = false := by simp
      generalize hW : w.drewN q = W at *
      go_wp2_with fail
      go_quiet (fail)
      go_wp2
      go_roundw
      case rel => exact ⟨k + 1, q + nq, by omega, by go_num, by rw [← hW]; simp [World.drewN, Nat.add_assoc]⟩
      case measure => simp [intOf]; omega
    · obtain rfl : k = n := by omega
      go_wp2
      go_ret
      exact ⟨rfl, q, rfl⟩
end Go.Proofs.Ytffocoflmbhknaa

/- Contract of slices.Equal at truth values: whether two lists are the same. -/
namespace Go.Proofs.Ytffocoflmbhknaa
open Go.ChangeShapes Go.WideShapes Go.ChangeAt Go.RowKit
set_option maxRecDepth 20000

theorem gb_ext (xs ys : List Bool) (h : xs.length = ys.length) (hg : ∀ j, j < xs.length → gb xs j = gb ys j) : xs = ys := by
  apply List.ext_getElem h
  intro i h1 h2
  have := hg i h1
  unfold gb at this
  rw [List.getD_eq_getElem?_getD, List.getD_eq_getElem?_getD, List.getElem?_eq_getElem h1, List.getElem?_eq_getElem h2] at this
  exact this

theorem equalb_c (a1 a2 : Option Addr) (n m c1 c2 : Nat) (xs ys : List Bool) (w : World) (h1 : BoolsAt w a1 n c1 xs) (h2 : BoolsAt w a2 m c2 ys) :
    Calls Try.prog 25 #[.slice a1 n c1, .slice a2 m c2] w fun e w' => e = .returned (.bool (decide (xs = ys))) ∧ Below w.heap.size w w' := by
  have l1 := h1.len
  have l2 := h2.len
  have m1 := h1.max
  have m2 := h2.max
  have e1 := h1.le
  have e2 := h2.le
  by_cases hnm : n = m
  · subst hnm
    rcases Nat.eq_zero_or_pos n with hz | hz
    · subst hz
      have hd : decide (xs = ys) = true := by
        rw [List.eq_nil_of_length_eq_zero l1, List.eq_nil_of_length_eq_zero l2]; rfl
      have HD := hidp hd
      clear h1 h2 l1 l2 hd
      go_enter Try.func25, Try.ntmps25
      go_wp2_with fail
      refine wp_loop_rounds 1 ?_; rw [rounds_succ]
      go_wp2
      go_ret
      exact ⟨ret_bool HD.out.symm, Below.refl _ _⟩
    · obtain ⟨b1, o1, rfl, hb1, hc1⟩ := h1.cells hz
      obtain ⟨b2, o2, rfl, hb2, hc2⟩ := h2.cells hz
      have C1 := hidp hc1
      have C2 := hidp hc2
      have L1 := hidp l1
      have L2 := hidp l2
      clear hc1 hc2 h1 h2 l1 l2
      go_enter Try.func25, Try.ntmps25
      go_wp2_with fail
      go_loopw [13] (fun i wr => ∃ k : Nat, k ≤ n ∧ i = .int .i64 k ∧ Hid (∀ j, j < k → gb xs j = gb ys j) ∧ Below w.heap.size w wr) (fun i _ => n - (intOf i).toNat)
      case atStart => exact ⟨0, by omega, rfl, fun j hj => by omega, Below.refl _ _⟩
      case round =>
        obtain ⟨k, hk, rfl, hsame, hbl⟩ := hrel
        by_cases hlt : k < n
        · have q1 := carry_cell ⟨hb1, C1.out k hlt⟩ hbl
          have q2 := carry_cell ⟨hb2, C2.out k hlt⟩ hbl
          by_cases hxy : gb xs k = gb ys k
          · have hB : (!gb xs k == gb ys k) = false := by rw [hxy]; simp
            have HXY := hidp hxy
            clear hxy
            go_wp2_with fail
            go_quiet (fail)
            go_wp2
            go_roundw
            case rel => exact ⟨k + 1, by omega, by go_num, fun j hj => by
              by_cases h : j < k
              · exact hsame.out j h
              · obtain rfl : j = k := by omega
                exact HXY.out, below_drewN hbl _⟩
            case measure => simp [intOf]; omega
          · have hB : (!gb xs k == gb ys k) = true := by simp [hxy]
            have hd : decide (xs = ys) = false := decide_eq_false (fun e => hxy (by rw [e]))
            have HD := hidp hd
            clear hxy hd
            go_wp2_with fail
            go_quiet (fail)
            go_wp2
            go_ret
            exact ⟨ret_bool HD.out.symm, below_drewN hbl _⟩
        · obtain rfl : k = n := by omega
          have hd : decide (xs = ys) = true := decide_eq_true (gb_ext xs ys (by rw [L1.out, L2.out]) (fun j hj => hsame.out j (by rw [L1.out] at hj; exact hj)))
          have HD := hidp hd
          clear hd
          go_wp2
          go_ret
          exact ⟨ret_bool HD.out.symm, hbl⟩
  · have hd : decide (xs = ys) = false := decide_eq_false (fun e => hnm (by rw [← l1, ← l2, e]))
    have HD := hidp hd
    have hne : ((n : Int) != (m : Int)) = true := by rw [bne_iff_ne]; omega
    clear h1 h2 l1 l2 hd
    go_enter Try.func25, Try.ntmps25
    go_wp2
    go_ret
    exact ⟨ret_bool HD.out.symm, Below.refl _ _⟩
end Go.Proofs.Ytffocoflmbhknaa

/- culref.SameTable at equal tables of whatever rows; SameFilter at equal filters. -/
namespace Go.Proofs.Ytffocoflmbhknaa
open Go.ChangeShapes Go.WideShapes Go.ChangeAt Go.RowKit
set_option maxRecDepth 20000
set_option maxHeartbeats 2000000 in
theorem eqrows_any (a a' : Option Addr) (n c c' : Nat) (xs : List (List Int)) (w : World) (h : RowsAt w a n c xs) (h' : RowsAt w a' n c' xs) :
    Calls Try.prog 40 #[.slice a n c, .slice a' n c', .func (.func 41) #[] #[]] w fun e w' => e = .returned (.bool true) ∧ Below w.heap.size w w' := by
  have mm := h.max
  have ee := h.le
  have mm' := h'.max
  have ee' := h'.le
  have hne : ((n : Int) != (n : Int)) = false := by simp
  rcases Nat.eq_zero_or_pos n with hz | hz
  · subst hz
    clear h h'
    go_enter Try.func40, Try.ntmps40
    go_wp2_with fail
    refine wp_loop_rounds 1 ?_; rw [rounds_succ]
    go_wp2
    go_ret
    exact ⟨rfl, Below.refl _ _⟩
  obtain ⟨b, o, rfl, hlt, hc⟩ := h.cells hz
  obtain ⟨b', o', rfl, hlt', hc'⟩ := h'.cells hz
  have R := hidp hc
  have R' := hidp hc'
  clear hc hc' h h'
  go_enter Try.func40, Try.ntmps40
  go_wp2_with fail
  go_loopw [17] (fun i wr => ∃ k : Nat, k ≤ n ∧ i = .int .i64 k ∧ Below w.heap.size w wr) (fun i _ => n - (intOf i).toNat)
  case atStart => exact ⟨0, by omega, rfl, Below.refl _ _⟩
  case round =>
    obtain ⟨k, hk, rfl, hbl⟩ := hrel
    by_cases hlt2 : k < n
    · obtain ⟨ai, ni, ci, q0, q1⟩ := R.out k hlt2
      obtain ⟨aj, nj, cj, p0, p1⟩ := R'.out k hlt2
      have q := carry_cell ⟨hlt, q0⟩ hbl
      have p := carry_cell ⟨hlt', p0⟩ hbl
      have e1 := q1.len
      have e2 := p1.len
      obtain rfl : ni = nj := by omega
      have C := hidp (sameT1_c _ _ ni ci cj _ wr (q1.below hbl) (p1.below hbl))
      clear q0 q1 p0 p1 e1 e2
      go_wp2_with fail
      refine C.out.mono ?_
      rintro e w1 ⟨rfl, hb⟩
      have bl := bstep hbl hb
      clear hb hbl q p C
      go_wp2_with fail
      go_roundw
      case rel => exact ⟨k + 1, by omega, by go_num, bl⟩
      case measure => simp [intOf]; omega
    · obtain rfl : k = n := by omega
      go_wp2_with fail
      go_ret
      exact ⟨rfl, hbl⟩
set_option maxHeartbeats 2000000 in
theorem samet_any (m : Int) (a a' : Option Addr) (n c c' : Nat) (xs : List (List Int)) (w : World) (h : RowsAt w a n c xs) (h' : RowsAt w a' n c' xs) :
    Calls Try.prog 15 #[tabV m a n c, tabV m a' n c'] w fun e w' => e = .returned (.bool true) ∧ Below w.heap.size w w' := by
  have hb0 : Below w.heap.size w ((w.alloc (.cells #[.int .i64 m, .slice a n c] 27)).alloc (.cells #[.int .i64 m, .slice a' n c'] 27)) := bal (bal (Below.refl _ _) _) _
  have C := hidp (eqrows_any a a' n c c' xs _ (h.below hb0) (h'.below hb0))
  have HB := hidp hb0
  have es : (m == m) = true := by simp
  clear h h' hb0
  unfold tabV
  go_enter Try.func15, Try.ntmps15
  go_wp2_with fail
  refine C.out.mono ?_
  rintro e wa ⟨rfl, hba⟩
  have hwa := bstep HB.out hba
  clear hba
  go_wp2_with fail
  go_ret
  exact ⟨rfl, hwa⟩
set_option maxHeartbeats 2000000 in
theorem samefilt_c (sz wy : Int) (a a' : Option Addr) (n c c' : Nat) (bs : List Bool) (w : World) (h : BoolsAt w a n c bs) (h' : BoolsAt w a' n c' bs) :
    Calls Try.prog 14 #[filtV sz wy a n c, filtV sz wy a' n c'] w fun e w' => e = .returned (.bool true) ∧ Below w.heap.size w w' := by
  have hb0 : Below w.heap.size w ((w.alloc (.cells #[.int .i64 sz, .int .i64 wy, .slice a n c] 24)).alloc (.cells #[.int .i64 sz, .int .i64 wy, .slice a' n c'] 24)) := bal (bal (Below.refl _ _) _) _
  have C := hidp (equalb_c a a' n n c c' bs bs _ (h.below hb0) (h'.below hb0))
  rw [decide_eq_true (rfl : bs = bs)] at C
  have HB := hidp hb0
  have es : (sz == sz) = true := by simp
  have es2 : (wy == wy) = true := by simp
  clear h h' hb0
  unfold filtV
  go_enter Try.func14, Try.ntmps14
  go_wp2_with fail
  refine C.out.mono ?_
  rintro e wa ⟨rfl, hba⟩
  have hwa := bstep HB.out hba
  clear hba
  go_wp2_with fail
  go_ret
  exact ⟨rfl, hwa⟩
end Go.Proofs.Ytffocoflmbhknaa

/- bloom.Put and Join at whatever comes: a row of the call's own, or nil. -/
namespace Go.Proofs.Ytffocoflmbhknaa
open Go.ChangeShapes Go.WideShapes Go.ChangeAt Go.RowKit
set_option maxRecDepth 20000
/-- A row of truth values. -/
def eb (v : Value) (n : Nat) (bs : List Bool) : Ent := ⟨4, 1, v, n, bs.map Value.bool⟩
def FrB (B : Nat) (W : World) (v : Value) : Prop := ∃ (n : Nat) (bs : List Bool), W.ownsRow B 4 1 v n (bs.map Value.bool) ∧ n ≤ 1000
theorem bput_any (sz wy : Int) (a : Option Addr) (n c : Nat) (bs : List Bool) (key : Int) (w : World) (h : BoolsAt w a n c bs) :
    Calls Try.prog 9 #[filtV sz wy a n c, .int .i64 key] w fun e w' => ∃ s y v r, e = .returned (.tuple #[.agg #[.int .i64 s, .int .i64 y, v], .int .i64 r]) ∧ FrB w.heap.size w' v ∧ Below w.heap.size w w' := by
  by_cases hE : fchk sz wy n = 0
  · obtain ⟨h1, h2, h3, h4, h5⟩ := fchk_zero sz wy n hE
    obtain ⟨y, rfl⟩ := Int.eq_ofNat_of_zero_le (show 0 ≤ wy by omega)
    subst h5
    refine (bput_c n y a c bs key w h (by omega) (by omega) (by omega) (by omega)).mono ?_
    rintro e w' ⟨g, cv, rfl, hO, hB⟩
    exact ⟨_, _, _, _, rfl, ⟨_, _, hO, by omega⟩, hB⟩
  · refine (bput_bad sz wy a n c key w hE).mono ?_
    rintro e w' ⟨rfl, hB⟩
    exact ⟨_, _, _, _, rfl, ⟨0, [], World.ownsRow_nil _ _ _ _, by omega⟩, hB⟩
theorem bjoin_any (sz wy sz2 wy2 : Int) (a a2 : Option Addr) (n c n2 c2 : Nat) (bs bs2 : List Bool) (w : World) (h : BoolsAt w a n c bs) (h2 : BoolsAt w a2 n2 c2 bs2) :
    Calls Try.prog 10 #[filtV sz wy a n c, filtV sz2 wy2 a2 n2 c2] w fun e w' => ∃ s y v r, e = .returned (.tuple #[.agg #[.int .i64 s, .int .i64 y, v], .int .i64 r]) ∧ FrB w.heap.size w' v ∧ Below w.heap.size w w' := by
  have bad : ∀ E : Int, ∀ (e : Ending) (w' : World), (e = .returned (.tuple #[filtV 0 0 none 0 0, .int .i64 E]) ∧ Below w.heap.size w w') → ∃ s y v r, e = .returned (.tuple #[.agg #[.int .i64 s, .int .i64 y, v], .int .i64 r]) ∧ FrB w.heap.size w' v ∧ Below w.heap.size w w' := by
    rintro E e w' ⟨rfl, hB⟩
    exact ⟨_, _, _, _, rfl, ⟨0, [], World.ownsRow_nil _ _ _ _, by omega⟩, hB⟩
  by_cases hE : fchk sz wy n = 0
  · by_cases hE2 : fchk sz2 wy2 n2 = 0
    · by_cases e1 : sz = sz2
      · by_cases e2 : wy = wy2
        · subst e1 e2
          obtain ⟨h1, h2', h3, h4, h5⟩ := fchk_zero sz wy n hE
          obtain ⟨_, _, _, _, h6⟩ := fchk_zero sz wy n2 hE2
          obtain ⟨y, rfl⟩ := Int.eq_ofNat_of_zero_le (show 0 ≤ wy by omega)
          subst h5
          obtain rfl : n2 = n := by omega
          refine (bjoin_c n2 y a a2 c c2 bs bs2 w h h2 (by omega) (by omega) (by omega) (by omega)).mono ?_
          rintro e w' ⟨g, cv, rfl, hO, hB⟩
          exact ⟨_, _, _, _, rfl, ⟨_, _, hO, by omega⟩, hB⟩
        · exact (bjoin_bad4 sz wy sz2 wy2 a a2 n c n2 c2 w hE hE2 e1 e2).mono (bad _)
      · exact (bjoin_bad3 sz wy sz2 wy2 a a2 n c n2 c2 w hE hE2 e1).mono (bad _)
    · exact (bjoin_bad2 sz wy sz2 wy2 a a2 n c n2 c2 w hE hE2).mono (bad _)
  · exact (bjoin_bad1 sz wy sz2 wy2 a a2 n c n2 c2 w hE).mono (bad _)
end Go.Proofs.Ytffocoflmbhknaa

/- All that the walk of SketchOwn uses. -/
