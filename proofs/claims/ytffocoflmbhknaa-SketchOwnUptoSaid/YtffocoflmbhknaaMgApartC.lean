/- Merged: RoomyC, ApartC. -/
import Derived.Test.YtffocoflmbhknaaFr
import Derived.Deep.OwnRows
import Derived.RegionTactic
import Derived.ChangeAlike
import Derived.Test.YtffocoflmbhknaaApart
import Derived.Test.YtffocoflmbhknaaFewMore
import Derived.Test.YtffocoflmbhknaaMgCntMore
/- Contracts of the generic helpers of own.go at cullender/api.Counter, in terms of cells (printed by genroomy.py). -/
namespace Go.Proofs.Ytffocoflmbhknaa
open Go.ChangeShapes Go.WideShapes Go.ChangeAt Go.RowKit
set_option maxRecDepth 20000
theorem info_C : (Try.prog.info? 36).map (fun i => (i.zero, i.size, i.bytes)) = some (some (.agg #[.int .i64 0, .int .i64 0]), 2, 16) := by kernel_rfl
theorem rows_eqC (n : Nat) (cs ys xc : List Value) (h1 : ys.length = (n + 3) * 2) (h2 : cs.length = n * 2) (h3 : xc.length = 2) (hT : ys.take (n * 2) = cs) (hX : ∀ j t, j < 3 → t < 2 → ys[(n + j) * 2 + t]? = xc[t]?) : ys = cs ++ (xc ++ (xc ++ xc)) := by
  apply List.ext_getElem?
  intro j
  by_cases hj : j < n * 2
  · have := congrArg (fun l => l[j]?) hT
    simp only [List.getElem?_take, if_pos hj] at this
    rw [this, List.getElem?_append_left (by omega)]
  · by_cases hj2 : j < (n + 3) * 2
    · have hq := hX ((j - n * 2) / 2) ((j - n * 2) % 2) (by omega) (by omega)
      rw [show (n + (j - n * 2) / 2) * 2 + (j - n * 2) % 2 = j by omega] at hq
      rw [hq, List.getElem?_append_right (by omega), h2]
      generalize hd : j - n * 2 = d at *
      have hd3 : d < 3 * 2 := by omega
      by_cases e1 : d < 2
      · rw [List.getElem?_append_left (by omega), Nat.mod_eq_of_lt e1]
      · rw [List.getElem?_append_right (by omega), h3]
        by_cases e2 : d - 2 < 2
        · rw [List.getElem?_append_left (by omega)]; congr 1; omega
        · rw [List.getElem?_append_right (by omega), h3]; congr 1; omega
    · rw [List.getElem?_eq_none (by omega), List.getElem?_eq_none (by simp only [List.length_append]; omega)]
set_option maxHeartbeats 2000000 in
theorem roomyC_c (a : Option Addr) (n c : Nat) (cs : List Value) (x0 : Int) (x1 : Int) (w : World) (hl : cs.length = n * 2) (hc : ∀ b, a = some b → ∀ j u, cs[j]? = some u → w.cell? (b.add j) = some u) (h1 : ∀ u ∈ cs, u.oneCell' = true) (hN : a = none → n = 0 ∧ c = 0) (hle : n ≤ c) (hm : c ≤ 9223372036854775807) (hn : n ≤ 8796093021952) :
    Calls Try.prog 8 #[.slice a n c, .agg #[.int .i64 x0, .int .i64 x1]] w fun e w' => ∃ g, e = .returned (.slice (some ⟨g, 0, none⟩) n (n + 3)) ∧ w'.ownsRow w.heap.size 36 2 (.slice (some ⟨g, 0, none⟩) (n + 3) (n + 3)) (n + 3) (cs ++ ([.int .i64 x0, .int .i64 x1] ++ ([.int .i64 x0, .int .i64 x1] ++ [.int .i64 x0, .int .i64 x1]))) ∧ Below w.heap.size w w' := by
  have hmk : ∀ W : World, (Instr.makeSlice 28 (.int .i64 0) (.int .i64 ((n : Int) + 3))).run Try.prog W = .ok (.slice (some ⟨W.heap.size, 0, none⟩) 0 (n + 3)) (W.alloc (.cells (madeCells #[.int .i64 0, .int .i64 0] ((n + 3) * 2)) 36)) := by
    intro W
    obtain ⟨i0, hi, hz0, hz1, hz2⟩ := info_parts info_C
    have hr := run_make (P := Try.prog) W 28 36 i0 _ Try.underlying28 hi hz0 .i64 .i64 0 ((n : Int) + 3) (by omega) (by omega) (by rw [hz2]; omega) (by omega)
    rw [hr, hz1]
    rfl
  have hcells : ∀ W, Below w.heap.size w W → ∀ b, a = some b → ∀ j u, cs[j]? = some u → W.cell? (b.add j) = some u := by
    intro W hW b hb j u hu
    have h2 := hc b hb j u hu
    exact ck hW h2
  have HC := hidp hcells
  have OW := hidp (fun W (hW : w.heap.size ≤ W.heap.size) => World.ownsRow_made (base := w.heap.size) (e := 36) (size := 2) W (madeCells #[.int .i64 0, .int .i64 0] ((n + 3) * 2)) (n + 3) hW (by unfold maxLen; omega) (by rw [size_madeCells]))
  have HL := hidp hl
  have H1 := hidp h1
  have HN := hidp hN
  clear hcells hc hl h1 hN
  go_enter Try.func8, Try.ntmps8
  have hb0 : Below w.heap.size w (w.alloc (.cells #[.int .i64 x0, .int .i64 x1] 36)) := bal (Below.refl _ _) _
  have OW1 := hidp (show ((w.alloc (.cells #[.int .i64 x0, .int .i64 x1] 36)).alloc (.cells (madeCells #[.int .i64 0, .int .i64 0] ((n + 3) * 2)) 36)).ownsRow w.heap.size 36 2 (.slice (some ⟨w.heap.size + 1, 0, none⟩) 0 (n + 3)) 0 [] from by
    have := OW.out (w.alloc (.cells #[.int .i64 x0, .int .i64 x1] 36)) hb0.size
    rwa [show (w.alloc (.cells #[.int .i64 x0, .int .i64 x1] 36)).heap.size = w.heap.size + 1 by simp] at this)
  go_wp2_with (at_builtin; go_loud (refine wpList_append_fits rfl (.tmp 10) (.tmp 11) 28 rfl w.heap.size 36 (.agg #[.int .i64 0, .int .i64 0]) 2 16 Try.underlying28 info_C (w.heap.size + 1) 0 (n + 3) [] rfl OW1.out a n c cs rfl (by rw [HL.out]) HN.out (HC.out _ (bal hb0 _)) H1.out (by omega) ?_); intro w1 h1 h2)
  rw [Nat.zero_add, List.nil_append] at h1
  have hb1 : Below w.heap.size w w1 := (bal hb0 _).grown h2 (by simp; omega) (fun k hk => by cases hk; omega)
  obtain ⟨ys, y1, y2⟩ := owns_full h1
  have b0 : w1.cell? ⟨w.heap.size, 0, none⟩ = some (.int .i64 x0) := gk h2 (by go_simp) (by simp)
  have b1 : w1.cell? ⟨w.heap.size, 1, none⟩ = some (.int .i64 x1) := gk h2 (by go_simp) (by simp)
  clear h2 OW HC HN hmk hb0 OW1
  obtain ⟨g, hg⟩ : ∃ g, g = w.heap.size + 1 := ⟨_, rfl⟩
  have hgB : w.heap.size ≤ g := by omega
  have hgn : ¬ g = w.heap.size := by omega
  have hgn' : ¬ w.heap.size = g := by omega
  rw [← hg] at y1
  rw [← hg]
  clear hg h1
  go_loopw [13] (fun i wr => ∃ (k : Nat) (ys : List Value), k ≤ 3 ∧ i = .int .i64 k ∧ wr.ownsRow w.heap.size 36 2 (.slice (some ⟨g, 0, none⟩) (n + 3) (n + 3)) (n + 3) ys ∧ Hid (ys.take (n * 2) = cs) ∧ Hid (∀ j t, j < k → t < 2 → ys[(n + j) * 2 + t]? = [.int .i64 x0, .int .i64 x1][t]?) ∧ Below w.heap.size w wr ∧ wr.cell? ⟨w.heap.size, 0, none⟩ = some (.int .i64 x0) ∧ wr.cell? ⟨w.heap.size, 1, none⟩ = some (.int .i64 x1)) (fun i _ => 3 - (intOf i).toNat)
  case atStart => exact ⟨0, ys, by omega, rfl, y1, y2, hidp (fun j t hj => by omega), hb1, b0, b1⟩
  case round =>
    obtain ⟨k, zs, hk, rfl, hO, hT, hX, hB, e0, e1⟩ := hrel
    have hlz := hO.1
    by_cases hlt : k < 3
    · have f0 := hO.frozenAt ((n + k) * 2)
      have c0 : ∃ u, wr.cell? ⟨g, (n + k) * 2, none⟩ = some u := ⟨zs[(n + k) * 2]'(by omega), by rw [hO.cellAt ((n + k) * 2) (by omega), List.getElem?_eq_getElem (by omega)]⟩
      obtain ⟨u0, c0⟩ := c0
      have f1 := hO.frozenAt ((n + k) * 2 + 1)
      have c1 : ∃ u, wr.cell? ⟨g, (n + k) * 2 + 1, none⟩ = some u := ⟨zs[(n + k) * 2 + 1]'(by omega), by rw [hO.cellAt ((n + k) * 2 + 1) (by omega), List.getElem?_eq_getElem (by omega)]⟩
      obtain ⟨u1, c1⟩ := c1
      have N0 := (hO.stored ((n + k) * 2) (.int .i64 x0)).1
      have N1 := (N0.stored ((n + k) * 2 + 1) (.int .i64 x1)).1
      have HNN := hidp N1
      clear N0 N1
      go_wp2_with fail
      go_region
      go_wp2
      go_roundw
      case rel =>
        refine ⟨k + 1, ((zs.set ((n + k) * 2) (.int .i64 x0)).set ((n + k) * 2 + 1) (.int .i64 x1)), by omega, by go_num, HNN.out, hidp ?_, hidp (fun j t hj ht => ?_), ((hB.setCell (p := ⟨g, (n + k) * 2, none⟩) hgB _).setCell (p := ⟨g, (n + k) * 2 + 1, none⟩) hgB _).drew, by go_simp, by go_simp⟩
        · rw [List.take_set_of_le (by omega), List.take_set_of_le (by omega)]; exact hT.out
        · simp only [List.getElem?_set, List.length_set]
          have ht' : t = 0 ∨ t = 1 := by omega
          by_cases e : j = k
          · subst e
            rcases ht' with rfl | rfl
            · rw [if_neg (by omega), if_pos (by omega), if_pos (by omega)]; rfl
            · rw [if_pos (by omega), if_pos (by omega)]; rfl
          · rw [if_neg (by omega), if_neg (by omega)]; exact hX.out j t (by omega) ht
      case measure => simp [intOf]; omega
    · obtain rfl : k = 3 := by omega
      go_wp2
      go_ret
      have e := rows_eqC n cs zs [.int .i64 x0, .int .i64 x1] hlz HL.out rfl hT.out (fun j t hj ht => hX.out j t hj ht)
      rw [e] at hO
      refine ⟨_, rfl, by simpa using hO, hB⟩
set_option maxHeartbeats 2000000 in
/-- Does the mark stand in the room? -/
theorem markedC_c (g n : Nat) (x0 : Int) (x1 : Int) (w : World) (hg : g < w.heap.size) (hn : n ≤ 8796093021952) (hc : ∀ i, i < 3 → w.cell? ⟨g, (n + i) * 2 + 0, none⟩ = some (.int .i64 x0) ∧ w.cell? ⟨g, (n + i) * 2 + 1, none⟩ = some (.int .i64 x1)) :
    Calls Try.prog 18 #[.slice (some ⟨g, 0, none⟩) n (n + 3), .agg #[.int .i64 x0, .int .i64 x1]] w fun e w' => e = .returned (.bool true) ∧ Below w.heap.size w w' := by
  have C := hidp hc
  clear hc
  go_enter Try.func18, Try.ntmps18
  have hb0 : Below w.heap.size w (w.alloc (.cells #[.int .i64 x0, .int .i64 x1] 36)) := bal (Below.refl _ _) _
  have b0 : (w.alloc (.cells #[.int .i64 x0, .int .i64 x1] 36)).cell? ⟨w.heap.size, 0, none⟩ = some (.int .i64 x0) := by go_simp
  have b1 : (w.alloc (.cells #[.int .i64 x0, .int .i64 x1] 36)).cell? ⟨w.heap.size, 1, none⟩ = some (.int .i64 x1) := by go_simp
  go_wp2_with fail
  generalize (w.alloc (.cells #[.int .i64 x0, .int .i64 x1] 36)) = w1 at *
  go_loopw [14] (fun i wr => ∃ (k : Nat), k ≤ 3 ∧ i = .int .i64 k ∧ Below w.heap.size w wr ∧ wr.cell? ⟨w.heap.size, 0, none⟩ = some (.int .i64 x0) ∧ wr.cell? ⟨w.heap.size, 1, none⟩ = some (.int .i64 x1)) (fun i _ => 3 - (intOf i).toNat)
  case atStart => exact ⟨0, by omega, rfl, hb0, b0, b1⟩
  case round =>
    obtain ⟨k, hk, rfl, hB, e0, e1⟩ := hrel
    by_cases hlt : k < 3
    · obtain ⟨q0, q1⟩ := C.out k hlt
      have c0 : wr.cell? ⟨g, n * 2 + k * 2, none⟩ = some (.int .i64 x0) := by have := ck hB q0; rwa [show (n + k) * 2 + 0 = n * 2 + k * 2 by omega] at this
      have c1 : wr.cell? ⟨g, n * 2 + k * 2 + 1, none⟩ = some (.int .i64 x1) := by have := ck hB q1; rwa [show (n + k) * 2 + 1 = n * 2 + k * 2 + 1 by omega] at this
      clear q0 q1
      have hlt' : k < n + 3 - n := by omega
      have hs := hB.size
      have hw : w.heap.size < wr.heap.size := lt_of_cell e0
      have n1 : ¬ wr.heap.size = w.heap.size := by omega
      have n1' : ¬ w.heap.size = wr.heap.size := by omega
      have n2 : ¬ g = wr.heap.size := by omega
      have n2' : ¬ wr.heap.size = g := by omega
      go_wp2
      go_roundw
      case rel => exact ⟨k + 1, by omega, by go_num, bal hB _, ca e0 _, ca e1 _⟩
      case measure => simp [intOf]; omega
    · obtain rfl : k = 3 := by omega
      go_wp2
      go_ret
      exact ⟨rfl, hB⟩
set_option maxHeartbeats 2000000 in
/-- A row is spoilt: nothing else that was there changes. -/
theorem spoilC_c (v : Value) (n B : Nat) (xs : List Value) (x0 : Int) (x1 : Int) (w : World) (h : w.ownsRow B 36 2 v n xs) :
    Calls Try.prog 24 #[v, .agg #[.int .i64 x0, .int .i64 x1]] w fun e w' => e = .returned (.tuple #[]) ∧ w.grownBy w' v.ownBlock := by
  rcases h.2 with ⟨rfl, rfl⟩ | ⟨g, cap, cur, rfl, hg, hh, hn, hm, hs, ht⟩
  · clear h
    go_enter Try.func24, Try.ntmps24
    go_wp2_with fail
    refine wp_loop_rounds 1 ?_; rw [rounds_succ]
    go_wp2
    go_end0
    exact ⟨rfl, World.grownBy_alloc w _ _⟩
  · obtain ⟨ys, hO, _⟩ := owns_full h
    have hgl := (hO.lt g rfl).2
    clear h hh hs ht cur
    unfold maxLen at hm
    go_enter Try.func24, Try.ntmps24
    have hO1 := hO.alloc (.cells #[.int .i64 x0, .int .i64 x1] 36)
    have hG1 : w.grownBy (w.alloc (.cells #[.int .i64 x0, .int .i64 x1] 36)) (some g) := World.grownBy_alloc w _ _
    have b0 : (w.alloc (.cells #[.int .i64 x0, .int .i64 x1] 36)).cell? ⟨w.heap.size, 0, none⟩ = some (.int .i64 x0) := by go_simp
    have b1 : (w.alloc (.cells #[.int .i64 x0, .int .i64 x1] 36)).cell? ⟨w.heap.size, 1, none⟩ = some (.int .i64 x1) := by go_simp
    go_wp2_with fail
    generalize (w.alloc (.cells #[.int .i64 x0, .int .i64 x1] 36)) = w1 at *
    have hgn : ¬ g = w.heap.size := by omega
    have hgn' : ¬ w.heap.size = g := by omega
    go_loopw [11] (fun i wr => ∃ (k : Nat) (ys : List Value), k ≤ cap ∧ i = .int .i64 k ∧ wr.ownsRow B 36 2 (.slice (some ⟨g, 0, none⟩) cap cap) cap ys ∧ w.grownBy wr (some g) ∧ wr.cell? ⟨w.heap.size, 0, none⟩ = some (.int .i64 x0) ∧ wr.cell? ⟨w.heap.size, 1, none⟩ = some (.int .i64 x1)) (fun i _ => cap - (intOf i).toNat)
    case atStart => exact ⟨0, ys, by omega, rfl, hO1, hG1, b0, b1⟩
    case round =>
      obtain ⟨k, zs, hk, rfl, hO, hG, e0, e1⟩ := hrel
      have hlz := hO.1
      by_cases hlt : k < cap
      · have f0 := hO.frozenAt (k * 2)
        have c0 : ∃ u, wr.cell? ⟨g, k * 2, none⟩ = some u := ⟨zs[k * 2]'(by omega), by rw [hO.cellAt (k * 2) (by omega), List.getElem?_eq_getElem (by omega)]⟩
        obtain ⟨u0, c0⟩ := c0
        have f1 := hO.frozenAt (k * 2 + 1)
        have c1 : ∃ u, wr.cell? ⟨g, k * 2 + 1, none⟩ = some u := ⟨zs[k * 2 + 1]'(by omega), by rw [hO.cellAt (k * 2 + 1) (by omega), List.getElem?_eq_getElem (by omega)]⟩
        obtain ⟨u1, c1⟩ := c1
        have N0 := hO.stored (k * 2) (.int .i64 x0)
        have N1 := N0.1.stored (k * 2 + 1) (.int .i64 x1)
        have HNN := hidp N1.1
        have Hg := hidp ((hG.trans N0.2).trans N1.2)
        clear N0 N1
        go_wp2
        go_roundw
        case rel => exact ⟨k + 1, _, by omega, by go_num, HNN.out, Hg.out, by go_simp, by go_simp⟩
        case measure => simp [intOf]; omega
      · obtain rfl : k = cap := by omega
        go_wp2
        go_end0
        exact ⟨rfl, hG⟩
end Go.Proofs.Ytffocoflmbhknaa

/- Contract of own.go's apart at rows of cullender/api.Counter (printed by genapart.py out of XApart). -/
namespace Go.Proofs.Ytffocoflmbhknaa
open Go.ChangeShapes Go.WideShapes Go.ChangeAt Go.RowKit
set_option maxRecDepth 20000
theorem info_slcC : (Try.prog.info? 28).map (fun i => (i.zero, i.size, i.bytes)) = some (some (.slice none 0 0), 1, 24) := by kernel_rfl
theorem cntV_inj : ∀ l m : List (Int × Int), cntV l = cntV m → l = m
  | [], [], _ => rfl
  | [], p :: m, h => by simp [cntV] at h
  | p :: l, [], h => by simp [cntV] at h
  | p :: l, q :: m, h => by
    simp only [cntV, List.cons.injEq, Value.int.injEq, true_and] at h
    obtain ⟨h1, h2, h3⟩ := h
    rw [cntV_inj l m h3, Prod.ext h1 h2]
/-- A row of cullender/api.Counter. -/
def ec (v : Value) (n : Nat) (L : List (Int × Int)) : Ent := ⟨36, 2, v, n, cntV L⟩
/-- .. a short one. -/
def IsC (x : Ent) : Prop := ∃ n L, x = ec x.v n L ∧ n ≤ 1000
theorem Sep.ec {B : Nat} {W : World} {L : List Ent} (h : Sep B W L) {x : Ent} (hx : x ∈ L) (hi : IsC x) : ∃ a n c xs, x = Go.Proofs.Ytffocoflmbhknaa.ec (.slice a n c) n xs ∧ CntAt W a n c xs ∧ n ≤ 1000 := by
  obtain ⟨n, xs, hx1, hn⟩ := hi
  have ho := h.own x hx
  obtain ⟨v, rfl⟩ : ∃ v, x = Go.Proofs.Ytffocoflmbhknaa.ec v n xs := ⟨_, hx1⟩
  obtain ⟨a, c, hv, hI⟩ := owns_cnts (show W.ownsRow B 36 2 v n (cntV xs) from ho)
  subst hv
  exact ⟨a, n, c, xs, rfl, hI, hn⟩
set_option maxHeartbeats 2000000 in
theorem apartc_c (B b o m c : Nat) (x0 x1 : Int) (L : List Ent) (w : World) (hl : L.length = m) (hm0 : 0 < m) (hm : m ≤ 100) (hmc : m ≤ c) (hc : c ≤ 9223372036854775807) (hB : B ≤ w.heap.size)
    (hH : Hd b o w L) (hO : ∀ x ∈ L, x.v.ownBlock ≠ some b) (hS : Sep B w L) (hI : ∀ x ∈ L, IsC x) :
    Calls Try.prog 27 #[.agg #[.int .i64 x0, .int .i64 x1], .slice (some ⟨b, o, none⟩) m c] w fun e w' => e = .returned (.bool true) ∧ Below B w w' := by
  have hb0 : Below w.heap.size w (w.alloc (.cells #[.int .i64 x0, .int .i64 x1] 36)) := bal (Below.refl _ _) _
  have p0 : (w.alloc (.cells #[.int .i64 x0, .int .i64 x1] 36)).cell? ⟨w.heap.size, 0, none⟩ = some (.int .i64 x0) := by go_simp
  have p1 : (w.alloc (.cells #[.int .i64 x0, .int .i64 x1] 36)).cell? ⟨w.heap.size, 1, none⟩ = some (.int .i64 x1) := by go_simp
  have hl0 := hH.lt
  have HBOX := hidp (fun x (hx : x ∈ L) e => by have := (hS.own x hx).lt w.heap.size e; omega : ∀ x ∈ L, x.v.ownBlock ≠ some w.heap.size)
  replace hH := hH.below hb0
  replace hS := hS.below hb0
  have HL := hidp hl
  have HO := hidp hO
  have HI := hidp hI
  have HH := hidp hH
  have HS := hidp hS
  clear hl hO hI hH hS
  go_enter Try.func27, Try.ntmps27
  go_wp2_with fail
  obtain ⟨w0, hw0⟩ : ∃ w0, w0 = (w.alloc (.cells #[.int .i64 x0, .int .i64 x1] 36)) := ⟨_, rfl⟩
  rw [← hw0] at hb0 HH HS p0 p1 ⊢
  clear hw0
  have hB0 := hb0.size
  go_loopw [12, 5] (fun i s5 wr => ∃ (k : Nat) (M : List Ent), k ≤ m ∧ i = .int .i64 k ∧ Hid (M.length = k) ∧ wr.ownsRow w0.heap.size 28 1 s5 k (M.map (·.v)) ∧ Hid (Sep B wr (L ++ M)) ∧ Hid (Off s5 (L ++ M)) ∧ Hid (Twin L M) ∧ Hid (∀ x ∈ M, IsC x) ∧ Hid (Hd b o wr L) ∧ Below w0.heap.size w0 wr) (fun i _ _ => m - (intOf i).toNat)
  case atStart => exact ⟨0, [], by omega, rfl, rfl, World.ownsRow_nil _ _ _ _, by rw [List.append_nil]; exact HS, Off.nil _, Twin.nil _, fun x hx => by simp at hx, HH, Below.refl _ _⟩
  case round =>
    obtain ⟨k, M, hk, rfl, ML, hW, S1, O1, T1, I1, H1, hBl⟩ := hrel
    by_cases hlt : k < m
    · have hlL := HL.out
      obtain ⟨y, hy⟩ : ∃ y, L[k]? = some y := ⟨L[k]'(by omega), List.getElem?_eq_getElem (by omega)⟩
      have hyL : y ∈ L := List.mem_of_getElem? hy
      obtain ⟨a', n', c', xs', rfl, hI', hn'⟩ := S1.out.ec (x := y) (List.mem_append_left _ hyL) (HI.out y hyL)
      have c1 : wr.cell? ⟨b, o + k, none⟩ = some (.slice a' n' c') := H1.out.at_ k _ hy
      have HY := hidp hy
      have CC := hidp (clonec_c a' n' c' xs' wr hI' (by omega))
      clear hy hyL hlL
      clear hI'
      go_wp2_with fail
      refine CC.out.mono ?_
      rintro e w2 ⟨v2, rfl, hv2, hb2⟩
      have hd2 := owns_below' hW hb2
      have hbs := bstep hBl hb2
      have hgs := hbs.size
      have S2 := hidp (S1.out.snoc (x := ec v2 n' xs') (Nat.le_trans hB (Nat.le_trans hB0 hBl.size)) hb2 hv2)
      have O2 := hidp (Off.snoc (x := ec v2 n' xs') O1.out ((apart_new hW hv2 (Nat.le_refl _)).symm))
      have H2 := hidp (H1.out.below hb2)
      obtain ⟨a2, c2, rfl, _, _⟩ := owns_form hv2
      clear CC c1
      go_wp2_with (at_builtin; refine wpList_append_new rfl (.tmp 16) (.tmp 19) 79 rfl w0.heap.size 28 _ 1 24 info_slcC rfl (by decide) Try.underlying79 u5 k _ rfl hd2 rfl (one_slc _ _ _) rfl rfl (by omega) (by decide) hgs ?_; intro v3 w3 nv g3 d3)
      have hkn : v3.ownBlock = u5.ownBlock ∨ ∃ k, v3.ownBlock = some k ∧ w2.heap.size ≤ k := d3
      have S3 := hidp (S2.out.off O2.out g3)
      have O3 := hidp (O2.out.grown S2.out d3)
      have H3 := hidp (H2.out.grown g3 (fun e => by
        have h1 := (hd2.lt b e).1
        have h2 := HH.out.lt
        omega))
      have bl3 := append_step hd2 hbs (Nat.le_refl _) g3
      go_roundw
      case measure => simp [intOf]; omega
      case rel =>
        have hml := ML.out
        refine ⟨k + 1, M ++ [ec (.slice a2 n' c2) n' xs'], by omega, by go_num, hidp (by simp [hml]), by rw [vmap_snoc]; exact nv, hidp (by rw [← List.append_assoc]; exact S3.out), hidp (by rw [← List.append_assoc]; exact O3.out), hidp (T1.out.snoc (x := ec (.slice a' n' c') n' xs') (by rw [hml]; exact HY.out) rfl rfl rfl rfl), hidp (fun z hz => ?_), H3, bl3⟩
        rcases List.mem_append.1 hz with hz | hz
        · exact I1.out z hz
        · simp at hz; subst hz; exact ⟨n', xs', rfl, hn'⟩
    · obtain rfl : m = k := by omega
      have hml := ML.out
      obtain ⟨gw, cw, rfl, hgw, hgl, hcw, hcm⟩ := owns_addr hW hm0
      clear ML
      go_wp2_with fail
      have hBl' : Below B w wr := (hb0.mono hB).trans (hBl.mono (Nat.le_trans hB hB0))
      replace p0 := ck hBl p0
      replace p1 := ck hBl p1
      go_loopw [24] (fun i wx => ∃ (k : Nat), k ≤ m ∧ i = .int .i64 k ∧ wx.ownsRow w0.heap.size 28 1 (.slice (some ⟨gw, 0, none⟩) m cw) m (M.map (·.v)) ∧ Hid (Sep B wx (L.drop k ++ M)) ∧ Hid (Hd b o wx L) ∧ Below B w wx ∧ wx.cell? ⟨w.heap.size, 0, none⟩ = some (.int .i64 x0) ∧ wx.cell? ⟨w.heap.size, 1, none⟩ = some (.int .i64 x1)) (fun i _ => m - (intOf i).toNat)
      case atStart => exact ⟨0, by omega, rfl, hW, S1, H1, hBl', p0, p1⟩
      case round =>
        obtain ⟨k, hk, rfl, hW, S1, H1, hBl, q0, q1⟩ := hrel
        clear hBl' p0 p1
        by_cases hlt : k < m
        · have hlL := HL.out
          obtain ⟨y, hy⟩ : ∃ y, L[k]? = some y := ⟨L[k]'(by omega), List.getElem?_eq_getElem (by omega)⟩
          have hyL : y ∈ L := List.mem_of_getElem? hy
          obtain ⟨z, hz⟩ : ∃ z, M[k]? = some z := ⟨M[k]'(by omega), List.getElem?_eq_getElem (by omega)⟩
          have hzM : z ∈ M := List.mem_of_getElem? hz
          have hyD : y ∈ L.drop k ++ M := by rw [drop_cons hy]; simp
          have hne := HO.out y hyL
          have hnb := HBOX.out y hyL
          have hYI := HI.out y hyL
          have hZI := I1.out z hzM
          obtain ⟨y', hy', t1, t2, t3, t4⟩ := T1.out k z hz
          have hyy : y' = y := by rw [hy] at hy'; exact (Option.some.inj hy').symm
          subst hyy
          have S1' := S1.out
          rw [drop_cons hy] at S1'
          have hyo := S1'.own y' (by simp)
          have hoff := O1.out y' (List.mem_append_left _ hyL)
          have hlo := S1'.own y' (by simp)
          obtain ⟨ay, ny, cy, xy, rfl, hIy, hny⟩ := S1.out.ec hyD hYI
          obtain ⟨az, nz, cz, xz, rfl, hIz, hnz⟩ := S1.out.ec (x := z) (List.mem_append_right _ hzM) hZI
          obtain rfl : ny = nz := t3
          have hxx : xy = xz := cntV_inj _ _ t4
          subst hxx
          have c1 : wr.cell? ⟨b, o + k, none⟩ = some (.slice ay ny cy) := H1.out.at_ k _ hy
          have c2 : wr.cell? ⟨gw, k, none⟩ = some (.slice az ny cz) := by
            rw [hW.cellAt k (by omega), List.getElem?_map, hz]; rfl
          have EQ := hidp (eqcc_c ay az ny cy cz xy wr hIy hIz)
          have S2 := hidp S1'
          have HNE := hidp hne
          have HNB := hidp hnb
          have HOF := hidp hoff
          clear hy hyL hz hzM hyD t1 t2 t4 hIy hIz S1' hYI hZI hyo hlo hne hnb hoff hlL
          go_wp2_with fail
          refine EQ.out.mono ?_
          rintro e w2 ⟨rfl, hb2⟩
          have S3 := hidp (S2.out.below hb2)
          replace q0 := ck hb2 q0
          replace q1 := ck hb2 q1
          have hW2 := owns_below' hW hb2
          have H2 := hidp (H1.out.below hb2)
          have hBl2 : Below B w w2 := hBl.trans (hb2.mono (Nat.le_trans hB hBl.size))
          have SP := hidp (spoilC_c (.slice ay ny cy) ny B (cntV xy) x0 x1 w2 (S3.out.own (ec (.slice ay ny cy) ny xy) (by simp)))
          have hyB := (S3.out.own (ec (.slice ay ny cy) ny xy) (by simp)).lt
          clear EQ S2 hb2 c1 c2
          go_wp2_with fail
          refine SP.out.mono ?_
          rintro e w3 ⟨rfl, hg⟩
          have S4 := hidp (Sep.head (L := L.drop (k + 1) ++ M) S3.out hg)
          have hW3 := hW2.kept hg HOF.out.symm
          have H3 := hidp (H2.out.grown hg HNE.out)
          replace q0 := gk hg q0 HNB.out
          replace q1 := gk hg q1 HNB.out
          have hBl3 : Below B w w3 := hBl2.grown hg (Nat.le_trans hB hBl2.size) (fun q hq => (hyB q hq).1)
          clear SP S3 hyB
          go_wp2_with fail
          go_roundw
          case measure => simp [intOf]; omega
          case rel => exact ⟨k + 1, by omega, by go_num, hW3, S4, H3, hBl3, q0, q1⟩
        · obtain rfl : k = m := by omega
          go_wp2
          go_ret
          exact ⟨rfl, hBl⟩
end Go.Proofs.Ytffocoflmbhknaa
