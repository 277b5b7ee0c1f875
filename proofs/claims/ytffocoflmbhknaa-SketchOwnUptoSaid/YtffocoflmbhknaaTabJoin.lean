/- Contract of table.Join. -/
import Derived.Test.YtffocoflmbhknaaMgTablePut2
import Derived.Deep.LoopGhost
namespace Go.Proofs.Ytffocoflmbhknaa
open Go.ChangeShapes Go.WideShapes Go.ChangeAt Go.RowKit
set_option maxRecDepth 20000
/-- The table when k whole rows and t counts of the next one were added. -/
def joinT (T U : Nat → Nat → Int) (k t i j : Nat) : Int := if i < k ∨ (i = k ∧ j < t) then T i j + U i j else T i j
theorem joinT_step (T U : Nat → Nat → Int) (k t a b : Nat) : (if a = k ∧ b = t then T k t + U k t else joinT T U k t a b) = joinT T U k (t + 1) a b := by
  unfold joinT
  by_cases e : a = k ∧ b = t
  · rw [if_pos e, if_pos (by omega), e.1, e.2]
  · rw [if_neg e]
    by_cases h : a < k ∨ (a = k ∧ b < t)
    · rw [if_pos h, if_pos (by omega)]
    · rw [if_neg h, if_neg (by omega)]
theorem joinT_next (T U : Nat → Nat → Int) (k m : Nat) (a b : Nat) (hb : b < m) : joinT T U k m a b = joinT T U (k + 1) 0 a b := by
  unfold joinT
  by_cases h : a < k ∨ (a = k ∧ b < m)
  · rw [if_pos h, if_pos (by omega)]
  · rw [if_neg h, if_neg (by omega)]
set_option maxHeartbeats 8000000 in
theorem tjoin_c (m : Nat) (a a2 : Option Addr) (n c c2 : Nat) (T U : Nat → Nat → Int) (w : World) (h : RowsAt w a n c (tabL T m n)) (hok : TabOk m n (tabL T m n)) (h2 : RowsAt w a2 n c2 (tabL U m n)) (hok2 : TabOk m n (tabL U m n)) (hs : ∀ i j, i < n → j < m → T i j + U i j ≤ 1000000000000) :
    Calls Try.prog 12 #[tabV m a n c, tabV m a2 n c2] w fun e w' => ∃ g cp, e = .returned (.tuple #[tabV m (some ⟨g, 0, none⟩) n cp, .int .i64 0]) ∧ RowsAt w' (some ⟨g, 0, none⟩) n cp (tabL (fun i j => T i j + U i j) m n) ∧ Below w.heap.size w w' := by
  have hm := hok.m1
  have hm2 := hok.m2
  have hn := hok.n1
  have hn2 := hok.n2
  have CK := hidp (fun W (hB : Below w.heap.size w W) => tcheck_c (m : Nat) a n c _ W (h.below hB))
  have CK2 := hidp (fun W (hB : Below w.heap.size w W) => tcheck_c (m : Nat) a2 n c2 _ W (h2.below hB))
  have F0 := hidp (tchk_ok m n _ hok)
  have F2 := hidp (tchk_ok m n _ hok2)
  have CC := hidp (fun W (hB : Below w.heap.size w W) => copied_c m a n c T W (h.below hB) hm hm2 hn hn2)
  have TB := hidp (fun i j (hi : i < n) (hj : j < m) => hok.cell i j hi hj)
  have UB := hidp (fun i j (hi : i < n) (hj : j < m) => hok2.cell i j hi hj)
  have SB := hidp hs
  have mm := h2.max
  have ee := h2.le
  obtain ⟨b2, o2, rfl, hlt2, hc2⟩ := h2.cells (by omega)
  have R := hidp (fun i hi => tabL_row hc2 hm i hi)
  have hnz : ((m : Int) != (m : Int)) = false := by simp
  have hny : ((n : Int) != (n : Int)) = false := by simp
  clear h hok h2 hok2 hs hc2
  unfold tabV at *
  go_enter Try.func12, Try.ntmps12
  go_wp2_with fail
  have hb1 : Below w.heap.size w (((w.alloc (.cells #[.int .i64 (m : Nat), .slice a n c] 27)).alloc (.cells #[.int .i64 (m : Nat), .slice (some ⟨b2, o2, none⟩) n c2] 27)).alloc (.cells #[.int .i64 0, .slice none 0 0] 27)) := bal (bal (bal (Below.refl _ _) _) _) _
  refine (CK.out _ hb1).mono ?_
  rintro e wa ⟨rfl, hba⟩
  rw [F0.out]
  have c0 : wa.cell? ⟨w.heap.size, 0, none⟩ = some (.int .i64 (m : Nat)) := ck hba (by go_simp)
  have c1 : wa.cell? ⟨w.heap.size, 1, none⟩ = some (.slice a n c) := ck hba (by go_simp)
  have g0 : wa.cell? ⟨w.heap.size + 1, 0, none⟩ = some (.int .i64 (m : Nat)) := ck hba (by go_simp)
  have g1 : wa.cell? ⟨w.heap.size + 1, 1, none⟩ = some (.slice (some ⟨b2, o2, none⟩) n c2) := ck hba (by go_simp)
  have r0 : wa.cell? ⟨w.heap.size + 1 + 1, 0, none⟩ = some (.int .i64 0) := ck hba (by go_simp)
  have r1 : wa.cell? ⟨w.heap.size + 1 + 1, 1, none⟩ = some (.slice none 0 0) := ck hba (by go_simp)
  have fr : ∀ o, wa.frozen? ⟨w.heap.size + 1 + 1, o, none⟩ = false := fun o => (hba.frozen (p := ⟨w.heap.size + 1 + 1, o, none⟩) (by simp)).trans (by go_simp)
  have hwa := bstep hb1 hba
  have hsa : w.heap.size + 3 ≤ wa.heap.size := by have := hba.size; simp at this; omega
  have FR := hidp fr
  clear hb1 hba fr
  go_wp2_with fail
  refine (CK2.out _ hwa).mono ?_
  rintro e wk ⟨rfl, hbk⟩
  rw [F2.out]
  replace c0 := ck hbk c0
  replace c1 := ck hbk c1
  replace g0 := ck hbk g0
  replace g1 := ck hbk g1
  replace r0 := ck hbk r0
  replace r1 := ck hbk r1
  replace FR := hidp (fun o => (hbk.frozen (p := ⟨w.heap.size + 1 + 1, o, none⟩) (by show w.heap.size + 1 + 1 < wa.heap.size; omega)).trans (FR.out o))
  have hwk := bstep hwa hbk
  have hsk : wa.heap.size ≤ wk.heap.size := hbk.size
  clear hwa hbk
  go_wp2_with fail
  refine (CC.out _ hwk).mono ?_
  rintro e wb ⟨g, cp, G, C, rfl, hT, hg1, hg2, hg3, hbb⟩
  have hwb := bstep hwk hbb
  have hx : Below wb.heap.size wb (wb.alloc (.cells #[.int .i64 (m : Nat), .slice (some ⟨g, 0, none⟩) n cp] 27)) := bal (Below.refl _ _) _
  have P0 : PutT (wb.alloc (.cells #[.int .i64 (m : Nat), .slice (some ⟨g, 0, none⟩) n cp] 27)) (w.heap.size + 1) (w.heap.size + 1 + 1) wb.heap.size m n (some ⟨b2, o2, none⟩) c2 g cp :=
    ⟨ca (ck hbb g0) _, ca (ck hbb g1) _, ⟨_, ca (ck hbb r0) _⟩, ⟨_, ca (ck hbb r1) _⟩, by go_simp, by go_simp, fun o => by
      have e1 := (hbb.frozen (p := ⟨w.heap.size + 1 + 1, o, none⟩) (by show w.heap.size + 1 + 1 < _; omega)).trans (FR.out o)
      have e2 := hx.frozen (p := ⟨w.heap.size + 1 + 1, o, none⟩) (by have := hbb.size; show w.heap.size + 1 + 1 < _; omega)
      exact e2.trans e1⟩
  have hT0 : OwnT (wb.alloc (.cells #[.int .i64 (m : Nat), .slice (some ⟨g, 0, none⟩) n cp] 27)) wk.heap.size g n m G C (joinT T U 0 0) :=
    (hT.below hx).congr (fun i j _ _ => by unfold joinT; rw [if_neg (by omega)])
  have hgq : g < wb.heap.size := hT.lt
  have GL := hidp (fun i (hi : i < n) => hT.ltG i hi)
  have hbw : Below w.heap.size w (wb.alloc (.cells #[.int .i64 (m : Nat), .slice (some ⟨g, 0, none⟩) n cp] 27)) := bal hwb _
  clear c0 c1 g0 g1 r0 r1 FR hT hbb hwb hwk CK CC CK2 hx
  go_upto_region 10 with fail
  generalize (wb.alloc (.cells #[.int .i64 (m : Nat), .slice (some ⟨g, 0, none⟩) n cp] 27)) = w3 at *
  generalize wb.heap.size = Q at *
  have PP := hidp P0
  have HT := hidp hT0
  have HB := hidp hbw
  have d1 := P0.c1
  clear hT0 hbw P0
  go_wp2_with fail
  clear d1
  go_loopw [45] (fun i wr => ∃ k : Nat, k ≤ n ∧ i = .int .i64 k ∧ Hid (PutT wr (w.heap.size + 1) (w.heap.size + 1 + 1) Q m n (some ⟨b2, o2, none⟩) c2 g cp) ∧ Hid (OwnT wr wk.heap.size g n m G C (joinT T U k 0)) ∧ Below w.heap.size w wr) (fun i _ => n - (intOf i).toNat)
  case atStart => exact ⟨0, by omega, rfl, PP, HT, HB.out⟩
  case round =>
    clear PP HT HB
    obtain ⟨k, hk, rfl, PP, HT, hbl⟩ := hrel
    by_cases hlt : k < n
    · obtain ⟨bi, oi, ci, q0, q1, q2⟩ := R.out k hlt
      have q := carry_cell ⟨hlt2, q0⟩ hbl
      have QI := hidp q1
      have BL := hidp hbl
      clear q0 q1 hbl
      go_wp2_with fail
      clear q
      go_loopw [52] (fun j wx => ∃ t : Nat, t ≤ m ∧ j = .int .i64 t ∧ Hid (PutT wx (w.heap.size + 1) (w.heap.size + 1 + 1) Q m n (some ⟨b2, o2, none⟩) c2 g cp) ∧ Hid (OwnT wx wk.heap.size g n m G C (joinT T U k t)) ∧ Below w.heap.size w wx) (fun j _ => m - (intOf j).toNat)
      case atStart => exact ⟨0, by omega, rfl, PP, HT, BL.out⟩
      case round =>
        clear PP HT BL
        obtain ⟨t, ht, rfl, PP, HT, hbl⟩ := hrel
        have HTo := HT.out
        by_cases hlt3 : t < m
        · have o0 := PP.out.o0
          have o1 := PP.out.o1
          have q3 := ints_cell (QI.out.below hbl) t hlt3
          rw [tab_gi _ _ _ hlt3] at q3
          have q4 := HTo.hd k hlt
          have q5 := HTo.cell k t hlt hlt3
          have q6 := HTo.fro k t hlt
          have hGk := GL.out k hlt
          rw [show joinT T U k t k t = T k t from by unfold joinT; rw [if_neg (by omega)]] at q5
          have tb := TB.out k t hlt hlt3
          have ub := UB.out k t hlt hlt3
          have sb := SB.out k t hlt hlt3
          have hGg : ¬ G k = g := HTo.ne k hlt
          have hGQ : ¬ G k = Q := by omega
          have hgG : ¬ g = G k := fun e => hGg e.symm
          have hQG : ¬ Q = G k := fun e => hGQ e.symm
          have HT5 := hidp ((HTo.set k t hlt (T k t + U k t)).congr (fun i j _ _ => joinT_step T U k t i j))
          have PP5 := hidp (PP.out.far (G k) t (.int .i64 (T k t + U k t)) (by omega) (by omega) (by omega))
          have bl5 : Below w.heap.size w (wr.setCell ⟨G k, t, none⟩ (.int .i64 (T k t + U k t))) := hbl.setCell (p := ⟨G k, t, none⟩) (by show w.heap.size ≤ G k; omega) _
          clear HTo
          generalize T k t = x at *
          generalize U k t = y at *
          go_wp2_with fail
          go_roundw
          case measure => simp [intOf]; omega
          case rel => exact ⟨t + 1, by omega, by go_num, PP5, HT5, bl5⟩
        · obtain rfl : t = m := by omega
          clear HTo
          go_wp2_with fail
          go_roundw
          case measure => simp [intOf]; omega
          case rel => exact ⟨k + 1, by omega, by go_num, PP, hidp (HT.out.congr (fun i j _ hj => joinT_next T U k t i j hj)), hbl⟩
    · obtain rfl : k = n := by omega
      obtain ⟨_, _, ⟨u0, r0⟩, ⟨u1, r1⟩, o0, o1, fr⟩ := PP.out
      have f0 := fr 0
      have f1 := fr 1
      have hr := hidp (res2 (.int .i64 (m : Nat)) (.slice (some ⟨g, 0, none⟩) k cp) r0 r1)
      have hbw := hidp (below_set2 hbl (w.heap.size + 1 + 1) (by omega) (.int .i64 (m : Nat)) (.slice (some ⟨g, 0, none⟩) k cp))
      have HT7 := hidp (((HT.out.far2 (w.heap.size + 1 + 1) (by omega) (by omega) (.int .i64 (m : Nat)) (.slice (some ⟨g, 0, none⟩) k cp)).congr (U := fun i j => T i j + U i j) (fun i j hi _ => by unfold joinT; rw [if_pos (by omega)])).rows hg2 hg3 (fun i j hi hj => by have := TB.out i j hi hj; have := UB.out i j hi hj; have := SB.out i j hi hj; omega))
      clear fr
      go_wp2_with fail
      obtain ⟨t0, t1⟩ := hr.out
      have hbv := hbw.out
      clear hr hbw
      generalize ((wr.setCell ⟨w.heap.size + 1 + 1, 0, none⟩ (.int .i64 (m : Nat))).setCell ⟨w.heap.size + 1 + 1, 1, none⟩ (.slice (some ⟨g, 0, none⟩) k cp)) = w7 at *
      exact bodyPost_ret (v := .tuple #[.agg #[.int .i64 (m : Nat), .slice (some ⟨g, 0, none⟩) k cp], .int .i64 0]) (by simp [results, Try.results12, go_sem, t0, t1]) rfl ⟨g, cp, rfl, HT7.out, hbv⟩
end Go.Proofs.Ytffocoflmbhknaa
