/- table.Put and table.Join at whatever comes. -/
import Derived.Test.YtffocoflmbhknaaTabJoin
import Derived.Test.YtffocoflmbhknaaTabOpen
import Derived.Test.YtffocoflmbhknaaFr
import Derived.BigQuiet
namespace Go.Proofs.Ytffocoflmbhknaa
open Go.ChangeShapes Go.WideShapes Go.ChangeAt Go.RowKit
set_option maxRecDepth 20000
theorem OwnT.base {W : World} {B B' g n m : Nat} {G C : Nat → Nat} {T : Nat → Nat → Int} (h : OwnT W B g n m G C T) (hB : B' ≤ B) : OwnT W B' g n m G C T := ⟨h.lt, h.hd, fun i hi => owns_mono (h.row i hi) hB, h.ne, h.inj⟩
/-- The rows of a table of the call's own (or none). -/
def FrT (B : Nat) (W : World) (v : Value) : Prop := v = .slice none 0 0 ∨ ∃ (g n cp m : Nat) (G C : Nat → Nat) (T : Nat → Nat → Int), v = .slice (some ⟨g, 0, none⟩) n cp ∧ B ≤ g ∧ n ≤ cp ∧ cp ≤ 9223372036854775807 ∧ 1 ≤ n ∧ n ≤ 4 ∧ 1 ≤ m ∧ m ≤ 32 ∧ OwnT W B g n m G C T ∧ ∀ i j, i < n → j < m → 0 ≤ T i j ∧ T i j ≤ 2000000000000
set_option maxHeartbeats 8000000 in
theorem tjoin_two (m : Nat) (a a2 : Option Addr) (n c c2 : Nat) (T U : Nat → Nat → Int) (w : World) (h : RowsAt w a n c (tabL T m n)) (hok : TabOk m n (tabL T m n)) (h2 : RowsAt w a2 n c2 (tabL U m n)) (hok2 : TabOk m n (tabL U m n)) :
    Calls Try.prog 12 #[tabV m a n c, tabV m a2 n c2] w fun e w' => ((∃ g cp G C, e = .returned (.tuple #[tabV m (some ⟨g, 0, none⟩) n cp, .int .i64 0]) ∧ OwnT w' w.heap.size g n m G C (fun i j => T i j + U i j) ∧ w.heap.size ≤ g ∧ n ≤ cp ∧ cp ≤ 9223372036854775807) ∨ e = .returned (.tuple #[tabV 0 none 0 0, .int .i64 2])) ∧ Below w.heap.size w w' := by
  have hm := hok.m1
  have hm2 := hok.m2
  have hn := hok.n1
  have hn2 := hok.n2
  have CK := hidp (fun W (hB : Below w.heap.size w W) => tcheck_c (m : Nat) a n c _ W (h.below hB))
  have CK2 := hidp (fun W (hB : Below w.heap.size w W) => tcheck_c (m : Nat) a2 n c2 _ W (h2.below hB))
  have F0 := hidp (tchk_ok m n _ hok)
  have F2 := hidp (tchk_ok m n _ hok2)
  have CC := hidp (fun W (hB : Below w.heap.size w W) => copied_c m a n c T W (h.below hB) hm hm2 hn hn2)
  have TB := hidp (fun i j (hi : i < n) (hj : j < m) => hok.cell i j hi hj)
  have UB := hidp (fun i j (hi : i < n) (hj : j < m) => hok2.cell i j hi hj)
  have mm := h2.max
  have ee := h2.le
  obtain ⟨b2, o2, rfl, hlt2, hc2⟩ := h2.cells (by omega)
  have R := hidp (fun i hi => tabL_row hc2 hm i hi)
  have hnz : ((m : Int) != (m : Int)) = false := by simp
  have hny : ((n : Int) != (n : Int)) = false := by simp
  clear h hok h2 hok2 hc2
  unfold tabV at *
  go_enter Try.func12, Try.ntmps12
  go_wp2_with fail
  have hb1 : Below w.heap.size w (((w.alloc (.cells #[.int .i64 (m : Nat), .slice a n c] 27)).alloc (.cells #[.int .i64 (m : Nat), .slice (some ⟨b2, o2, none⟩) n c2] 27)).alloc (.cells #[.int .i64 0, .slice none 0 0] 27)) := bal (bal (bal (Below.refl _ _) _) _) _
  refine (CK.out _ hb1).mono ?_
  rintro e wa ⟨rfl, hba⟩
  rw [F0.out]
  have c0 : wa.cell? ⟨w.heap.size, 0, none⟩ = some (.int .i64 (m : Nat)) := ck hba (by go_simp)
  have c1 : wa.cell? ⟨w.heap.size, 1, none⟩ = some (.slice a n c) := ck hba (by go_simp)
  have g0 : wa.cell? ⟨w.heap.size + 1, 0, none⟩ = some (.int .i64 (m : Nat)) := ck hba (by go_simp)
  have g1 : wa.cell? ⟨w.heap.size + 1, 1, none⟩ = some (.slice (some ⟨b2, o2, none⟩) n c2) := ck hba (by go_simp)
  have r0 : wa.cell? ⟨w.heap.size + 1 + 1, 0, none⟩ = some (.int .i64 0) := ck hba (by go_simp)
  have r1 : wa.cell? ⟨w.heap.size + 1 + 1, 1, none⟩ = some (.slice none 0 0) := ck hba (by go_simp)
  have fr : ∀ o, wa.frozen? ⟨w.heap.size + 1 + 1, o, none⟩ = false := fun o => (hba.frozen (p := ⟨w.heap.size + 1 + 1, o, none⟩) (by simp)).trans (by go_simp)
  have hwa := bstep hb1 hba
  have hsa : w.heap.size + 3 ≤ wa.heap.size := by have := hba.size; simp at this; omega
  have FR := hidp fr
  clear hb1 hba fr
  go_wp2_with fail
  refine (CK2.out _ hwa).mono ?_
  rintro e wk ⟨rfl, hbk⟩
  rw [F2.out]
  replace c0 := ck hbk c0
  replace c1 := ck hbk c1
  replace g0 := ck hbk g0
  replace g1 := ck hbk g1
  replace r0 := ck hbk r0
  replace r1 := ck hbk r1
  replace FR := hidp (fun o => (hbk.frozen (p := ⟨w.heap.size + 1 + 1, o, none⟩) (by show w.heap.size + 1 + 1 < wa.heap.size; omega)).trans (FR.out o))
  have hwk := bstep hwa hbk
  have hsk : wa.heap.size ≤ wk.heap.size := hbk.size
  clear hwa hbk
  go_wp2_with fail
  refine (CC.out _ hwk).mono ?_
  rintro e wb ⟨g, cp, G, C, rfl, hT, hg1, hg2, hg3, hbb⟩
  have hB0 := hwk.size
  have hgB : w.heap.size ≤ g := by omega
  have hwb := bstep hwk hbb
  have hx : Below wb.heap.size wb (wb.alloc (.cells #[.int .i64 (m : Nat), .slice (some ⟨g, 0, none⟩) n cp] 27)) := bal (Below.refl _ _) _
  have P0 : PutT (wb.alloc (.cells #[.int .i64 (m : Nat), .slice (some ⟨g, 0, none⟩) n cp] 27)) (w.heap.size + 1) (w.heap.size + 1 + 1) wb.heap.size m n (some ⟨b2, o2, none⟩) c2 g cp :=
    ⟨ca (ck hbb g0) _, ca (ck hbb g1) _, ⟨_, ca (ck hbb r0) _⟩, ⟨_, ca (ck hbb r1) _⟩, by go_simp, by go_simp, fun o => by
      have e1 := (hbb.frozen (p := ⟨w.heap.size + 1 + 1, o, none⟩) (by show w.heap.size + 1 + 1 < _; omega)).trans (FR.out o)
      have e2 := hx.frozen (p := ⟨w.heap.size + 1 + 1, o, none⟩) (by have := hbb.size; show w.heap.size + 1 + 1 < _; omega)
      exact e2.trans e1⟩
  have hT0 : OwnT (wb.alloc (.cells #[.int .i64 (m : Nat), .slice (some ⟨g, 0, none⟩) n cp] 27)) wk.heap.size g n m G C (joinT T U 0 0) :=
    (hT.below hx).congr (fun i j _ _ => by unfold joinT; rw [if_neg (by omega)])
  have hgq : g < wb.heap.size := hT.lt
  have GL := hidp (fun i (hi : i < n) => hT.ltG i hi)
  have hbw : Below w.heap.size w (wb.alloc (.cells #[.int .i64 (m : Nat), .slice (some ⟨g, 0, none⟩) n cp] 27)) := bal hwb _
  clear c0 c1 g0 g1 r0 r1 FR hT hbb hwb hwk CK CC CK2 hx
  go_upto_region 10 with fail
  generalize (wb.alloc (.cells #[.int .i64 (m : Nat), .slice (some ⟨g, 0, none⟩) n cp] 27)) = w3 at *
  generalize wb.heap.size = Q at *
  have PP := hidp P0
  have HT := hidp hT0
  have HB := hidp hbw
  have d1 := P0.c1
  clear hT0 hbw P0
  go_wp2_with fail
  clear d1
  go_loopw [45] (fun i wr => ∃ k : Nat, k ≤ n ∧ i = .int .i64 k ∧ Hid (PutT wr (w.heap.size + 1) (w.heap.size + 1 + 1) Q m n (some ⟨b2, o2, none⟩) c2 g cp) ∧ Hid (OwnT wr wk.heap.size g n m G C (joinT T U k 0)) ∧ Below w.heap.size w wr) (fun i _ => n - (intOf i).toNat)
  case atStart => exact ⟨0, by omega, rfl, PP, HT, HB.out⟩
  case round =>
    clear PP HT HB
    obtain ⟨k, hk, rfl, PP, HT, hbl⟩ := hrel
    by_cases hlt : k < n
    · obtain ⟨bi, oi, ci, q0, q1, q2⟩ := R.out k hlt
      have q := carry_cell ⟨hlt2, q0⟩ hbl
      have QI := hidp q1
      have BL := hidp hbl
      clear q0 q1 hbl
      go_wp2_with fail
      clear q
      go_loopw [52] (fun j wx => ∃ t : Nat, t ≤ m ∧ j = .int .i64 t ∧ Hid (PutT wx (w.heap.size + 1) (w.heap.size + 1 + 1) Q m n (some ⟨b2, o2, none⟩) c2 g cp) ∧ Hid (OwnT wx wk.heap.size g n m G C (joinT T U k t)) ∧ Below w.heap.size w wx) (fun j _ => m - (intOf j).toNat)
      case atStart => exact ⟨0, by omega, rfl, PP, HT, BL.out⟩
      case round =>
        clear PP HT BL
        obtain ⟨t, ht, rfl, PP, HT, hbl⟩ := hrel
        have HTo := HT.out
        by_cases hlt3 : t < m
        · have o0 := PP.out.o0
          have o1 := PP.out.o1
          have q3 := ints_cell (QI.out.below hbl) t hlt3
          rw [tab_gi _ _ _ hlt3] at q3
          have q4 := HTo.hd k hlt
          have q5 := HTo.cell k t hlt hlt3
          have q6 := HTo.fro k t hlt
          have hGk := GL.out k hlt
          rw [show joinT T U k t k t = T k t from by unfold joinT; rw [if_neg (by omega)]] at q5
          have tb := TB.out k t hlt hlt3
          have ub := UB.out k t hlt hlt3
          have hGg : ¬ G k = g := HTo.ne k hlt
          have hGQ : ¬ G k = Q := by omega
          have hgG : ¬ g = G k := fun e => hGg e.symm
          have hQG : ¬ Q = G k := fun e => hGQ e.symm
          have HT5 := hidp ((HTo.set k t hlt (T k t + U k t)).congr (fun i j _ _ => joinT_step T U k t i j))
          have PP5 := hidp (PP.out.far (G k) t (.int .i64 (T k t + U k t)) (by omega) (by omega) (by omega))
          have bl5 : Below w.heap.size w (wr.setCell ⟨G k, t, none⟩ (.int .i64 (T k t + U k t))) := hbl.setCell (p := ⟨G k, t, none⟩) (by show w.heap.size ≤ G k; omega) _
          clear HTo
          have HT6 := hidp True.intro
          obtain ⟨_, _, ⟨v0, r0⟩, ⟨v1, r1⟩, o0', o1', fr⟩ := PP5.out
          have f0 := fr 0
          have f1 := fr 1
          have hbw := hidp (below_set2 bl5 (w.heap.size + 1 + 1) (by omega) (.int .i64 0) (.slice none 0 0))
          have hr := hidp (res2 (.int .i64 0) (.slice none 0 0) r0 r1)
          clear fr
          by_cases sb : 1000000000000 < T k t + U k t
          · generalize T k t = x at *
            generalize U k t = y at *
            go_wp2_with fail
            obtain ⟨t0, t1⟩ := hr.out
            exact bodyPost_ret (v := .tuple #[.agg #[.int .i64 0, .slice none 0 0], .int .i64 2]) (by simp [results, Try.results12, go_sem, t0, t1]) rfl ⟨.inr rfl, hbw.out⟩
          clear r0 r1 f0 f1 hbw hr o0' o1'
          generalize T k t = x at *
          generalize U k t = y at *
          go_wp2_with fail
          go_roundw
          case measure => simp [intOf]; omega
          case rel => exact ⟨t + 1, by omega, by go_num, PP5, HT5, bl5⟩
        · obtain rfl : t = m := by omega
          clear HTo
          go_wp2_with fail
          go_roundw
          case measure => simp [intOf]; omega
          case rel => exact ⟨k + 1, by omega, by go_num, PP, hidp (HT.out.congr (fun i j _ hj => joinT_next T U k t i j hj)), hbl⟩
    · obtain rfl : k = n := by omega
      obtain ⟨_, _, ⟨u0, r0⟩, ⟨u1, r1⟩, o0, o1, fr⟩ := PP.out
      have f0 := fr 0
      have f1 := fr 1
      have hr := hidp (res2 (.int .i64 (m : Nat)) (.slice (some ⟨g, 0, none⟩) k cp) r0 r1)
      have hbw := hidp (below_set2 hbl (w.heap.size + 1 + 1) (by omega) (.int .i64 (m : Nat)) (.slice (some ⟨g, 0, none⟩) k cp))
      have HT7 := hidp ((HT.out.far2 (w.heap.size + 1 + 1) (by omega) (by omega) (.int .i64 (m : Nat)) (.slice (some ⟨g, 0, none⟩) k cp)).congr (U := fun i j => T i j + U i j) (fun i j hi _ => by unfold joinT; rw [if_pos (by omega)]))
      clear fr
      go_wp2_with fail
      obtain ⟨t0, t1⟩ := hr.out
      have hbv := hbw.out
      clear hr hbw
      generalize ((wr.setCell ⟨w.heap.size + 1 + 1, 0, none⟩ (.int .i64 (m : Nat))).setCell ⟨w.heap.size + 1 + 1, 1, none⟩ (.slice (some ⟨g, 0, none⟩) k cp)) = w7 at *
      exact bodyPost_ret (v := .tuple #[.agg #[.int .i64 (m : Nat), .slice (some ⟨g, 0, none⟩) k cp], .int .i64 0]) (by simp [results, Try.results12, go_sem, t0, t1]) rfl ⟨.inl ⟨g, cp, G, C, rfl, HT7.out.base hB0, hgB, hg2, hg3⟩, hbv⟩

theorem tput_any (wd : Int) (a : Option Addr) (n c : Nat) (xs : List (List Int)) (key x : Int) (w : World) (h : RowsAt w a n c xs) :
    Calls Try.prog 11 #[tabV wd a n c, .int .i64 key, .int .i64 x] w fun e w' => ∃ k v r, e = .returned (.tuple #[.agg #[.int .i64 k, v], .int .i64 r]) ∧ FrT w.heap.size w' v ∧ Below w.heap.size w w' := by
  by_cases hE : tchk wd n xs = 0
  · by_cases hx : x < 0 ∨ 1000000000000 < x
    · refine (tput_bad2 wd a n c xs key x w h hE hx).mono ?_
      rintro e w' ⟨rfl, hB⟩
      exact ⟨_, _, _, rfl, .inl rfl, hB⟩
    · obtain ⟨m, rfl, hok⟩ := tchk_zero wd n xs h.len hE
      obtain ⟨T, rfl⟩ : ∃ T, xs = tabL T m n := ⟨_, tabL_of m n xs h.len hok.row⟩
      refine (tput_c m a n c T key x w h hok (by omega) (by omega)).mono ?_
      rintro e w' ⟨⟨g, cp, G, C, rfl, hT, hg, h1, h2, _⟩ | ⟨rfl, _⟩, hB⟩
      · refine ⟨_, _, _, rfl, .inr ⟨g, n, cp, m, G, C, _, rfl, hg, h1, h2, hok.n1, hok.n2, hok.m1, hok.m2, hT, fun i j hi hj => ?_⟩, hB⟩
        have := hok.cell i j hi hj
        unfold tput
        split <;> omega
      · exact ⟨_, _, _, rfl, .inl rfl, hB⟩
  · refine (tput_bad1 wd a n c xs key x w h hE).mono ?_
    rintro e w' ⟨rfl, hB⟩
    exact ⟨_, _, _, rfl, .inl rfl, hB⟩
theorem res_atT {W W' : World} {P : Nat} (h0 : W.cell? ⟨P, 0, none⟩ = some (.int .i64 0)) (h1 : W.cell? ⟨P, 1, none⟩ = some (.slice none 0 0)) (z : ∀ o, W.frozen? ⟨P, o, none⟩ = false) (hB : Below W.heap.size W W') :
    W'.cell? ⟨P, 0, none⟩ = some (.int .i64 0) ∧ W'.cell? ⟨P, 1, none⟩ = some (.slice none 0 0) ∧ ∀ o, W'.frozen? ⟨P, o, none⟩ = false :=
  ⟨ck hB h0, ck hB h1, fun o => (hB.frozen (p := ⟨P, o, none⟩) (ltc h0)).trans (z o)⟩
def tjE (K K2 : Int) (xs ys : List (List Int)) (n m : Nat) : Int := if tchk K n xs = 0 then (if tchk K2 m ys = 0 then (if K = K2 ∧ n = m then 0 else 7) else tchk K2 m ys) else tchk K n xs
set_option maxHeartbeats 4000000 in
theorem tjoin_bad (K K2 : Int) (a a2 : Option Addr) (n c m c2 : Nat) (xs ys : List (List Int)) (w : World) (h : RowsAt w a n c xs) (h2 : RowsAt w a2 m c2 ys) (hE : tjE K K2 xs ys n m ≠ 0) :
    Calls Try.prog 12 #[tabV K a n c, tabV K2 a2 m c2] w fun e w' => e = .returned (.tuple #[tabV 0 none 0 0, .int .i64 (tjE K K2 xs ys n m)]) ∧ Below w.heap.size w w' := by
  have C1 := hidp (fun W (hB : Below w.heap.size w W) => tcheck_c K a n c xs W (h.below hB))
  have C2 := hidp (fun W (hB : Below w.heap.size w W) => tcheck_c K2 a2 m c2 ys W (h2.below hB))
  clear h h2
  by_cases e1 : tchk K n xs = 0
  · rw [e1] at C1
    by_cases e2 : tchk K2 m ys = 0
    · rw [e2] at C2
      by_cases e3 : K = K2
      · have e4 : ¬ n = m := fun e => hE (by unfold tjE; rw [if_pos e1, if_pos e2, if_pos ⟨e3, e⟩])
        have RV := hidp (show tjE K K2 xs ys n m = 7 by unfold tjE; rw [if_pos e1, if_pos e2, if_neg (fun e => e4 e.2)])
        subst e3
        have hkk : (K != K) = false := by simp
        have hne : ((n : Int) != (m : Int)) = true := by rw [bne_iff_ne]; omega
        clear hE e1 e2 e4
        unfold tabV at *
        go_enter Try.func12, Try.ntmps12
        go_wp2_with fail
        refine (C1.out _ (bal (bal (bal (Below.refl _ _) _) _) _)).mono ?_
        rintro e wa ⟨rfl, hB⟩
        have hb2 : Below w.heap.size w wa := bstep (bal (bal (bal (Below.refl _ _) _) _) _) hB
        obtain ⟨x0, x1, z⟩ := res_atT (P := w.heap.size + 1 + 1) (by go_simp) (by go_simp) (fun o => by go_simp) hB
        have k3 : wa.cell? ⟨w.heap.size, 1, none⟩ = some (.slice a n c) := ck hB (by go_simp)
        have k0 : wa.cell? ⟨w.heap.size, 0, none⟩ = some (.int .i64 K) := ck hB (by go_simp)
        have k1 : wa.cell? ⟨w.heap.size + 1, 0, none⟩ = some (.int .i64 K) := ck hB (by go_simp)
        have k2 : wa.cell? ⟨w.heap.size + 1, 1, none⟩ = some (.slice a2 m c2) := ck hB (by go_simp)
        clear C1 hB
        go_wp2_with fail
        refine (C2.out _ hb2).mono ?_
        rintro e wb ⟨rfl, hB⟩
        have hb3 : Below w.heap.size w wb := bstep hb2 hB
        obtain ⟨x0, x1, z⟩ := res_atT (P := w.heap.size + 1 + 1) x0 x1 z hB
        have k0 := ck hB k0
        have k1 := ck hB k1
        have k2 := ck hB k2
        have k3 := ck hB k3
        have z0 := z 0
        have z1 := z 1
        clear C2 hB z hb2
        go_wp2_with fail
        obtain ⟨t0, t1⟩ := res2 (.int .i64 0) (.slice none 0 0) x0 x1
        exact bodyPost_ret (v := .tuple #[.agg #[.int .i64 0, .slice none 0 0], .int .i64 7]) (by simp [results, Try.results12, go_sem, t0, t1]) rfl ⟨by rw [RV.out] <;> rfl, below_set2 hb3 _ (by omega) _ _⟩
      · have RV := hidp (show tjE K K2 xs ys n m = 7 by unfold tjE; rw [if_pos e1, if_pos e2, if_neg (fun e => e3 e.1)])
        have hne : (K != K2) = true := by rw [bne_iff_ne]; exact e3
        clear hE e1 e2 e3
        unfold tabV at *
        go_enter Try.func12, Try.ntmps12
        go_wp2_with fail
        refine (C1.out _ (bal (bal (bal (Below.refl _ _) _) _) _)).mono ?_
        rintro e wa ⟨rfl, hB⟩
        have hb2 : Below w.heap.size w wa := bstep (bal (bal (bal (Below.refl _ _) _) _) _) hB
        obtain ⟨x0, x1, z⟩ := res_atT (P := w.heap.size + 1 + 1) (by go_simp) (by go_simp) (fun o => by go_simp) hB
        have k0 : wa.cell? ⟨w.heap.size, 0, none⟩ = some (.int .i64 K) := ck hB (by go_simp)
        have k1 : wa.cell? ⟨w.heap.size + 1, 0, none⟩ = some (.int .i64 K2) := ck hB (by go_simp)
        have k2 : wa.cell? ⟨w.heap.size + 1, 1, none⟩ = some (.slice a2 m c2) := ck hB (by go_simp)
        clear C1 hB
        go_wp2_with fail
        refine (C2.out _ hb2).mono ?_
        rintro e wb ⟨rfl, hB⟩
        have hb3 : Below w.heap.size w wb := bstep hb2 hB
        obtain ⟨x0, x1, z⟩ := res_atT (P := w.heap.size + 1 + 1) x0 x1 z hB
        have k0 := ck hB k0
        have k1 := ck hB k1
        have z0 := z 0
        have z1 := z 1
        clear C2 hB z hb2
        go_wp2_with fail
        obtain ⟨t0, t1⟩ := res2 (.int .i64 0) (.slice none 0 0) x0 x1
        exact bodyPost_ret (v := .tuple #[.agg #[.int .i64 0, .slice none 0 0], .int .i64 7]) (by simp [results, Try.results12, go_sem, t0, t1]) rfl ⟨by rw [RV.out] <;> rfl, below_set2 hb3 _ (by omega) _ _⟩
    · have RV := hidp (show tjE K K2 xs ys n m = tchk K2 m ys by unfold tjE; rw [if_pos e1, if_neg e2])
      have hne : (tchk K2 m ys != 0) = true := by rw [bne_iff_ne]; exact e2
      clear hE e1 e2
      generalize tchk K2 m ys = E at *
      unfold tabV at *
      go_enter Try.func12, Try.ntmps12
      go_wp2_with fail
      refine (C1.out _ (bal (bal (bal (Below.refl _ _) _) _) _)).mono ?_
      rintro e wa ⟨rfl, hB⟩
      have hb2 : Below w.heap.size w wa := bstep (bal (bal (bal (Below.refl _ _) _) _) _) hB
      obtain ⟨x0, x1, z⟩ := res_atT (P := w.heap.size + 1 + 1) (by go_simp) (by go_simp) (fun o => by go_simp) hB
      have k1 : wa.cell? ⟨w.heap.size + 1, 0, none⟩ = some (.int .i64 K2) := ck hB (by go_simp)
      have k2 : wa.cell? ⟨w.heap.size + 1, 1, none⟩ = some (.slice a2 m c2) := ck hB (by go_simp)
      clear C1 hB
      go_wp2_with fail
      refine (C2.out _ hb2).mono ?_
      rintro e wb ⟨rfl, hB⟩
      have hb3 : Below w.heap.size w wb := bstep hb2 hB
      obtain ⟨x0, x1, z⟩ := res_atT (P := w.heap.size + 1 + 1) x0 x1 z hB
      have z0 := z 0
      have z1 := z 1
      clear C2 hB z hb2
      go_wp2_with fail
      obtain ⟨t0, t1⟩ := res2 (.int .i64 0) (.slice none 0 0) x0 x1
      exact bodyPost_ret (v := .tuple #[.agg #[.int .i64 0, .slice none 0 0], .int .i64 E]) (by simp [results, Try.results12, go_sem, t0, t1]) rfl ⟨by rw [RV.out] <;> rfl, below_set2 hb3 _ (by omega) _ _⟩
  · have RV := hidp (show tjE K K2 xs ys n m = tchk K n xs by unfold tjE; rw [if_neg e1])
    have hne : (tchk K n xs != 0) = true := by rw [bne_iff_ne]; exact e1
    clear hE e1 C2
    generalize tchk K n xs = E at *
    unfold tabV at *
    go_enter Try.func12, Try.ntmps12
    go_wp2_with fail
    refine (C1.out _ (bal (bal (bal (Below.refl _ _) _) _) _)).mono ?_
    rintro e wa ⟨rfl, hB⟩
    have hb2 : Below w.heap.size w wa := bstep (bal (bal (bal (Below.refl _ _) _) _) _) hB
    obtain ⟨x0, x1, z⟩ := res_atT (P := w.heap.size + 1 + 1) (by go_simp) (by go_simp) (fun o => by go_simp) hB
    have z0 := z 0
    have z1 := z 1
    clear C1 hB z
    go_wp2_with fail
    obtain ⟨t0, t1⟩ := res2 (.int .i64 0) (.slice none 0 0) x0 x1
    exact bodyPost_ret (v := .tuple #[.agg #[.int .i64 0, .slice none 0 0], .int .i64 E]) (by simp [results, Try.results12, go_sem, t0, t1]) rfl ⟨by rw [RV.out] <;> rfl, below_set2 hb2 _ (by omega) _ _⟩
theorem tjoin_any (K K2 : Int) (a a2 : Option Addr) (n c m c2 : Nat) (xs ys : List (List Int)) (w : World) (h : RowsAt w a n c xs) (h2 : RowsAt w a2 m c2 ys) :
    Calls Try.prog 12 #[tabV K a n c, tabV K2 a2 m c2] w fun e w' => ∃ k v r, e = .returned (.tuple #[.agg #[.int .i64 k, v], .int .i64 r]) ∧ FrT w.heap.size w' v ∧ Below w.heap.size w w' := by
  by_cases hE : tjE K K2 xs ys n m = 0
  · have e1 : tchk K n xs = 0 := by
      by_cases e : tchk K n xs = 0
      · exact e
      · unfold tjE at hE; rw [if_neg e] at hE; exact absurd hE e
    have e2 : tchk K2 m ys = 0 := by
      by_cases e : tchk K2 m ys = 0
      · exact e
      · unfold tjE at hE; rw [if_pos e1, if_neg e] at hE; exact absurd hE e
    have e3 : K = K2 ∧ n = m := by
      by_cases e : K = K2 ∧ n = m
      · exact e
      · unfold tjE at hE; rw [if_pos e1, if_pos e2, if_neg e] at hE; omega
    obtain ⟨rfl, rfl⟩ := e3
    obtain ⟨q, rfl, hok⟩ := tchk_zero K n xs h.len e1
    obtain ⟨q2, hq, hok2⟩ := tchk_zero q n ys h2.len e2
    obtain rfl : q = q2 := by omega
    obtain ⟨T, rfl⟩ : ∃ T, xs = tabL T q n := ⟨_, tabL_of q n xs h.len hok.row⟩
    obtain ⟨U, rfl⟩ : ∃ U, ys = tabL U q n := ⟨_, tabL_of q n ys h2.len hok2.row⟩
    refine (tjoin_two q a a2 n c c2 T U w h hok h2 hok2).mono ?_
    rintro e w' ⟨⟨g, cp, G, C, rfl, hT, hg, h1, h2'⟩ | rfl, hB⟩
    · exact ⟨_, _, _, rfl, .inr ⟨g, n, cp, q, G, C, _, rfl, hg, h1, h2', hok.n1, hok.n2, hok.m1, hok.m2, hT, fun i j hi hj => by have := hok.cell i j hi hj; have := hok2.cell i j hi hj; omega⟩, hB⟩
    · exact ⟨_, _, _, rfl, .inl rfl, hB⟩
  · refine (tjoin_bad K K2 a a2 n c m c2 xs ys w h h2 hE).mono ?_
    rintro e w' ⟨rfl, hB⟩
    exact ⟨_, _, _, rfl, .inl rfl, hB⟩
end Go.Proofs.Ytffocoflmbhknaa
