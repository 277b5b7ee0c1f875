/- The walk of PondKeeps: the law returns true at all inputs, and no old memory changes. -/
import Derived.Test.YtboacbimmggleaaPondMath
import Derived.Test.YtboacbimmggleaaEqI
import Derived.Test.YtboacbimmggleaaMapB
import Derived.Deep.LoopGhost
namespace Go.Proofs.Ytboacbimmggleaa.pondKeeps
open Go.ChangeShapes Go.WideShapes Go.ChangeAt Go.RowKit Go.Maps
open Go.Proofs.Ytboacbimmggleaa

theorem zeroB (w : World) : (zeroValue 4).run Try.prog w = .ok (.bool false) w := by kernel_rfl
theorem key_i64 (n : Int) (h0 : 0 ≤ n) (h1 : n ≤ 9223372036854775807) : keyOf Try.prog 3 (.int .i64 n) = some (.int .i64 n) := keyOf_int_mk Try.underlying3 (WalkArith.wf_i64 (by omega))
set_option linter.unusedVariables false
set_option maxRecDepth 100000 in
set_option maxHeartbeats 4000000 in
theorem walk (a0 : Int) (a1 : Int) (a2 : Option Addr) (len2 cap2 : Nat) (z2 : List Int) (w : World)
    (w0 : (Lit.int .i64 a0).wf = true) (w1 : (Lit.int .i64 a1).wf = true) (w2 : IntsAt w a2 len2 cap2 z2) :
    Calls Try.prog 10 #[.int .i64 a0, .int .i64 a1, .slice a2 len2 cap2] w fun e w' => e = .returned (.bool true) ∧ Below w.heap.size w w' := by
  obtain ⟨b2, o2, hy, hx2⟩ := w2.split
  have hy' : Hid (len2 = 0) ∨ a2 = some ⟨b2, o2, none⟩ := hy.imp_left hidp
  have HX2 := hidp hx2
  have L2 := hidp w2.len
  have mm := w2.max
  have ee := w2.le
  obtain ⟨m, hm⟩ : ∃ m, m = wn a0 16 := ⟨_, rfl⟩
  have hm1 := wn_lt a0 16 (by omega)
  rw [← hm] at hm1
  have cm := withinN_c a0 16 (by omega) (by omega)
  rw [← hm] at cm
  have CM := hidp cm
  obtain ⟨K, hK⟩ : ∃ K : Nat, K = m + 1 := ⟨_, rfl⟩
  have hK' : (1 : Int) + (m : Int) = (K : Int) := by omega
  obtain ⟨n, hn⟩ : ∃ n, n = wn a1 60 := ⟨_, rfl⟩
  have hn1 := wn_lt a1 60 (by omega)
  rw [← hn] at hn1
  have cn := withinN_c a1 60 (by omega) (by omega)
  rw [← hn] at cn
  have CN := hidp cn
  have hKm : m + 1 = K := hK.symm
  have hmm := @run_makeMap Try.prog
  clear cm hm w0 w1 w2 hK hx2 hy hn cn
  go_enter Try.func10, Try.ntmps10
  go_wp2_with fail
  refine (pput_c 1 1 6 0 _ 1 1 [5] _ ?s0 (by omega) (by omega) (by omega) (by omega) (by decide) (by omega) (by omega)).mono ?_
  case s0 => exact ints_lit [5] (by simp) (by rfl) (by rfl) (by simp) (by omega)
  rintro e wa ⟨v, rfl, hv, hba⟩
  rw [show pput 1 1 [5] 6 0 = [6] from by decide +kernel] at hv
  obtain ⟨av, cv, hve, hav⟩ := owns_ints hv (by simp)
  subst hve
  clear hv
  go_wp2_with fail
  refine (equali_c _ _ 1 1 _ _ [6] [6] _ ((hav.alloc _).alloc _) ?s3).mono ?_
  case s3 => exact ints_lit [6] (by simp) (by rfl) (by rfl) (by simp) (by omega)
  rintro e wb ⟨rfl, hbb⟩
  rw [decide_eq_true rfl]
  have hwb : Below w.heap.size w wb := bstep (bal (bal (bstep (bal (Below.refl _ _) _) hba) _) _) hbb
  clear hba hbb hav
  go_wp2_with fail
  refine (CM.out _).mono ?_; rintro e w' ⟨rfl, rfl⟩
  go_wp2_with fail
  refine (CN.out _).mono ?_; rintro e w' ⟨rfl, rfl⟩
  go_wp2_with fail
  go_loopg [41] n (fun gg i wr => ∃ (k : Nat) (a : Option Addr) (l c : Nat), k ≤ n ∧ n - k ≤ gg ∧ i = .int .i64 k ∧ wr.cell? ⟨wb.heap.size, 0, none⟩ = some (.int .i64 K) ∧ wr.cell? ⟨wb.heap.size, 1, none⟩ = some (.int .i64 k) ∧
    wr.cell? ⟨wb.heap.size, 2, none⟩ = some (.slice a l c) ∧ wr.frozen? ⟨wb.heap.size, 0, none⟩ = false ∧ wr.frozen? ⟨wb.heap.size, 1, none⟩ = false ∧ wr.frozen? ⟨wb.heap.size, 2, none⟩ = false ∧ IntsAt wr a l c (its K z2 k) ∧ Aside (∀ b o, a = some ⟨b, o, none⟩ → b ≠ wb.heap.size) ∧ Below wb.heap.size wb wr)
  case atStart => exact ⟨0, none, 0, 0, by omega, by omega, rfl, by simp, by simp, by simp, by simp, by simp, by simp, ints_nil _, fun b o h => (by cases h), bal (Below.refl _ _) _⟩
  case round =>
    obtain ⟨k, a, l, c, hk, hgg, rfl, r0, r1, r2, f0, f1, f2, hI, hap, hbl⟩ := hrel
    have hgl : wb.heap.size < wr.heap.size := lt_of_cell r0
    by_cases hlt : k < n
    · have hIl := hI.len
      have hkp := (its_kept K z2 k).len
      have hl : l = min K k := by omega
      have HL := hidp hl
      have HIL := hidp hIl
      have hdb := dsf_bd z2 k
      have WI := hidp (fun (h : k < len2) => show dsf z2 k = wi (gi z2 k) ((k : Int) + 1) by unfold dsf; rw [if_pos (by rw [L2.out]; omega)])
      have W0 := hidp (fun (h : ¬ k < len2) => show dsf z2 k = 0 by unfold dsf; rw [if_neg (by rw [L2.out]; omega)])
      clear hl hIl hkp
      go_upto_if 47 with fail
      go_cut [11] (fun s wx => s = .int .i64 (dsf z2 k) ∧ wr = wx)
      case first =>
        by_cases hk2 : k < len2
        · obtain rfl : a2 = some ⟨b2, o2, none⟩ := hy'.resolve_left (fun e => by have := e.out; omega)
          have q0 := carry_cell (HX2.out k hk2) (bstep hwb hbl)
          go_wp2_with (go_at_call 17; refine (within_c _ _ (by omega) (by omega) _).mono ?_; rintro e w' ⟨rfl, rfl⟩)
          go_meet
          exact ⟨v_int (WI.out hk2).symm, rfl⟩
        · go_wp2_with fail
          go_meet
          exact ⟨v_int (W0.out hk2).symm, rfl⟩
      case rest =>
        obtain ⟨rfl, rfl⟩ := hcut
        have C := hidp (fun h => pput_c K k k (dsf z2 k) a l c (its K z2 k) wr h (by omega) (by omega) (by omega) (by omega) (by have := HL.out; omega) hdb.1 hdb.2)
        rw [show pput K k (its K z2 k) k (dsf z2 k) = its K z2 (k + 1) from rfl] at C
        have kp := its_kept K z2 (k + 1)
        obtain ⟨L, hL⟩ : ∃ L, L = (its K z2 (k + 1)).length := ⟨_, rfl⟩
        rw [← hL] at C
        have HLL := hidp hL
        have hLm : L = min K (k + 1) := by rw [hL]; exact kp.len
        have hmin : min (K : Int) ((k : Int) + 1) = (L : Int) := by omega
        have hLne : ((L : Int) != (L : Int)) = false := by simp
        have BD := hidp (fun j (hj : j < L) => kp.bd j (by omega))
        have BD0 := hidp (fun j (hj : j < l) => (its_kept K z2 k).bd j (by have := HIL.out; omega))
        have TOLD := hidp (fun j (hj : j < L) => told_all K z2 k j (by omega))
        rw [HIL.out] at TOLD
        have HMIN := hidp hmin
        clear hdb hL hLm kp WI W0
        go_wp2_with fail
        refine (C.out hI).mono ?_
        rintro e wd ⟨v, rfl, hv, hbd⟩
        obtain ⟨ax, cx, hve, hax⟩ := owns_ints hv (fun x hx => by
          obtain ⟨i, hi, hx⟩ := List.getElem_of_mem hx
          have h1 : i < L := by rw [HLL.out]; exact hi
          have := BD.out i h1
          have e1 : gi (its K z2 (k + 1)) i = x := by unfold gi; rw [List.getD_eq_getElem?_getD, List.getElem?_eq_getElem hi, hx]; rfl
          omega)
        subst hve
        have hapx := hidp (owns_far hv)
        clear hv C
        go_wp2_with fail
        refine (pcheck_c K (k + 1) ax L cx _ (by omega) (by omega) (by omega) (by omega) hmin).mono ?_
        rintro e wf ⟨rfl, hbf⟩
        have hdf : Below wr.heap.size wr wf := bstep (bal hbd _) hbf
        have s0 := ck hdf r0
        have s1 := ck hdf r1
        have s2 := ck hdf r2
        have g0 := (hdf.frozen (p := ⟨wb.heap.size, 0, none⟩) (by show wb.heap.size < _; omega)).trans f0
        have g1 := (hdf.frozen (p := ⟨wb.heap.size, 1, none⟩) (by show wb.heap.size < _; omega)).trans f1
        have g2 := (hdf.frozen (p := ⟨wb.heap.size, 2, none⟩) (by show wb.heap.size < _; omega)).trans f2
        have x0 : wf.cell? ⟨wd.heap.size, 0, none⟩ = some (.int .i64 K) := ck hbf (by simp)
        have x1 : wf.cell? ⟨wd.heap.size, 1, none⟩ = some (.int .i64 ((k : Int) + 1)) := ck hbf (by simp)
        have x2 : wf.cell? ⟨wd.heap.size, 2, none⟩ = some (.slice ax L cx) := ck hbf (by simp)
        have hIf := hI.below hdf
        have haxf := hax.below ((bal (Below.refl wd.heap.size wd) _).trans (hbf.mono (by simp)))
        have hsb : wb.heap.size < wf.heap.size := lt_of_cell s0
        have hsd : wd.heap.size < wf.heap.size := lt_of_cell x0
        have hsr := hdf.size
        have hwd := hbd.size
        clear r0 r1 r2 f0 f1 f2 hI hax hbd hbf
        go_wp2_with (refine wpList_insert_bool rfl (.tmp 87) (.tmp 88) (.const (.bool true)) 56 rfl 3 4 (int_keyed Try.underlying3) Try.underlying56 Try.underlying4 wf.heap.size 0 (fun _ => false) .i64 rfl (MapIs.made _ _ _ _ _) (by omega) (k : Int) true rfl rfl (key_i64 _ (by omega) (by omega)) ?_; intro w1 hm1 hg1; have hb1 : Below wf.heap.size wf w1 := (bal (Below.refl _ _) _).grown hg1 (by simp) (fun k hk => by cases hk; exact Nat.le_refl _); have t0 := ck hb1 s2; have hz1 := hb1.size)
        have HA := hidp hIf.split
        have hl16 : l ≤ 16 := by have := HL.out; omega
        go_loopg [93] l (fun gg i wx => ∃ j : Nat, j ≤ l ∧ l - j ≤ gg ∧ i = .int .i64 j ∧ MapIs wx Try.prog 3 4 .i64 wf.heap.size (j + 1) (wasF k (its K z2 k) j) ∧ Below wf.heap.size wf wx)
        case atStart => exact ⟨0, by omega, by omega, rfl, hm1, hb1⟩
        case round =>
          obtain ⟨j, hj, hgj, rfl, hmp, hbx⟩ := hrel
          by_cases hlj : j < l
          · obtain ⟨bi, oi, hai, hci⟩ := HA.out
            obtain rfl : a = some ⟨bi, oi, none⟩ := hai.resolve_left (by omega)
            have q0 := carry_cell (hci j hlj) hbx
            have hbj := BD0.out j hlj
            obtain ⟨hb0, hb1'⟩ := hbj
            have E := hidp (show wasF k (its K z2 k) (j + 1) = fun z => if z = gi (its K z2 k) j then true else wasF k (its K z2 k) j z from rfl)
            clear hci hai
            go_wp2_with (at_mapUpdate; refine wpList_mapUpdate_bool rfl (.tmp 97) (.tmp 98) _ 56 rfl 3 4 (int_keyed Try.underlying3) Try.underlying56 Try.underlying4 wf.heap.size (j + 1) (wasF k (its K z2 k) j) .i64 rfl hmp (by omega) _ true rfl rfl (key_i64 _ (by omega) (by omega)) ?_; intro w2 hm2 hg2)
            go_roundg (l - (j + 1))
            case measure => omega
            case rel => exact ⟨j + 1, by omega, by omega, by go_num, by rw [E.out]; exact hm2, hbx.grown hg2 hbx.size (fun k hk => by cases hk; exact Nat.le_refl _)⟩
          · obtain rfl : j = l := by omega
            have y2 := ck hbx x2
            have HB := hidp haxf.split
            go_wp2_with fail
            go_loopg [103] L (fun gg i wy => ∃ t : Nat, t ≤ L ∧ L - t ≤ gg ∧ i = .int .i64 t ∧ MapIs wy Try.prog 3 4 .i64 wf.heap.size (j + 1) (delF (wasF k (its K z2 k) j) (its K z2 (k + 1)) t) ∧ Below wf.heap.size wf wy)
            case atStart => exact ⟨0, by omega, by omega, rfl, hmp, hbx⟩
            case round =>
              obtain ⟨t, ht, hgt, rfl, hmq, hbq⟩ := hrel
              by_cases hlq : t < L
              · obtain ⟨bi, oi, hai, hci⟩ := HB.out
                obtain rfl : ax = some ⟨bi, oi, none⟩ := hai.resolve_left (by omega)
                have q0 := carry_cell (hci t hlq) hbq
                obtain ⟨hb0, hb1'⟩ := BD.out t hlq
                have hM := hmq.run (t := 56) (int_keyed Try.underlying3) Try.underlying56 Try.underlying4 (zeroB _) (gi (its K z2 (k + 1)) t) (key_i64 _ (by omega) (by omega))
                rw [TOLD.out t hlq] at hM
                have E := hidp (show delF (wasF k (its K z2 k) j) (its K z2 (k + 1)) (t + 1) = fun z => if z = gi (its K z2 (k + 1)) t then false else delF (wasF k (its K z2 k) j) (its K z2 (k + 1)) t z from rfl)
                clear hci hai
                go_wp2_with (at_delete; refine wpList_delete_bool rfl (.tmp 111) (.tmp 112) 56 3 rfl 4 (int_keyed Try.underlying3) Try.underlying56 wf.heap.size (j + 1) (delF (wasF k (its K z2 k) j) (its K z2 (k + 1)) t) .i64 rfl hmq (gi (its K z2 (k + 1)) t) rfl (key_i64 _ (by omega) (by omega)) ?_; intro w2 hm2 hg2)
                go_roundg (L - (t + 1))
                case measure => omega
                case rel => exact ⟨t + 1, by omega, by omega, by go_num, by rw [E.out]; exact hm2, hbq.grown hg2 hbq.size (fun k hk => by cases hk; exact Nat.le_refl _)⟩
              · obtain rfl : t = L := by omega
                have n0 := ck hbq s0
                have n1 := ck hbq s1
                have n2 := ck hbq s2
                have e0 := (hbq.frozen (p := ⟨wb.heap.size, 0, none⟩) hsb).trans g0
                have e1 := (hbq.frozen (p := ⟨wb.heap.size, 1, none⟩) hsb).trans g1
                have e2 := (hbq.frozen (p := ⟨wb.heap.size, 2, none⟩) hsb).trans g2
                have m0 := ck hbq x0
                have m1 := ck hbq x1
                have m2 := ck hbq x2
                have hfar : ∀ b o, ax = some ⟨b, o, none⟩ → b ≠ wb.heap.size := fun b o e => by have := hapx.out b o e; omega
                have hII := (((haxf.below hbq).setCell ⟨wb.heap.size, 0, none⟩ hfar (.int .i64 K)).setCell ⟨wb.heap.size, 1, none⟩ hfar (.int .i64 ((k : Int) + 1))).setCell ⟨wb.heap.size, 2, none⟩ hfar (.slice ax t cx)
                have HFAR := hidp hfar
                have hbz := (((bstep hbl hdf).trans (hbq.mono (by omega))).setCell (p := ⟨wb.heap.size, 0, none⟩) (Nat.le_refl _) (.int .i64 K)).setCell (p := ⟨wb.heap.size, 1, none⟩) (Nat.le_refl _) (.int .i64 ((k : Int) + 1))
                have hbz := hbz.setCell (p := ⟨wb.heap.size, 2, none⟩) (Nat.le_refl _) (.slice ax t cx)
                clear hfar s0 s1 s2 g0 g1 g2 x0 x1 x2
                go_wp2_with fail
                go_roundg (n - (k + 1))
                case measure => omega
                case rel => exact ⟨k + 1, ax, t, cx, by omega, by omega, by go_num, by go_simp, by go_simp, by go_simp, by go_simp, by go_simp, by go_simp, hII, HFAR.out, hbz⟩
    · obtain rfl : k = n := by omega
      go_wp2_with fail
      go_ret
      exact ⟨rfl, bstep hwb hbl⟩
end Go.Proofs.Ytboacbimmggleaa.pondKeeps
