/- The walk of cultop.TopPond. -/
import Derived.Test.YtpdigiefldnpaaaTopPondMath
import Derived.Test.YtpdigiefldnpaaaSortedV
import Derived.Test.YtpdigiefldnpaaaBegun
import Derived.Test.YtpdigiefldnpaaaPond
import Derived.Test.YtpdigiefldnpaaaComb
import Derived.Lib.MinMax
namespace Go.Proofs.Ytpdigiefldnpaaa.topPond
open Go.ChangeShapes Go.WideShapes Go.ChangeAt Go.RowKit Go.Maps
open Go.Proofs.Ytpdigiefldnpaaa
open Go.Proofs.Ytpdigiefldnpaaa.CombMath (wl)
set_option maxRecDepth 20000
theorem key64 (n : Int) (h0 : 0 ≤ n) (h1 : n ≤ 9223372036854775807) : keyOf Try.prog 3 (.int .i64 n) = some (.int .i64 n) := keyOf_int_mk Try.underlying3 (WalkArith.wf_i64 (by omega))
theorem zeroInt (w : World) : (zeroValue 3).run Try.prog w = .ok (.int .i64 0) w := by kernel_rfl
theorem coff3 {W : World} {b b' i : Nat} {v x0 x1 x2 : Value} (h : W.cell? ⟨b, i, none⟩ = some v) (hne : b ≠ b') : (((W.setCell ⟨b', 0, none⟩ x0).setCell ⟨b', 1, none⟩ x1).setCell ⟨b', 2, none⟩ x2).cell? ⟨b, i, none⟩ = some v := by
  rw [World.cell?_setCell_far _ _ _ _ (fun e => hne e.symm), World.cell?_setCell_far _ _ _ _ (fun e => hne e.symm), World.cell?_setCell_far _ _ _ _ (fun e => hne e.symm)]; exact h
theorem ints_grown {W W' : World} {a : Option Addr} {n c r : Nat} {xs : List Int} (h : IntsAt W a n c xs) (hg : W.grownBy W' (some r)) (hne : xs ≠ [] → ∀ b o, a = some ⟨b, o, none⟩ → b ≠ r) : IntsAt W' a n c xs := by
  refine ⟨h.len, h.le, h.max, fun hx => ?_, h.bd⟩
  obtain ⟨b, off, ha, hb, hc⟩ := h.cells hx
  refine ⟨b, off, ha, Nat.lt_of_lt_of_le hb hg.size, fun i v hi => gk hg (hc i v hi) ?_⟩
  intro e
  simp only [Option.some.injEq] at e
  exact hne (fun e2 => hx (by rw [e2]; rfl)) b off ha e.symm
theorem ints_set3 {w : World} {a : Option Addr} {n c : Nat} {xs : List Int} (h : IntsAt w a n c xs) (Q : Nat) (hne : ∀ b o, a = some ⟨b, o, none⟩ → b ≠ Q) (x0 x1 x2 : Value) : IntsAt (((w.setCell ⟨Q, 0, none⟩ x0).setCell ⟨Q, 1, none⟩ x1).setCell ⟨Q, 2, none⟩ x2) a n c xs :=
  ((h.setCell ⟨Q, 0, none⟩ hne x0).setCell ⟨Q, 1, none⟩ hne x1).setCell ⟨Q, 2, none⟩ hne x2
/-- A pond in its cell. -/
structure PS (W : World) (Q : Nat) (K S : Int) (v : Value) : Prop where
  q0 : W.cell? ⟨Q, 0, none⟩ = some (.int .i64 K)
  q1 : W.cell? ⟨Q, 1, none⟩ = some (.int .i64 S)
  q2 : W.cell? ⟨Q, 2, none⟩ = some v
  fq : ∀ o, W.frozen? ⟨Q, o, none⟩ = false
theorem PS.below {W W' : World} {Q : Nat} {K S : Int} {v : Value} (h : PS W Q K S v) (hb : Below W.heap.size W W') : PS W' Q K S v :=
  ⟨ck hb h.q0, ck hb h.q1, ck hb h.q2, fun o => (hb.frozen (p := ⟨Q, o, none⟩) (show Q < _ from lt_of_cell h.q0)).trans (h.fq o)⟩
theorem PS.put {W : World} {Q : Nat} {K S : Int} {v : Value} (h : PS W Q K S v) (k2 s2 : Int) (v2 : Value) : PS (((W.setCell ⟨Q, 0, none⟩ (.int .i64 k2)).setCell ⟨Q, 1, none⟩ (.int .i64 s2)).setCell ⟨Q, 2, none⟩ v2) Q k2 s2 v2 := by
  obtain ⟨h0, h1, h2, hf⟩ := h
  exact ⟨by go_simp, by go_simp, by go_simp, fun o => by have := hf o; go_simp⟩
theorem owns_empty (w : World) (B : Nat) (hB : B ≤ w.heap.size) (T : TypeId) : (w.alloc (.cells #[] T)).ownsRow B T 1 (.slice (some ⟨w.heap.size, 0, none⟩) 0 0) 0 [] :=
  ⟨rfl, .inr ⟨w.heap.size, 0, #[], rfl, hB, heap_alloc_new w _, Nat.le_refl _, by omega, by simp, by simp⟩⟩
theorem run_takeI (a : Option Addr) (n c T : Nat) (hT : T ≤ c) (W : World) : (Instr.slice 22 (.slice a n c) none (some (.int .i64 (T : Int))) none).run Try.prog W = .ok (.slice a T c) W := by
  have hu : Try.prog.underlying 22 = some (.slice (Try.prog.elem 22)) := by kernel_rfl
  rw [run_slice_h (P := Try.prog) (w := W) 22 a n c hu .i64 (T : Int) (by omega) (by omega), show Try.prog.elem 22 = 3 from by kernel_rfl, Try.sizeOf3]
  simp [Result.andThen, sliced]
  intro h
  cases a with
  | none => rfl
  | some x => simp [Addr.add]
theorem wz30 : ∀ k, k < 3 → CombMath.wz 30 k ≤ 1000 := by decide +kernel
theorem fct4 : ∀ n, n < 5 → fct n ≤ 24 ∧ 1 ≤ fct n := by decide +kernel
set_option maxHeartbeats 16000000 in
theorem walk (a0 a1 : Int) (w : World) (w0 : (Lit.int .i64 a0).wf = true) (w1 : (Lit.int .i64 a1).wf = true) :
    Calls Try.prog 8 #[.int .i64 a0, .int .i64 a1] w fun e w' => e = .returned (.bool true) ∧ Below w.heap.size w w' := by
  obtain ⟨k, hk⟩ : ∃ k : Nat, 1 + ((wn a0 2 : Nat) : Int) = (k : Int) := ⟨1 + wn a0 2, by push_cast; rfl⟩
  have k0 := wn_lt a0 2 (by omega)
  have k1 : 1 ≤ k := by omega
  have k2 : k ≤ 2 := by omega
  have n0 := wn_lt a1 (5 - (k : Int)) (by omega)
  obtain ⟨m, hm⟩ : ∃ m, m = wn a1 (5 - (k : Int)) := ⟨_, rfl⟩
  have WK := hidp (fun W => withinN_c a0 2 (by omega) (by omega) W)
  have WM := hidp (fun W => withinN_c a1 (5 - (k : Int)) (by omega) (by omega) W)
  rw [← hm] at n0 WM
  obtain ⟨n, hn⟩ : ∃ n : Nat, (k : Int) + (m : Int) = (n : Int) := ⟨k + m, by push_cast; rfl⟩
  have hkn : k ≤ n := by omega
  have h4 : n ≤ 4 := by omega
  have w5 : IntKind.i64.wrap (5 - (k : Int)) = 5 - (k : Int) := IntWalk.i64_in _ (by omega)
  have wk : IntKind.i64.wrap (k : Int) = (k : Int) := IntWalk.i64_in _ (by omega)
  have wnn : IntKind.i64.wrap (n : Int) = (n : Int) := IntWalk.i64_in _ (by omega)
  have TB := hidp (tp_all k n k1 k2 hkn h4)
  have FC := hidp (fun W => rfact_c n (n : Int) rfl (by omega) W)
  have hfc := (fct4 n (by omega)).1
  have hf1 := (fct4 n (by omega)).2
  obtain ⟨T, hT⟩ : ∃ T, T = fct n := ⟨_, rfl⟩
  rw [← hT] at TB FC hfc hf1
  have HT := hidp hT
  have BG := hidp begun_c
  clear hm w0 w1 k0 hT
  go_enter Try.func8, Try.ntmps8
  go_wp2_with fail
  refine (BG.out _).mono ?_
  rintro e wa ⟨rfl, hba⟩
  clear BG
  go_wp2_with fail
  refine (WK.out _).mono ?_
  rintro e w' ⟨rfl, rfl⟩
  go_wp2_with fail
  refine (WM.out _).mono ?_
  rintro e w' ⟨rfl, rfl⟩
  have hmm := @run_makeMap Try.prog
  go_upto_region 6 with fail
  obtain ⟨r, hr⟩ : ∃ r, r = wa.heap.size := ⟨_, rfl⟩
  have M0 := hidp ((MapIN.made wa Try.prog 3 3 .i64).congr (show ([] : List Int) = keysOf (tsq k n 0) from rfl) (fun x => show (0 : Int) = cntOf (tsq k n 0) x from rfl))
  have hbw := bal hba (.map #[] 0)
  have hrw : w.heap.size ≤ r := by rw [hr]; exact hba.size
  generalize wa.alloc (.map #[] 0) = wb at *
  rw [← hr] at M0 ⊢
  clear hr hba hmm WK WM w5 wk wnn
  go_wp2_with fail
  refine (FC.out _).mono ?_
  rintro e w' ⟨rfl, rfl⟩
  go_wp2_with fail
  go_loopg [37] T (fun gg i wr => ∃ t : Nat, t ≤ T ∧ T - t ≤ gg ∧ i = .int .i64 t ∧ Hid (MapIN wr Try.prog 3 3 .i64 r (2 * t) (keysOf (tsq k n t)) (cntOf (tsq k n t))) ∧ Below w.heap.size w wr)
  case atStart => exact ⟨0, by omega, by omega, rfl, M0, hbw⟩
  case round =>
    clear M0 hbw
    obtain ⟨t, ht, hgg, rfl, MP, hbl⟩ := hrel
    by_cases hlt : t < T
    · obtain ⟨⟨x1l, x1ok⟩, ⟨x2l, x2ok⟩, dlb, pdb⟩ := TB.out.2.2 t hlt
      have X1L := hidp x1l
      have X1K := hidp x1ok
      have X2L := hidp x2l
      have X2K := hidp x2ok
      have DLB := hidp dlb
      have PDB := hidp pdb
      have hrl : r < wr.heap.size := by
        obtain ⟨D, h, _⟩ := MP.out
        exact h.lt
      clear x1l x1ok x2l x2ok dlb pdb
      obtain ⟨W0, rfl⟩ : ∃ W0, W0 = wr := ⟨_, rfl⟩
      go_wp2_with fail
      go_loopg [7, 8, 9] n (fun gg v jj ll wx => ∃ j : Nat, j ≤ n ∧ n - j ≤ gg ∧ jj = .int .i64 j ∧ ll = .int .i64 (lfN t j : Nat) ∧ wx.ownsRow W0.heap.size 3 1 v j ((tab (fun i => (dgN t i : Int)) j).map (Value.int .i64)) ∧ Below W0.heap.size W0 wx)
      case atStart => exact ⟨0, by omega, by omega, rfl, rfl, World.ownsRow_nil _ _ _ _, Below.refl _ _⟩
      case round =>
        obtain ⟨j, hj, hgj, rfl, rfl, hv, hbx⟩ := hrel
        by_cases hlj : j < n
        · have L1 := lfN_le t j
          have wj : IntKind.i64.wrap ((j : Int) + 1) = (j : Int) + 1 := IntWalk.i64_in _ (by omega)
          have nz : ¬ ((j : Int) + 1 = 0) := by omega
          have TS := hidp (tab_snoc (fun i => (dgN t i : Int)) j)
          have E1 : ((lfN t j : Nat) : Int) % ((j : Int) + 1) = ((dgN t j : Nat) : Int) := by
            unfold dgN; push_cast; rfl
          have E2 : ((lfN t j : Nat) : Int) / ((j : Int) + 1) = ((lfN t (j + 1) : Nat) : Int) := by
            show _ = ((lfN t j / (j + 1) : Nat) : Int)
            push_cast; rfl
          have E3 : wrap64 ((lfN t (j + 1) : Nat) : Int) = ((lfN t (j + 1) : Nat) : Int) := by
            have := lfN_le t (j + 1)
            rw [← IntWalk.i64_left]; exact IntWalk.i64_in _ (by omega)
          obtain ⟨l2, hl2⟩ : ∃ l2, l2 = lfN t (j + 1) := ⟨_, rfl⟩
          rw [← hl2] at E2 E3
          have HL2 := hidp hl2
          clear hl2

          generalize lfN t j = l1 at *
          generalize hdg : dgN t j = dg at *
          go_wp2_with (at_builtin; refine wpList_append_new rfl (.tmp 46) (.tmp 51) 22 rfl W0.heap.size 3 _ 1 8 info_int rfl (by decide) Try.underlying22 _ j _ rfl hv rfl (one_int _ _) rfl rfl (by omega) (by decide) hbx.size ?_; intro v0 x0 nv g0 d0; have bl0 := append_step hv hbx (Nat.le_refl _) g0; clear g0 d0 hv hbx)
          have NV := hidp nv
          clear nv
          go_roundg (n - (j + 1))
          case measure => omega
          case rel => exact ⟨j + 1, by omega, by omega, by go_num, by rw [E3, HL2.out], by rw [TS.out, List.map_append]; exact NV.out, bl0⟩
        · obtain rfl : n = j := by omega
          have hv2 : wr.ownsRow W0.heap.size 3 1 u7 n ((tdr n t).map (Value.int .i64)) := hv
          obtain ⟨ad, cd, rfl, hD⟩ := owns_ints hv2 (fun x hx => by
            obtain ⟨i, hi, rfl⟩ := tab_mem _ _ _ hx
            have := dgN_le t i; omega)
          have hDf := hidp (fun b o e => (owns_far hv2 b o e))
          have HD := hidp hD
          obtain ⟨W1, rfl⟩ : ∃ W1, W1 = wr := ⟨_, rfl⟩
          have MP1 := hidp (MP.out.below hbx)
          have B1 := bstep hbl hbx
          clear hv hv2 hD MP
          go_upto_region 16 with fail
          have O0 := owns_empty W1 W1.heap.size (Nat.le_refl _) 3
          have b0 := bal (Below.refl W1.heap.size W1) (.cells #[] 3)
          generalize W1.alloc (.cells #[] 3) = W2 at *
          generalize (Value.slice (some ⟨W1.heap.size, 0, none⟩) 0 0) = v10 at *
          go_wp2_with fail
          go_loopg [10, 59] n (fun gg v jj wx => ∃ j : Nat, j ≤ n ∧ n - j ≤ gg ∧ jj = .int .i64 j ∧ wx.ownsRow W1.heap.size 3 1 v j ((idn j).map (Value.int .i64)) ∧ Below W1.heap.size W1 wx)
          case atStart => exact ⟨0, by omega, by omega, rfl, O0, b0⟩
          case round =>
            clear O0 b0
            obtain ⟨j, hj, hgj, rfl, hv, hbx⟩ := hrel
            by_cases hlj : j < n
            · have TS := hidp (tab_snoc (fun i => (i : Int)) j)
              go_wp2_with (at_builtin; refine wpList_append_new rfl (.tmp 62) (.tmp 64) 22 rfl W1.heap.size 3 _ 1 8 info_int rfl (by decide) Try.underlying22 _ j _ rfl hv rfl (one_int _ _) rfl rfl (by omega) (by decide) hbx.size ?_; intro v0 x0 nv g0 d0; have bl0 := append_step hv hbx (Nat.le_refl _) g0; clear g0 d0 hv hbx)
              have NV := hidp nv
              clear nv
              go_roundg (n - (j + 1))
              case measure => omega
              case rel => exact ⟨j + 1, by omega, by omega, by go_num, by show _ ; rw [show idn (j + 1) = idn j ++ [(j : Int)] from TS.out, List.map_append]; exact NV.out, bl0⟩
            · obtain rfl : n = j := by omega
              obtain ⟨ar, cr, rfl, hR⟩ := owns_ints hv (fun x hx => by
                obtain ⟨i, hi, rfl⟩ := tab_mem _ _ _ hx
                omega)
              obtain ⟨W3, rfl⟩ : ∃ W3, W3 = wr := ⟨_, rfl⟩
              have HD3 := hidp (HD.out.below hbx)
              have MP3 := hidp (MP1.out.below hbx)
              have B3 := bstep B1 hbx
              have DC := hidp (deal_c ar ad n cr cd (idn n) (tdr n t) W3 hR HD3.out (by omega) (fun i hi => by
                rw [show gi (tdr n t) i = ((dgN t i : Nat) : Int) from tab_gi _ _ _ hi]
                have := dgN_le t i; omega))
              clear hv hR HD MP1 B1
              go_wp2_with fail
              refine DC.out.mono ?_
              rintro e W4 ⟨v12, rfl, hv, hb4⟩
              have hv' : W4.ownsRow W3.heap.size 3 1 v12 n ((tdl n t).map (Value.int .i64)) := hv
              obtain ⟨ax, cx, rfl, hX⟩ := owns_ints hv' (fun x hx => by have := DLB.out x hx; omega)
              have HX := hidp hX
              have HD4 := hidp (HD3.out.below hb4)
              have MP4 := hidp (MP3.out.below hb4)
              have B4 := bstep B3 hb4
              have xl := hX.le
              clear hv hv' hX DC HD3 MP3 B3
              have RT := run_takeI ax n cx k (by omega)
              have XT := hidp (HX.out.take k hkn)
              have VC := hidp (values_c ax k cx W4)
              go_wp2_with fail
              refine VC.out.mono ?_
              rintro e W5 ⟨rfl, hw5⟩
              have hb5 : Below W4.heap.size W4 W5 := by rw [hw5]; exact bal (Below.refl _ _) _
              have c5 : W5.cell? ⟨W4.heap.size, 0, none⟩ = some (.slice ax k cx) := by rw [hw5]; simp
              have s5 : W4.heap.size < W5.heap.size := lt_of_cell c5
              have SC := hidp (sorted_ints ax k cx W4.heap.size _ W5 (XT.out.below hb5) k1 (by omega) s5 c5)
              clear hw5 VC RT
              go_wp2_with fail
              refine SC.out.mono ?_
              rintro e W6 ⟨v14, rfl, hv, hb6⟩
              rw [show srtM ((tdl n t).take k) = tx1 k n t from so2_sort _ (by rw [List.length_take]; omega)] at hv
              obtain ⟨ao, co, rfl, hSo⟩ := owns_ints hv (fun x hx => by
                obtain ⟨i, hi, e⟩ := List.getElem_of_mem hx
                have h9 := X1K.out.2 i (by rw [X1L.out] at hi; exact hi)
                have e1 : gi (tx1 k n t) i = x := by unfold gi; rw [List.getD_eq_getElem?_getD, List.getElem?_eq_getElem hi, e]; rfl
                omega)
              have RK := hidp (rank_ok ao k co (tx1 k n t) W6 hSo X1K.out)
              have B6 := bstep (bstep B4 hb5) hb6
              have HD6 := hidp ((HD4.out.below hb5).below hb6)
              have MP6 := hidp ((MP4.out.below hb5).below hb6)
              obtain ⟨y1, hy1⟩ : ∃ y1 : Nat, y1 = CombMath.rs (cN (tx1 k n t)) k := ⟨_, rfl⟩
              have HY1 := hidp (show ((y1 : Nat) : Int) = rkT k (tx1 k n t) by rw [hy1]; rfl)
              rw [← hy1] at RK
              have yb : y1 ≤ 1000000000 := by
                have h9 := CombMath.rs_all (cN (tx1 k n t)) k (by omega) (comb_rise _ _ X1K.out)
                have h8 := wz30 k (by omega)
                omega
              clear hv hSo SC c5 s5 hb5 hb6 HD4 MP4 B4 hy1 XT HX X1L X1K hb4 hbx
              go_wp2_with fail
              refine RK.out.mono ?_
              rintro e W7 ⟨rfl, hb7⟩
              have B7 := bstep B6 hb7
              have HD7 := hidp (HD6.out.below hb7)
              have MP7 := hidp (MP6.out.below hb7)
              clear RK B6 HD6 MP6 hb7
              have hl := MP7.out.isI.run (t := 30) (int_keyed Try.underlying3) Try.underlying30 Try.underlying3 (zeroInt _) (y1 : Int) (key64 _ (by omega) (by omega))
              have cb := cntOf_bd (tsq k n t) (y1 : Int)
              rw [tsq_len] at cb
              have KS := hidp (keysOf_step (tsq k n t) (y1 : Int))
              have CS := hidp (cntOf_step (tsq k n t) (y1 : Int))
              obtain ⟨cv, hcv⟩ : ∃ cv, cv = cntOf (tsq k n t) (y1 : Int) := ⟨_, rfl⟩
              rw [← hcv] at hl cb CS
              have WC : IntKind.i64.wrap (cv + 1) = cv + 1 := IntWalk.i64_in _ (by omega)
              have BL := hidp B7
              clear hcv B7
              go_wp2_with (at_mapUpdate; refine wpList_mapUpdate_in rfl (.tmp 87) (.tmp 88) (.tmp 90) 30 rfl 3 3 (int_keyed Try.underlying3) Try.underlying30 Try.underlying3 r (2 * t) _ _ .i64 rfl MP7.out (by omega) (y1 : Int) (cv + 1) rfl rfl (key64 _ (by omega) (by omega)) (WalkArith.wf_i64 (by omega)) ?_; intro W8 hm8 hg8)
              have B8 : Below w.heap.size w W8 := BL.out.grown hg8 BL.out.size (fun g e => by cases e; exact hrw)
              have HD8 := hidp (ints_grown HD7.out hg8 (fun _ b o e => by have := hDf.out b o e; omega))
              have MP8 := hidp (hm8.congr KS.out CS.out)
              rw [show 2 * t + 1 = 2 * t + 1 from rfl] at MP8
              have L1E := hidp (show tsq k n (t + 1) = (tsq k n t ++ [(y1 : Int)]) ++ [rkT k (tx2 k n t)] by rw [HY1.out]; rfl)
              generalize hL1 : tsq k n t ++ [(y1 : Int)] = L1 at *
              have L1L : L1.length = 2 * t + 1 := by rw [← hL1, List.length_append, tsq_len]; rfl
              have P0 := hidp (show PS (W8.alloc (.cells #[.int .i64 (k : Nat), .int .i64 0, .slice none 0 0] 24)) W8.heap.size k 0 (.slice none 0 0) from ⟨by go_simp, by go_simp, by go_simp, fun o => by go_simp⟩)
              have hb0 := bal (Below.refl W8.heap.size W8) (.cells #[.int .i64 (k : Nat), .int .i64 0, .slice none 0 0] 24)
              have hs0 : W8.heap.size + 1 ≤ (W8.alloc (.cells #[.int .i64 (k : Nat), .int .i64 0, .slice none 0 0] 24)).heap.size := by simp
              generalize (W8.alloc (.cells #[.int .i64 (k : Nat), .int .i64 0, .slice none 0 0] 24)) = W9 at *
              clear hm8 hg8 HD7 MP7 BL KS CS WC cb hl hL1 HY1
              go_loopg [95] n (fun gg i wx => ∃ (j : Nat) (aj : Option Addr) (lj cj : Nat), j ≤ n ∧ n - j ≤ gg ∧ i = .int .i64 j ∧ Hid (PS wx W8.heap.size k j (.slice aj lj cj)) ∧ Hid (IntsAt wx aj lj cj (tpd k n t j)) ∧ Hid (∀ b o, aj = some ⟨b, o, none⟩ → b ≠ W8.heap.size) ∧ Below W8.heap.size W8 wx ∧ W8.heap.size + 1 ≤ wx.heap.size)
              case atStart => exact ⟨0, none, 0, 0, by omega, by omega, rfl, P0, hidp (ints_nil _), hidp (fun b o e => by cases e), hb0, hs0⟩
              case round =>
                clear P0 hb0 hs0
                obtain ⟨j, aj, lj, cj, hj, hgj, rfl, PP, II, NN, hbx, hsz⟩ := hrel
                have pl := (PDB.out j (by omega)).1
                rw [II.out.len] at pl
                by_cases hlj : j < n
                · have HDx := HD8.out.below hbx
                  obtain ⟨bd, od, rfl, hbd, hcd⟩ := HDx.addr (by omega)
                  have q := hcd j hlj
                  rw [show gi (tdr n t) j = ((dgN t j : Nat) : Int) from tab_gi _ _ _ hlj] at q
                  have zb := dgN_le t j
                  have PC := hidp (pput_c k j j ((dgN t j : Nat) : Int) aj lj cj (tpd k n t j) wr II.out (by omega) (by omega) (by omega) (by omega) (by omega) (by omega) (by omega))
                  rw [show pput k j (tpd k n t j) j ((dgN t j : Nat) : Int) = tpd k n t (j + 1) from by show _ = pput k j (tpd k n t j) j (gi (tdr n t) j); rw [show gi (tdr n t) j = ((dgN t j : Nat) : Int) from tab_gi _ _ _ hlj]] at PC
                  have q0 := PP.out.q0
                  have q1 := PP.out.q1
                  have q2 := PP.out.q2
                  have PB2 := PDB.out (j + 1) (by omega)
                  have LB := hidp (fun x (hx : x ∈ tpd k n t (j + 1)) => show -9223372036854775808 ≤ x ∧ x ≤ 9223372036854775807 from by have := PB2.2 x hx; omega)
                  generalize dgN t j = d at *
                  clear PB2 pl HDx hcd
                  go_wp2_with fail
                  refine PC.out.mono ?_
                  rintro e w2 ⟨v, rfl, hv, hb2⟩
                  obtain ⟨a2, c2', rfl, hI2⟩ := owns_ints hv LB.out
                  have hne2 : ∀ b o, a2 = some ⟨b, o, none⟩ → b ≠ W8.heap.size := fun b o e => by have := (owns_far hv b o e).1; omega
                  have P2' := PP.out.below hb2
                  clear q0 q1 q2 q
                  have q0 := P2'.q0
                  have q1 := P2'.q1
                  have q2 := P2'.q2
                  have f0 := P2'.fq 0
                  have f1 := P2'.fq 1
                  have f2 := P2'.fq 2
                  have P3' := hidp (P2'.put (k : Nat) ((j : Int) + 1) (.slice a2 (tpd k n t (j + 1)).length c2'))
                  have I3 := hidp (ints_set3 hI2 W8.heap.size hne2 (.int .i64 (k : Nat)) (.int .i64 ((j : Int) + 1)) (.slice a2 (tpd k n t (j + 1)).length c2'))
                  have N3 := hidp hne2
                  have B3 := hidp ((((bstep hbx hb2).setCell (p := ⟨W8.heap.size, 0, none⟩) (Nat.le_refl _) (.int .i64 (k : Nat))).setCell (p := ⟨W8.heap.size, 1, none⟩) (Nat.le_refl _) (.int .i64 ((j : Int) + 1))).setCell (p := ⟨W8.heap.size, 2, none⟩) (Nat.le_refl _) (.slice a2 (tpd k n t (j + 1)).length c2'))
                  have hs3 := hb2.size
                  clear PP II NN hbx hv hI2 hne2 P2' hb2 PC LB hbd
                  go_wp2_with fail
                  go_roundg (n - (j + 1))
                  case measure => omega
                  case rel => exact ⟨j + 1, a2, _, c2', by omega, by omega, by go_num, P3', I3, N3, B3.out, by simp; omega⟩
                · obtain rfl : n = j := by omega
                  obtain ⟨Wa, rfl⟩ : ∃ Wa, Wa = wr := ⟨_, rfl⟩
                  have q2 := PP.out.q2
                  obtain rfl : lj = k := by omega
                  clear pl
                  have Ba := bstep B8 hbx
                  have MPa := hidp (MP8.out.below hbx)
                  have VC := hidp (values_c aj lj cj Wa)
                  clear HD8 MP8 B8 PP NN
                  go_wp2_with fail
                  refine VC.out.mono ?_
                  rintro e Wb ⟨rfl, hwb⟩
                  have hbb : Below Wa.heap.size Wa Wb := by rw [hwb]; exact bal (Below.refl _ _) _
                  have c5 : Wb.cell? ⟨Wa.heap.size, 0, none⟩ = some (.slice aj lj cj) := by rw [hwb]; simp
                  have s5 : Wa.heap.size < Wb.heap.size := lt_of_cell c5
                  have SC := hidp (sorted_ints aj lj cj Wa.heap.size _ Wb (II.out.below hbb) k1 (by omega) s5 c5)
                  clear hwb VC q2
                  go_wp2_with fail
                  refine SC.out.mono ?_
                  rintro e Wc ⟨v14, rfl, hv, hbc⟩
                  rw [show srtM (tpd lj n t n) = tx2 lj n t from so2_sort _ (by rw [II.out.len]; omega)] at hv
                  obtain ⟨ao2, co2, rfl, hSo⟩ := owns_ints hv (fun x hx => by
                    obtain ⟨i, hi, e⟩ := List.getElem_of_mem hx
                    have h9 := X2K.out.2 i (by rw [X2L.out] at hi; exact hi)
                    have e1 : gi (tx2 lj n t) i = x := by unfold gi; rw [List.getD_eq_getElem?_getD, List.getElem?_eq_getElem hi, e]; rfl
                    omega)
                  have RK := hidp (rank_ok ao2 lj co2 (tx2 lj n t) Wc hSo X2K.out)
                  have Bc := bstep (bstep Ba hbb) hbc
                  have MPc := hidp ((MPa.out.below hbb).below hbc)
                  obtain ⟨y2, hy2⟩ : ∃ y2 : Nat, y2 = CombMath.rs (cN (tx2 lj n t)) lj := ⟨_, rfl⟩
                  have HY2 := hidp (show ((y2 : Nat) : Int) = rkT lj (tx2 lj n t) by rw [hy2]; rfl)
                  rw [← hy2] at RK
                  have yb2 : y2 ≤ 1000000000 := by
                    have h9 := CombMath.rs_all (cN (tx2 lj n t)) lj (by omega) (comb_rise _ _ X2K.out)
                    have h8 := wz30 lj (by omega)
                    omega
                  clear hv hSo SC c5 s5 hbb hbc MPa Ba hy2 X2L X2K II
                  go_wp2_with fail
                  refine RK.out.mono ?_
                  rintro e Wd ⟨rfl, hbd⟩
                  have Bd := bstep Bc hbd
                  have MPd := hidp (MPc.out.below hbd)
                  clear RK Bc MPc hbd
                  have hl := MPd.out.isI.run (t := 30) (int_keyed Try.underlying3) Try.underlying30 Try.underlying3 (zeroInt _) (y2 : Int) (key64 _ (by omega) (by omega))
                  have cb := cntOf_bd L1 (y2 : Int)
                  rw [L1L] at cb
                  have KS := hidp (keysOf_step L1 (y2 : Int))
                  have CS := hidp (cntOf_step L1 (y2 : Int))
                  rw [HY2.out, ← L1E.out, ← HY2.out] at KS CS
                  obtain ⟨cv2, hcv⟩ : ∃ cv2, cv2 = cntOf L1 (y2 : Int) := ⟨_, rfl⟩
                  rw [← hcv] at hl cb CS
                  have WC : IntKind.i64.wrap (cv2 + 1) = cv2 + 1 := IntWalk.i64_in _ (by omega)
                  have BL := hidp Bd
                  clear hcv Bd
                  go_wp2_with (at_mapUpdate; refine wpList_mapUpdate_in rfl (.tmp 120) (.tmp 121) (.tmp 123) 30 rfl 3 3 (int_keyed Try.underlying3) Try.underlying30 Try.underlying3 r (2 * t + 1) _ _ .i64 rfl MPd.out (by omega) (y2 : Int) (cv2 + 1) rfl rfl (key64 _ (by omega) (by omega)) (WalkArith.wf_i64 (by omega)) ?_; intro We hme hge)
                  have Be : Below w.heap.size w We := BL.out.grown hge BL.out.size (fun g e => by cases e; exact hrw)
                  have MPe := hidp (hme.congr KS.out CS.out)
                  clear hme hge MPd BL KS CS WC cb hl
                  go_roundg (T - (t + 1))
                  case measure => omega
                  case rel => exact ⟨t + 1, by omega, by omega, by go_num, MPe, Be⟩
    · obtain rfl : T = t := by omega
      obtain ⟨Wf, rfl⟩ : ∃ Wf, Wf = wr := ⟨_, rfl⟩
      have Q1 := hidp TB.out.1
      have Q2 := hidp TB.out.2.1
      have WY := hidp (fun W => ways_nat n k (by omega) hkn W)
      have hwl := CombMath.wl_le n (by omega) k (by omega)
      have hle := hidp (fun ty => MP.out.len (t := 30) Try.underlying30 ty)
      rw [Q1.out] at hle
      have hlen := hle.out
      have hbe : (((wl n k : Nat) : Int) != ((wl n k : Nat) : Int)) = false := by simp
      obtain ⟨Wn, hWn⟩ : ∃ Wn, Wn = wl n k := ⟨_, rfl⟩
      rw [← hWn] at hlen hbe hwl Q2 WY
      obtain ⟨Pn, hPn⟩ : ∃ Pn : Nat, 2 * (T : Int) = (Pn : Int) := ⟨2 * T, by push_cast; rfl⟩
      rw [hPn] at Q2
      have wP : IntKind.i64.wrap (Pn : Int) = (Pn : Int) := IntWalk.i64_in _ (by omega)
      have hne : (((Pn : Nat) : Int) != ((Pn : Nat) : Int)) = false := by simp
      clear TB hle Q1 hWn
      go_wp2_with fail
      refine (WY.out _).mono ?_
      rintro e w' ⟨rfl, rfl⟩
      go_wp2_with (at_range; refine wpList_range_in rfl _ 30 rfl 3 3 (Maps.int_keyed Try.underlying3) Try.underlying30 .i64 r (2 * T) (keysOf (tsq k n T)) (cntOf (tsq k n T)) rfl MP.out ?_; intro v5 cnt hrg hg5 hs5)
      go_frame
      have hb5 : Below Wf.heap.size Wf v5 := below_new hg5
      clear hlen hbe WY
      go_loopw [] (fun wx => ∃ cnt, RangeI wx Try.prog 3 3 .i64 r Wf.heap.size (2 * T) (cntOf (tsq k n T)) (fun x => x ∈ keysOf (tsq k n T)) cnt ∧ Below Wf.heap.size Wf wx) (fun wx => wx.rangeLeft r Wf.heap.size)
      case atStart => exact ⟨cnt, hrg, hb5⟩
      case round =>
        clear hrg hb5 hg5 hs5 cnt
        obtain ⟨cnt, hrg, hbx⟩ := hrel
        go_wp2_with (at_next; refine wpList_next_i rfl _ rfl 3 3 .i64 (Maps.int_keyed Try.underlying3) Try.underlying3 Try.underlying3 r Wf.heap.size (2 * T) (cntOf (tsq k n T)) (fun x => x ∈ keysOf (tsq k n T)) cnt rfl hrg ?_ ?_)
        · intro hc0
          go_wp2_with fail
          go_ret
          exact ⟨rfl, bstep hbl hbx⟩
        · intro x wq cnt1 hwx hwc hin hrg1 hlt1 hg1 hs1 hen
          obtain ⟨hval, hx0, hx1⟩ := Q2.out x hin
          have hb1 : Below Wf.heap.size Wf wq := hbx.grown hg1 hbx.size (fun q hq => by cases hq; exact Nat.le_refl _)
          have LE := hidp hrg.left_eq
          obtain ⟨cq, hcq⟩ : ∃ cq, cq = cntOf (tsq k n T) x := ⟨_, rfl⟩
          rw [← hcq] at hval hen hwc ⊢
          have hx2 : ¬ (Wn : Int) ≤ x := by omega
          clear hrg hbx hg1 hs1 hin hcq
          go_wp2_with fail
          refine (FC.out _).mono ?_
          rintro e w' ⟨rfl, rfl⟩
          go_wp2_with fail
          go_roundw
          case rel => exact ⟨cnt1, hrg1, hb1⟩
          case measure => rw [hrg1.left_eq, LE.out]; omega
end Go.Proofs.Ytpdigiefldnpaaa.topPond
