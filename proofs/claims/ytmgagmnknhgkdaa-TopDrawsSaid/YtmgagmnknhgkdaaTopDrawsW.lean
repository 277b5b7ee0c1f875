/- The walk of TopDraws: the law returns true at all inputs, and no old memory changes. -/
import Derived.Test.YtmgagmnknhgkdaaTopDrawsC
import Derived.Test.YtmgagmnknhgkdaaBegun
import Derived.Test.YtmgagmnknhgkdaaWown
import Derived.Test.YtmgagmnknhgkdaaRepeat
import Derived.Test.YtmgagmnknhgkdaaMix
import Derived.Deep.LoopGhost
import Derived.Deep.DeepCutAuto
import Derived.StillTailTactics
import Derived.Deep.RegionWith
namespace Go.Proofs.Ytmgagmnknhgkdaa.topDraws
open Go.ChangeShapes Go.WideShapes Go.ChangeAt Go.RowKit Go.Maps
open Go.Proofs.Ytmgagmnknhgkdaa
set_option maxRecDepth 20000
theorem zeroB (w : World) : (zeroValue 4).run Try.prog w = .ok (.bool false) w := by kernel_rfl
theorem key_i64 (n : Int) (h0 : 0 ≤ n) (h1 : n ≤ 9223372036854775807) : keyOf Try.prog 3 (.int .i64 n) = some (.int .i64 n) := keyOf_int_mk Try.underlying3 (WalkArith.wf_i64 (by omega))
theorem u64_nat {n : Int} (h : (Lit.int .u64 n).wf = true) : ∃ m : Nat, n = (m : Int) ∧ m < 18446744073709551616 := by
  have hmin : IntKind.u64.min = 0 := rfl
  have hmax : IntKind.u64.max = 18446744073709551615 := rfl
  simp only [Lit.wf, Bool.and_eq_true, decide_eq_true_eq] at h
  exact ⟨n.toNat, by omega, by omega⟩
set_option linter.unusedVariables false
set_option maxRecDepth 100000 in
set_option maxHeartbeats 16000000 in
theorem walk (a0 : Option Addr) (len0 cap0 : Nat) (z0 : List Int) (a1 : Int) (w : World)
    (w0 : IntsAt w a0 len0 cap0 z0) (w1 : (Lit.int .u64 a1).wf = true) :
    Calls Try.prog 9 #[.slice a0 len0 cap0, .int .u64 a1] w fun e w' => e = .returned (.bool true) ∧ Below w.heap.size w w' := by
  obtain ⟨ib, hib, hi0, hi1, hi2⟩ := info_parts info_int
  obtain ⟨st0, rfl, hst0⟩ := u64_nat w1
  have mm := w0.max
  have ee := w0.le
  obtain ⟨N8, hN8⟩ : ∃ N8 : Nat, N8 = min len0 8 := ⟨_, rfl⟩
  have hmin : min (len0 : Int) 8 = (N8 : Int) := by omega
  have hN81 : N8 ≤ 8 := by omega
  have hN82 : N8 ≤ len0 := by omega
  obtain ⟨b, o, hz, hx⟩ := w0.split
  have hz' : Hid (len0 = 0) ∨ a0 = some ⟨b, o, none⟩ := hz.imp_left hidp
  have HX := hidp hx
  have h39 : min N8 39 = N8 := by omega
  have hok := wtL_ok z0 14 N8 (by omega) (by omega)
  have hpos := wtL_pos z0 14 N8 (by omega) (by omega)
  have hL : wtL z0 14 N8 = tab (wtF z0 14) (N8 + 1) := by unfold wtL; rw [h39]
  rw [h39, hL] at hok hpos
  obtain ⟨N, hN⟩ : ∃ N : Nat, N = N8 + 1 := ⟨_, rfl⟩
  have hN1 : 1 ≤ N ∧ N ≤ 9 := by omega
  rw [← hN] at hok hpos
  obtain ⟨l, hl⟩ : ∃ l, l = tab (wtF z0 14) N := ⟨_, rfl⟩
  have hll : l.length = N := by rw [hl, tab_len]
  rw [← hl] at hok hpos
  have hup : ∀ i, i < N → gi l i ≤ 14 := fun i hi => by
    rw [hl, tab_gi _ _ _ hi]; have := wtF_bd z0 14 (by omega) i; omega
  have sup := sumK_up l N hup N (Nat.le_refl _)
  obtain ⟨A, hAe⟩ : ∃ A : Nat, (A : Int) = sumK l N := ⟨(sumK l N).toNat, by omega⟩
  have hA1 : 1 ≤ A ∧ A ≤ 126 := by omega
  have CM := hidp (fun a c W h => make_c a N c l W h (wtsE_ok _ _ (by omega) hok (by omega)))
  have CP := hidp (fun a c (t : Nat) W h (ht : t < A) => pick_c a N c l t W h (by omega) hok (by omega) (by omega))
  have SB := hidp (fun k (hk : k ≤ N) => show -4611686018427387904 ≤ sumK l k ∧ sumK l k ≤ 4611686018427387904 by have := sumK_ok l k (okN_down l N k hok hk); omega)
  have LB := hidp (show ∀ x ∈ l, -9223372036854775808 ≤ x ∧ x ≤ 9223372036854775807 from fun x hx => by
    obtain ⟨i, hi, e⟩ := List.getElem_of_mem hx
    have := okN_at l N hok i (by omega)
    have e1 : gi l i = x := by unfold gi; rw [List.getD_eq_getElem?_getD, List.getElem?_eq_getElem hi, e]; rfl
    omega)
  have OK := hidp hok
  have HAE := hidp hAe
  have HL := hidp hl
  have HLL := hidp hll
  have HNN := hidp hN
  have K1 := hidp (fun x W => within_c x 15 (by omega) (by omega) W)
  clear hx hz w0 w1 h39 hok hpos hL hAe hup sup hN8 hll
  clear hN hl
  go_enter Try.func9, Try.ntmps9
  go_wp2_with fail
  refine (begun_c _).mono ?_
  rintro e wa ⟨rfl, hwa⟩
  have HXA := hidp (fun k (hk : k < len0) => carry_cell (HX.out k hk) hwa)
  have hsa := hwa.size
  have hba : b < wa.heap.size ∨ len0 = 0 := by
    rcases Nat.eq_zero_or_pos len0 with h | h
    · exact .inr h
    · have := (HX.out 0 h).1; left; omega
  clear HX
  go_wp2_with fail
  have ho0 : (wa.alloc (.cells #[.int .i64 1] 3)).ownsRow wa.heap.size 3 1 (.slice (some ⟨wa.heap.size, 0, none⟩) 1 1) 1 ((tab (wtF z0 14) 1).map (Value.int .i64)) :=
    World.ownsRow_lit wa #[.int .i64 1] 1 (Nat.le_refl _) (by unfold maxLen; omega) rfl
  go_loopw [5, 32] (fun v i wr => ∃ k : Nat, k ≤ N8 ∧ i = .int .i64 k ∧ wr.ownsRow wa.heap.size 3 1 v (k + 1) ((tab (wtF z0 14) (k + 1)).map (Value.int .i64)) ∧ Below wa.heap.size wa wr) (fun _ i _ => N8 - (intOf i).toNat)
  case atStart => exact ⟨0, by omega, rfl, ho0, bal (Below.refl _ _) _⟩
  case round =>
    clear ho0
    obtain ⟨k, hk, rfl, hv, hbl⟩ := hrel
    by_cases hlt : k < N8
    · obtain rfl : a0 = some ⟨b, o, none⟩ := hz'.resolve_left (fun e => by have := e.out; omega)
      have q0 := ck hbl (HXA.out k (by omega))
      go_wp2_with (first | (at_builtin; refine wpList_append_new rfl (.tmp 36) (.tmp 39) 22 rfl wa.heap.size 3 _ 1 8 info_int rfl (by decide) Try.underlying22 _ (k + 1) _ rfl hv rfl (one_int _ _) rfl rfl (by omega) (by decide) hbl.size ?_; intro v0 x0 nv g0 d0; have bl0 := append_step hv hbl (Nat.le_refl _) g0; clear g0 d0 hv hbl) | (go_at_call 27; refine (K1.out _ _).mono ?_; rintro e w' ⟨rfl, rfl⟩))
      go_roundw
      case rel => exact ⟨k + 1, by omega, by go_num, by rw [tab_snoc, List.map_append]; exact nv, bl0⟩
      case measure => simp [intOf]; omega
    · obtain rfl : k = N8 := by omega
      rw [← HNN.out, ← HL.out] at hv
      obtain ⟨al, cl, rfl, hal⟩ := owns_ints hv LB.out
      have hwr : Below w.heap.size w wr := bstep hwa hbl
      have hl1 := hal.le
      have hl2 := hal.max
      have HAL := hidp hal
      clear hv hbl hal hwa HXA K1 HL
      go_wp2_with fail
      refine (CM.out _ _ _ HAL.out).mono ?_
      rintro e wd ⟨g1, g2, own, rest, rfl, hF, -, o1, o2, hbd⟩
      rw [← HAE.out] at hF ⊢
      have HAA := hidp ((AliasAt.of hF o1 o2 ⟨by omega, by omega⟩ ⟨by omega, by omega⟩).below (W' := (wd.alloc (.cells #[.int .i64 (A : Nat), .slice (some ⟨g1, 0, none⟩) N N, .slice (some ⟨g2, 0, none⟩) N N] 24))) ((Below.refl _ _).alloc (Nat.le_refl _) _))
      have TA := hidp (fun j (hj : j < N) => two_all hF j hj)
      have HAL2 := hidp (HAL.out.below (w' := (wd.alloc (.cells #[.int .i64 (A : Nat), .slice (some ⟨g1, 0, none⟩) N N, .slice (some ⟨g2, 0, none⟩) N N] 24))) (hbd.alloc (by have := hbd.size; omega) _))
      have hwe : Below w.heap.size w (wd.alloc (.cells #[.int .i64 (A : Nat), .slice (some ⟨g1, 0, none⟩) N N, .slice (some ⟨g2, 0, none⟩) N N] 24)) := bal (bstep hwr hbd) _
      have c0 : (wd.alloc (.cells #[.int .i64 (A : Nat), .slice (some ⟨g1, 0, none⟩) N N, .slice (some ⟨g2, 0, none⟩) N N] 24)).cell? ⟨wd.heap.size, 0, none⟩ = some (.int .i64 (A : Nat)) := by go_simp
      have c1 : (wd.alloc (.cells #[.int .i64 (A : Nat), .slice (some ⟨g1, 0, none⟩) N N, .slice (some ⟨g2, 0, none⟩) N N] 24)).cell? ⟨wd.heap.size, 1, none⟩ = some (.slice (some ⟨g1, 0, none⟩) N N) := by go_simp
      have c2 : (wd.alloc (.cells #[.int .i64 (A : Nat), .slice (some ⟨g1, 0, none⟩) N N, .slice (some ⟨g2, 0, none⟩) N N] 24)).cell? ⟨wd.heap.size, 2, none⟩ = some (.slice (some ⟨g2, 0, none⟩) N N) := by go_simp
      clear hF o1 o2 hbd HAL hwr CM
      go_upto_region 10 with fail
      generalize (wd.alloc (.cells #[.int .i64 (A : Nat), .slice (some ⟨g1, 0, none⟩) N N, .slice (some ⟨g2, 0, none⟩) N N] 24)) = we at *
      generalize wd.heap.size = P at *
      have C0 := hidp (fun wr (hb : Below we.heap.size we wr) => ck hb c0)
      have C1 := hidp (fun wr (hb : Below we.heap.size we wr) => ck hb c1)
      have C2 := hidp (fun wr (hb : Below we.heap.size we wr) => ck hb c2)
      have HAB := hidp (fun wr (hb : Below we.heap.size we wr) => HAA.out.below hb)
      have HALC := hidp (fun wr (hb : Below we.heap.size we wr) => HAL2.out.below hb)
      have HRT := hidp HAA.out.rt
      have HWE := hidp hwe
      clear c0 c1 c2 hwe HAA HAL2
      go_wp2_with fail
      refine (repeat_c (some ⟨we.heap.size, 0, none⟩) 1 0 N (by omega) _ (ints_lit [0] rfl rfl rfl (by simp) (by omega))).mono ?_
      rintro e wf ⟨v1, rfl, hv1, hb1⟩
      have hbf : Below we.heap.size we wf := bstep (bal (Below.refl _ _) _) hb1
      clear hb1
      go_wp2_with fail
      refine (repeat_c (some ⟨wf.heap.size, 0, none⟩) 1 0 N (by omega) _ (ints_lit [0] rfl rfl rfl (by simp) (by omega))).mono ?_
      rintro e wg ⟨v2, rfl, hv2, hb2⟩
      obtain ⟨gA, cA, rfl, la1, la2, la3, la4⟩ := own_some hv1 (by omega) (by omega)
      obtain ⟨gB, cB, rfl, lb1, lb2, lb3, lb4⟩ := own_some hv2 (by omega) (by omega)
      have hwf : we.heap.size + 1 ≤ gA := by simpa using la3
      have hwg : wf.heap.size + 1 ≤ gB := by simpa using lb3
      have hbg : Below we.heap.size we wg := (bstep hbf (bstep (bal (Below.refl wf.heap.size wf) _) hb2))
      have eA : ((tab (fun _ => (0 : Int)) N).map (Value.int .i64)) = row (one l N 0) N := by
        rw [map_tab _ N (tab_len _ _)]
        exact tab_congr _ _ _ (fun u hu => v_int (by rw [tab_gi _ _ _ hu, one_zero l N OK.out u hu]))
      have eB : ((tab (fun _ => (0 : Int)) N).map (Value.int .i64)) = row (two own rest N 0 0) N := by
        rw [map_tab _ N (tab_len _ _)]
        exact tab_congr _ _ _ (fun u hu => v_int (by rw [tab_gi _ _ _ hu]; rfl))
      rw [eA] at hv1
      rw [eB] at hv2
      have oA : wg.ownsRow we.heap.size 3 1 (.slice (some ⟨gA, 0, none⟩) N cA) N (row (one l N 0) N) := by
        have hbx := bstep (bal (Below.refl wf.heap.size wf) _) hb2
        exact owns_mono (hv1.kept (row := none) ⟨hbx.os, hbx.tape, hbx.output, hbx.size, fun k hk _ => hbx.block k hk⟩ (.inr (by simp [Value.ownBlock]))) (by simp)
      have oB : wg.ownsRow we.heap.size 3 1 (.slice (some ⟨gB, 0, none⟩) N cB) N (row (two own rest N 0 0) N) := owns_mono hv2 (by have := hbf.size; simp; omega)
      have hmm := @run_makeMap Try.prog
      have hb3 : Below wg.heap.size wg ((wg.alloc (.cells #[.int .i64 3, .int .i64 0, .slice none 0 0] 48)).alloc (.map #[] 0)) := bal (bal (Below.refl _ _) _) _
      have T0 := hidp (show TD we.heap.size gA cA gB cB wg.heap.size (wg.heap.size + 1) N (one l N 0) (two own rest N 0 0) 0 (cmS 0) none 0 0 [] ((wg.alloc (.cells #[.int .i64 3, .int .i64 0, .slice none 0 0] 48)).alloc (.map #[] 0)) from
        ⟨(oA.alloc _).alloc _, (oB.alloc _).alloc _, ⟨by go_simp, by go_simp, by go_simp, fun o => by go_simp⟩, ⟨rfl, by omega, by omega, fun h => absurd rfl h, fun x hx => by simp at hx⟩,
         by
          have := MapIs.made (wg.alloc (.cells #[.int .i64 3, .int .i64 0, .slice none 0 0] 48)) Try.prog 3 4 .i64
          rw [World.size_alloc] at this
          exact this,
         by omega, by omega, by omega, by omega, by omega, by omega, fun b o h => by cases h⟩)
      have hbh : Below we.heap.size we ((wg.alloc (.cells #[.int .i64 3, .int .i64 0, .slice none 0 0] 48)).alloc (.map #[] 0)) := bal (bal hbg _) _
      have hgB : we.heap.size ≤ gB := by have := hbf.size; omega
      clear hv1 hv2 hbf hbg hb2 hb3 oA oB eA eB la1 la2 la3 lb1 lb2 lb3
      go_upto_region 15 with fail
      generalize ((wg.alloc (.cells #[.int .i64 3, .int .i64 0, .slice none 0 0] 48)).alloc (.map #[] 0)) = wh at *
      generalize hPp : wg.heap.size = Pp at *
      have hPw : we.heap.size ≤ Pp := by omega
      clear hPp la4 lb4
      go_wp2_with fail
      refine (tsum_c _ _ _ l _ (HALC.out wh hbh) SB.out).mono ?_
      rintro e w' ⟨rfl, rfl⟩
      rw [← HAE.out]
      go_wp2_with fail
      go_loopg [1, 61] A (fun gg s1 i wr => ∃ (k s : Nat) (a : Option Addr) (n c : Nat) (L : List Int), k ≤ A ∧ A - k ≤ gg ∧ i = .int .i64 k ∧ s1 = .int .u64 s ∧ s < 18446744073709551616 ∧ Hid (TD we.heap.size gA cA gB cB Pp (Pp + 1) N (one l N k) (two own rest N k 0) k (cmS k) a n c L wr) ∧ Hid (Came3 k L) ∧ Below we.heap.size we wr)
      case atStart => exact ⟨0, st0, none, 0, 0, [], by omega, by omega, rfl, rfl, hst0, T0, ⟨rfl, fun x hx => by simp at hx⟩, hbh⟩
      case round =>
        clear T0 hbh
        obtain ⟨k, s, a, n, c, L, hk, hgk, rfl, rfl, hs, T, CA, hbl⟩ := hrel
        by_cases hlt : k < A
        · go_wp2_with fail
          refine (CP.out al cl k wr (HALC.out wr hbl) hlt).mono ?_
          rintro e wx ⟨kk, hkk, rfl, hH, hbx⟩
          have Tx := T.out.below hbx
          have hbl2 := bstep hbl hbx
          have x2 := Tx.o1.cellAt kk (by omega)
          unfold row at x2
          rw [tab_get _ _ _ hkk] at x2
          have x3 := Tx.o1.frozenAt kk
          have kI : (kk : Int) < (N : Int) := by omega
          obtain ⟨b1, b2⟩ := one_bd l N OK.out k kk hkk (by omega) (by omega)
          have T1 := hidp (Tx.st1 kk (one l N k kk + (N : Int)) (one l N (k + 1)) (fun u hu => one_step l N OK.out k kk u hkk hu hH.out.1 hH.out.2))
          have hb4 := hbl2.setCell (p := ⟨gA, kk, none⟩) (by show we.heap.size ≤ gA; omega) (.int .i64 (one l N k kk + (N : Int)))
          clear Tx T hbl hbx hH hbl2
          go_upto_region 22 with fail
          generalize (wx.setCell ⟨gA, kk, none⟩ (.int .i64 (one l N k kk + (N : Int)))) = wy at *
          clear x2 x3 b1 b2
          obtain ⟨F1, hF1⟩ : ∃ F1, F1 = one l N (k + 1) := ⟨_, rfl⟩
          rw [← hF1] at T1
          have HF1 := hidp hF1
          clear hF1
          go_wp2_with fail
          go_loopg [82] N (fun gg i wz => ∃ t : Nat, t ≤ N ∧ N - t ≤ gg ∧ i = .int .i64 t ∧ Hid (TD we.heap.size gA cA gB cB Pp (Pp + 1) N F1 (two own rest N k t) k (cmS k) a n c L wz) ∧ Below we.heap.size we wz)
          case atStart => exact ⟨0, by omega, by omega, rfl, T1, hb4⟩
          case round =>
            clear T1 hb4
            obtain ⟨t, ht, hgt, rfl, T, hbl⟩ := hrel
            by_cases hlt2 : t < N
            · have q0 := C0.out _ hbl
              have q1 := C1.out _ hbl
              have q2 := C2.out _ hbl
              go_wp2_with fail
              refine (apick_c g1 g2 N A own rest _ (HAB.out _ hbl) t k hlt2 (by omega)).mono ?_
              rintro e wv ⟨rfl, hbv⟩
              have Tv := T.out.below hbv
              have hbl2 := bstep hbl hbv
              have hpk : apk own rest t k < N := by
                unfold apk
                split
                · exact hlt2
                · exact HRT.out t hlt2
              have STP := hidp (fun u (hu : u < N) => two_step own rest N k t u)
              obtain ⟨b1, b2⟩ := two_bd own rest N k t (apk own rest t k) (by omega) (by omega) (by omega)
              generalize apk own rest t k = p at *
              have x2 := Tv.o2.cellAt p (by omega)
              unfold row at x2
              rw [tab_get _ _ _ hpk] at x2
              have x3 := Tv.o2.frozenAt p
              have kI : (p : Int) < (N : Int) := by omega
              have T1 := hidp (Tv.st2 p (two own rest N k t p + 1) (two own rest N k (t + 1)) STP.out)
              have hb4 := hbl2.setCell (p := ⟨gB, p, none⟩) (by show we.heap.size ≤ gB; omega) (.int .i64 (two own rest N k t p + 1))
              clear Tv T hbl hbv hbl2 q0 q1 q2 STP
              go_wp2_with fail
              go_roundg (N - (t + 1))
              case measure => omega
              case rel => exact ⟨t + 1, by omega, by omega, by go_num, T1, hb4⟩
            · obtain rfl : t = N := by omega
              have T2 := T.out
              rw [show two own rest t k t = two own rest t (k + 1) 0 from funext (fun j => two_next own rest t k j)] at T2
              have HT2 := hidp T2
              clear T T2
              have NX := hidp (next_c s hs)
              obtain ⟨s2, hs2⟩ : ∃ s2 : Nat, s2 = (s + 11400714819323198485) % 18446744073709551616 := ⟨_, rfl⟩
              have hs2b : s2 < 18446744073709551616 := by rw [hs2]; exact Nat.mod_lt _ (by decide)
              rw [← hs2] at NX
              have hmb : MixMath.mixN s2 < 18446744073709551616 := MixMath.mixN_lt s2
              generalize MixMath.mixN s2 = mz at *
              clear hs2
              go_wp2_with fail
              refine (NX.out _).mono ?_
              rintro e w' ⟨rfl, rfl⟩
              go_wp2_with (at_mapUpdate; refine wpList_mapUpdate_bool rfl (.tmp 106) (.tmp 107) (.const (.bool true)) 49 rfl 3 4 (int_keyed Try.underlying3) Try.underlying49 Try.underlying4 (Pp + 1) k (cmS k) .i64 rfl HT2.out.mp (by omega) (k : Int) true rfl rfl (key_i64 _ (by omega) (by omega)) ?_; intro w3 hm3 hg3)
              have hps := HT2.out.ps.grown hg3 (show Pp + 1 ≠ Pp by omega)
              have q0 := hps.q0
              have q1 := hps.q1
              have q2 := hps.q2
              have f0 := hps.fq 0
              have f1 := hps.fq 1
              have f2 := hps.fq 2
              have hI3 := hidp (ints_grownF HT2.out.it hg3 (fun b o e => (HT2.out.ne b o e).2.2.2))
              have hb3 := hidp (hbl.grown hg3 hbl.size (fun g e => by cases e; omega))
              have hd0 : mz % (k + 1) < k + 1 := Nat.mod_lt _ (by omega)
              have CA2 := hidp (came3_step CA.out ((mz % (k + 1) : Nat) : Int))
              have hnL := CA.out.1
              rw [HT2.out.it.len] at hnL
              have PC := hidp (fun W (hb : Below w3.heap.size w3 W) => pput_c 3 k (k : Int) ((mz % (k + 1) : Nat) : Int) a n c L W (hI3.out.below hb) (by omega) (by omega) (by omega) (by omega) (by omega) (by omega) (by omega))
              have HM3 := hidp hm3
              have HG3 := hidp hg3
              have ltw := lt_of_cell q0
              have U1 : IntKind.i64.wrap ((k : Int) + 1) = (k : Int) + 1 := IntWalk.i64_in _ (by omega)
              have U2 : IntKind.u64.wrap ((k : Int) + 1) = (k : Int) + 1 := by rw [IntKind.wrap_u64]; omega
              have U3 : ¬ ((k : Int) + 1 = 0) := by omega
              have U4 : (((k : Int) + 1) == 0) = false := by rw [beq_eq_false_iff_ne]; omega
              have U5 := hidp (show IntKind.i64.wrap ((mz : Int).tmod ((k : Int) + 1)) = ((mz % (k + 1) : Nat) : Int) by
                rw [Int.tmod_eq_emod_of_nonneg (by omega), IntWalk.i64_in _ (by
                  have := Int.emod_nonneg (mz : Int) (show ((k : Int) + 1) ≠ 0 by omega)
                  have := Int.emod_lt_of_pos (mz : Int) (show (0 : Int) < (k : Int) + 1 by omega)
                  constructor <;> omega)]
                push_cast; rfl)
              have HPS := hidp hps
              have HNL := hidp hnL
              generalize mz % (k + 1) = d at *
              obtain ⟨L2, hL2⟩ : ∃ L2, L2 = pput 3 k L k (d : Int) := ⟨_, rfl⟩
              rw [← hL2] at PC CA2
              have LB2 := hidp (show ∀ x ∈ L2, -9223372036854775808 ≤ x ∧ x ≤ 9223372036854775807 from fun x hx => by have := CA2.out.2 x hx; omega)
              clear hm3 hg3 hps hbl hnL hL2
              go_region_with (go_at_call 34; go_loud (rw [U5.out]; refine Calls.mono (PC.out _ ?_) ?_; exact (Below.refl _ _).drew; rintro e w5 ⟨v, rfl, hv, hb5⟩; have hf := owns_ints hv LB2.out; obtain ⟨a2, c2, rfl, hi2⟩ := hf; have hb6 := bstep (Below.refl w3.heap.size w3).drew hb5; have hps5 := HPS.out.below hb6; have r0 := hps5.q0; have r1 := hps5.q1; have r2 := hps5.q2; have z0 := hps5.fq 0; have z1 := hps5.fq 1; have z2 := hps5.fq 2; clear hps5))
              have T3 := hidp (HT2.out.put (S' := cmS (k + 1)) HM3.out HG3.out hb6 hi2 (fun b o e => by have h1 := (owns_far hv b o e).1; have h2 := HG3.out.size; have h3 : w3.drew.heap.size = w3.heap.size := rfl; omega))
              have B5 := hidp ((((bstep hb3.out hb6).setCell (p := ⟨Pp, 0, none⟩) (by show we.heap.size ≤ Pp; omega) (.int .i64 3)).setCell (p := ⟨Pp, 1, none⟩) (by show we.heap.size ≤ Pp; omega) (.int .i64 ((k : Int) + 1))).setCell (p := ⟨Pp, 2, none⟩) (by show we.heap.size ≤ Pp; omega) (.slice a2 L2.length c2))
              clear hb5 hb6 hi2 hv
              go_wp2_with fail
              go_roundg (A - (k + 1))
              case measure => omega
              case rel => exact ⟨k + 1, s2, a2, L2.length, c2, L2, by omega, by omega, by go_num, rfl, hs2b, hidp (by rw [← HF1.out]; exact T3.out), CA2, B5.out⟩
        · obtain rfl : k = A := by omega
          have q2 := T.out.ps.q2
          obtain ⟨b2, o2, hz2, hx2⟩ := T.out.it.split
          have HX2 := hidp hx2
          have hz3 : Hid (n = 0) ∨ a = some ⟨b2, o2, none⟩ := hz2.imp_left hidp
          have hn3 := CA.out.1
          rw [T.out.it.len] at hn3
          have hn3' : (n : Int) = min 3 (k : Int) := by omega
          have em := T.out.it.max
          have ee2 := T.out.it.le
          have LL := hidp T.out.it.len
          have HN3 := hidp hn3
          have HN4 := hidp hn3'
          have hnk : n ≤ k := by omega
          have hfin : Below w.heap.size w wr := bstep HWE.out hbl
          clear hx2 hz2 hn3 hn3'
          go_wp2_with fail
          go_loopg [126] n (fun gg i wx => ∃ q : Nat, q ≤ n ∧ n - q ≤ gg ∧ i = .int .i64 q ∧ wx = wr)
          case atStart => exact ⟨0, by omega, by omega, rfl, rfl⟩
          case round =>
            obtain ⟨q, hq, hgq, rfl, rfl⟩ := hrel
            by_cases hlq : q < n
            · obtain rfl : a = some ⟨b2, o2, none⟩ := hz3.resolve_left (fun e => by have := e.out; omega)
              have qq := (HX2.out q hlq).2
              have xb := CA.out.2 (gi L q) (gi_mem L q (by rw [LL.out]; exact hlq))
              have hM := T.out.mp.run (t := 49) (int_keyed Try.underlying3) Try.underlying49 Try.underlying4 (zeroB _) (gi L q) (key_i64 _ (by omega) (by omega))
              rw [cmS_true _ k xb.1 xb.2] at hM
              generalize gi L q = x at *
              go_wp2_with fail
              go_roundg (n - (q + 1))
              case measure => omega
              case rel => exact ⟨q + 1, by omega, by omega, by go_num, rfl⟩
            · obtain rfl : q = n := by omega
              have e1 : row (one l N k) N = (tab (ws l N) N).map (Value.int .i64) := by
                rw [map_tab _ N (tab_len _ _)]
                exact tab_congr _ _ _ (fun u hu => v_int (by rw [tab_gi _ _ _ hu, one_all l N k OK.out HAE.out u hu]))
              have e2 : row (two own rest N k 0) N = (tab (ws l N) N).map (Value.int .i64) := by
                rw [map_tab _ N (tab_len _ _)]
                exact tab_congr _ _ _ (fun u hu => v_int (by rw [tab_gi _ _ _ hu, TA.out u hu]))
              have o1 := T.out.o1
              have o2' := T.out.o2
              rw [e1] at o1
              rw [e2] at o2'
              have LW := hidp (show ∀ x ∈ tab (ws l N) N, -9223372036854775808 ≤ x ∧ x ≤ 9223372036854775807 from fun x hx => by
                obtain ⟨u, hu, rfl⟩ := tab_mem _ _ _ hx
                have := one_bd l N OK.out k u hu (by omega) (by omega)
                rw [one_all l N k OK.out HAE.out u hu] at this
                omega)
              obtain ⟨a1, k1, h1, i1⟩ := owns_ints o1 LW.out
              obtain ⟨a2, k2, h2, i2⟩ := owns_ints o2' LW.out
              simp only [Value.slice.injEq] at h1 h2
              obtain ⟨rfl, -, rfl⟩ := h1
              obtain ⟨rfl, -, rfl⟩ := h2
              have EQ := hidp (fun q => by have := equaliq_c _ _ N N _ _ _ _ (wr.drewN q) (IntsAt.below i1 (below_drewN (Below.refl _ _) q)) (IntsAt.below i2 (below_drewN (Below.refl _ _) q)); rw [decide_eq_true rfl] at this; exact this)
              have SM := hidp (fun W (hb : Below wr.heap.size wr W) => by have := tsum_c al N cl l W (HALC.out W (bstep hbl hb)) SB.out; rw [← HAE.out] at this; exact this)
              have EN : ((q : Int) == min 3 (k : Int)) = true := by rw [beq_iff_eq]; exact HN4.out
              clear e1 e2 o1 o2' i1 i2
              have P2 := T.out.ps.q2
              go_wp2_with fail
              go_quiet (first | (go_at_call 16; exact Calls.quiet_of (EQ.out _)) | (go_at_call 30; exact Calls.quiet_of_same ((SM.out _ (below_drewN (Below.refl _ _) _)).mono fun _ _ h => ⟨h.1, h.2.symm⟩)))
              trace_state
              go_wp2
              go_ret
              exact ⟨rfl, by first | exact hfin | exact below_drewN hfin _⟩
end Go.Proofs.Ytmgagmnknhgkdaa.topDraws
