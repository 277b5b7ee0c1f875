/- The walk of PondAll: the law returns true at all inputs, and no old memory changes. -/
import Derived.Test.YtpdigiefldnpaaaPondAllC
import Derived.Test.YtpdigiefldnpaaaEqI
import Derived.Test.YtpdigiefldnpaaaComb
import Derived.Deep.RegionHeld3
import Derived.StillTailTactics
namespace Go.Proofs.Ytpdigiefldnpaaa.pondAll
open Go.ChangeShapes Go.WideShapes Go.ChangeAt Go.RowKit Go.Maps OdoMath
open Go.Proofs.Ytpdigiefldnpaaa
open Go.Proofs.Ytpdigiefldnpaaa.CombMath (wl)
set_option maxRecDepth 20000
theorem put1 : pput 2 2 [0, 1] 2 2 = [0, 1] := by decide
/-- The first i bounds. -/
def bsK (k i : Nat) : List Int := tab (fun i => if i < k then 1 else (i : Int) + 1) i
theorem bsK_snoc (k i : Nat) : bsK k (i + 1) = bsK k i ++ [if i < k then 1 else (i : Int) + 1] := tab_snoc _ _
theorem bsP_bd (k n : Nat) (hn : n ≤ 100) : ∀ x ∈ bsP k n, -9223372036854775808 ≤ x ∧ x ≤ 9223372036854775807 := fun x hx => by
  obtain ⟨i, hi, rfl⟩ := tab_mem _ _ _ hx; split <;> omega
set_option linter.unusedVariables false
set_option maxHeartbeats 16000000 in
theorem walk (a0 a1 : Int) (w : World) (w0 : (Lit.int .i64 a0).wf = true) (w1 : (Lit.int .i64 a1).wf = true) :
    Calls Try.prog 3 #[.int .i64 a0, .int .i64 a1] w fun e w' => e = .returned (.bool true) ∧ Below w.heap.size w w' := by
  have i0 : IntsAt (((w.alloc (.cells #[.int .i64 a0] 3)).alloc (.cells #[.int .i64 a1] 3)).alloc (.cells #[.int .i64 0, .int .i64 1] 3)) (some ⟨w.heap.size + 1 + 1, 0, none⟩) 2 2 [0, 1] := ints_lit [0, 1] (by simp) rfl rfl (by simp) (by omega)
  have PU := hidp (pput_c 2 2 2 2 _ 2 2 [0, 1] _ i0 (by omega) (by omega) (by omega) (by omega) (by decide) (by omega) (by omega))
  rw [put1] at PU
  obtain ⟨k, hk⟩ : ∃ k : Nat, 1 + ((wn a0 3 : Nat) : Int) = (k : Int) := ⟨1 + wn a0 3, by push_cast; rfl⟩
  have k0 := wn_lt a0 3 (by omega)
  have k1 : 1 ≤ k := by omega
  have k3 : k ≤ 3 := by omega
  have n0 := wn_lt a1 (7 - (k : Int)) (by omega)
  obtain ⟨m, hm⟩ : ∃ m, m = wn a1 (7 - (k : Int)) := ⟨_, rfl⟩
  have WM := hidp (fun W => withinN_c a1 (7 - (k : Int)) (by omega) (by omega) W)
  rw [← hm] at n0 WM
  obtain ⟨n, hn⟩ : ∃ n : Nat, (k : Int) + (m : Int) = (n : Int) := ⟨k + m, by push_cast; rfl⟩
  have hkn : k ≤ n := by omega
  have h6 : n ≤ 6 := by omega
  have w7 : IntKind.i64.wrap (7 - (k : Int)) = 7 - (k : Int) := IntWalk.i64_in _ (by omega)
  have wk : IntKind.i64.wrap (n : Int) = (n : Int) := IntWalk.i64_in _ (by omega)
  clear hm w0 w1 i0 k0
  go_enter Try.func3, Try.ntmps3
  go_wp2_with fail
  refine PU.out.mono ?_
  rintro e wa ⟨v, rfl, hv, hba⟩
  have hb0 := bal (bal (bal (Below.refl w.heap.size w) (.cells #[.int .i64 a0] 3)) (.cells #[.int .i64 a1] 3)) (.cells #[.int .i64 0, .int .i64 1] 3)
  have c2 : wa.cell? ⟨w.heap.size, 0, none⟩ = some (.int .i64 a0) := ck hba (by go_simp)
  have c3 : wa.cell? ⟨w.heap.size + 1, 0, none⟩ = some (.int .i64 a1) := ck hba (by go_simp)
  have f2 : wa.frozen? ⟨w.heap.size, 0, none⟩ = false := (hba.frozen (p := ⟨w.heap.size, 0, none⟩) (by simp; omega)).trans (by go_simp)
  have f3 : wa.frozen? ⟨w.heap.size + 1, 0, none⟩ = false := (hba.frozen (p := ⟨w.heap.size + 1, 0, none⟩) (by simp)).trans (by go_simp)
  have hwa := bstep hb0 hba
  obtain ⟨av, cv, rfl, hI⟩ := owns_ints hv (by simp)
  have hby := bal (bal (Below.refl wa.heap.size wa) (.cells #[.int .i64 2, .int .i64 3, .slice av 2 cv] 24)) (.cells #[.int .i64 0, .int .i64 1] 3)
  have EQ0 := (equali_c av (some ⟨wa.heap.size + 1, 0, none⟩) 2 2 cv 2 [0, 1] [0, 1] ((wa.alloc (.cells #[.int .i64 2, .int .i64 3, .slice av 2 cv] 24)).alloc (.cells #[.int .i64 0, .int .i64 1] 3)) (hI.below hby) (ints_lit [0, 1] (by simp) rfl rfl (by simp) (by omega)))
  rw [decide_eq_true rfl] at EQ0
  have EQ := hidp EQ0
  have hs2 := lt_of_cell c3
  have hs2' : w.heap.size + 1 < wa.heap.size := hs2
  clear hv hba hb0 hI PU EQ0 hs2
  simp only [List.length_cons, List.length_nil] at *
  go_wp2_with fail
  refine EQ.out.mono ?_
  rintro e wb ⟨rfl, hbb⟩
  have hbz := bstep hby hbb
  replace f2 := (hbz.frozen (p := ⟨w.heap.size, 0, none⟩) (by show w.heap.size < _; omega)).trans f2
  replace f3 := (hbz.frozen (p := ⟨w.heap.size + 1, 0, none⟩) (by show w.heap.size + 1 < _; omega)).trans f3
  replace c2 := ck hbz c2
  replace c3 := ck hbz c3
  have hwb := bstep hwa hbz
  have hs3 : w.heap.size + 1 < wb.heap.size := by have := hbz.size; omega
  clear hby hbb hwa hbz EQ hs2'
  generalize hH : w.heap.size = H at *
  go_wp2_with fail
  refine (withinN_c a0 3 (by omega) (by omega) _).mono ?_
  rintro e w' ⟨rfl, rfl⟩
  go_wp2_with fail
  have d2 : (wb.setCell ⟨H, 0, none⟩ (.int .i64 (k : Nat))).cell? ⟨H, 0, none⟩ = some (.int .i64 (k : Nat)) := World.cell?_setCell_same _ _ _ c2
  have d3 : (wb.setCell ⟨H, 0, none⟩ (.int .i64 (k : Nat))).cell? ⟨H + 1, 0, none⟩ = some (.int .i64 a1) := by rw [World.cell?_setCell_far _ _ _ _ (by show H ≠ H + 1; omega)]; exact c3
  have e3 : (wb.setCell ⟨H, 0, none⟩ (.int .i64 (k : Nat))).frozen? ⟨H + 1, 0, none⟩ = false := by rw [← f3]; simp
  have hwc : Below H w (wb.setCell ⟨H, 0, none⟩ (.int .i64 (k : Nat))) := hwb.setCell (p := ⟨H, 0, none⟩) (Nat.le_refl _) _
  have hs4 : H + 1 < (wb.setCell ⟨H, 0, none⟩ (.int .i64 (k : Nat))).heap.size := by simp; omega
  generalize (wb.setCell ⟨H, 0, none⟩ (.int .i64 (k : Nat))) = wc at *
  clear c2 c3 f2 f3 hwb hs3
  go_still_tail 6, (by kernel_rfl)
  still_call ((WM.out _).mono (fun e w' h => ⟨h.1, h.2.symm⟩))
  repeat still_step
  refine wpStill_nil ?_
  change wpList _ _ _ _ _ wc.drew
  have x2 : wc.drew.cell? ⟨H, 0, none⟩ = some (.int .i64 (k : Nat)) := d2
  have x3 : wc.drew.cell? ⟨H + 1, 0, none⟩ = some (.int .i64 a1) := d3
  have y3 : wc.drew.frozen? ⟨H + 1, 0, none⟩ = false := e3
  have hwx := hwc.drew
  have hsx : H + 1 < wc.drew.heap.size := hs4
  clear d2 d3 e3 hwc hs4
  generalize wc.drew = wx at *
  have g2 : (wx.setCell ⟨H + 1, 0, none⟩ (.int .i64 (n : Nat))).cell? ⟨H, 0, none⟩ = some (.int .i64 (k : Nat)) := by rw [World.cell?_setCell_far _ _ _ _ (by show H + 1 ≠ H; omega)]; exact x2
  have g3 : (wx.setCell ⟨H + 1, 0, none⟩ (.int .i64 (n : Nat))).cell? ⟨H + 1, 0, none⟩ = some (.int .i64 (n : Nat)) := World.cell?_setCell_same _ _ _ x3
  have hwd : Below H w (wx.setCell ⟨H + 1, 0, none⟩ (.int .i64 (n : Nat))) := hwx.setCell (p := ⟨H + 1, 0, none⟩) (by show H ≤ H + 1; omega) _
  have hs5 : H + 1 < (wx.setCell ⟨H + 1, 0, none⟩ (.int .i64 (n : Nat))).heap.size := by simp; omega
  go_upto_region 7 with fail
  generalize (wx.setCell ⟨H + 1, 0, none⟩ (.int .i64 (n : Nat))) = wd at *
  clear x2 x3 y3 hwx hsx WM w7 wk
  go_wp2_with fail
  go_loopg [7, 40] n (fun gg v i wr => ∃ j : Nat, j ≤ n ∧ n - j ≤ gg ∧ i = .int .i64 j ∧ wr.ownsRow wd.heap.size 3 1 v j ((bsK k j).map (Value.int .i64)) ∧ Below wd.heap.size wd wr)
  case atStart => exact ⟨0, by omega, by omega, rfl, World.ownsRow_nil _ _ _ _, Below.refl _ _⟩
  case round =>
    obtain ⟨j, hj, hgg, rfl, hv, hbl⟩ := hrel
    by_cases hlt : j < n
    · have x2 := ck hbl g2
      have S2 := bsK_snoc k j
      have hgs := hbl.size
      have wj : IntKind.i64.wrap ((j : Int) + 1) = (j : Int) + 1 := IntWalk.i64_in _ (by omega)
      by_cases hjk : (j : Int) < (k : Int)
      · rw [if_pos (by omega)] at S2
        have S3 := hidp S2
        clear S2
        go_wp2_with (at_builtin; refine wpList_append_new rfl (.tmp 46) (.tmp 47) 22 rfl wd.heap.size 3 _ 1 8 info_int rfl (by decide) Try.underlying22 _ j _ rfl hv rfl (one_int _ _) rfl rfl (by omega) (by decide) hgs ?_; intro v0 x0 nw gr0 dd0)
        go_roundg (n - (j + 1))
        case measure => omega
        case rel => exact ⟨j + 1, by omega, by omega, by go_num, by rw [S3.out, List.map_append]; exact nw, append_step hv hbl (Nat.le_refl _) gr0⟩
      · rw [if_neg (by omega)] at S2
        have S3 := hidp S2
        clear S2
        go_wp2_with (at_builtin; refine wpList_append_new rfl (.tmp 49) (.tmp 52) 22 rfl wd.heap.size 3 _ 1 8 info_int rfl (by decide) Try.underlying22 _ j _ rfl hv rfl (one_int _ _) rfl rfl (by omega) (by decide) hgs ?_; intro v0 x0 nw gr0 dd0)
        go_roundg (n - (j + 1))
        case measure => omega
        case rel => exact ⟨j + 1, by omega, by omega, by go_num, by rw [S3.out, List.map_append]; exact nw, append_step hv hbl (Nat.le_refl _) gr0⟩
    · obtain rfl : j = n := by omega
      have hv2 : wr.ownsRow wd.heap.size 3 1 u7 j ((bsP k j).map (Value.int .i64)) := hv
      obtain ⟨ab, cb, rfl, hIB⟩ := owns_ints hv2 (bsP_bd k j (by omega))
      have hab : ∀ b o, ab = some ⟨b, o, none⟩ → b < wr.heap.size := fun b o e => (owns_far hv2 b o e).2
      have hmm := @run_makeMap Try.prog
      have x2 := ck hbl g2
      have x3 := ck hbl g3
      have hwr : Below w.heap.size w wr := by
        rw [hH]
        exact hwd.trans (hbl.mono (by omega))
      have hb1 : Below wr.heap.size wr ((wr.alloc (.map #[] 0)).alloc (.cells #[.map (some wr.heap.size)] 30)) := bal (bal (Below.refl _ _) _) _
      have I0 := hidp (show PInv w H (H + 1) (wr.heap.size + 1) wr.heap.size ab k j cb 0 ((wr.alloc (.map #[] 0)).alloc (.cells #[.map (some wr.heap.size)] 30)) from
        ⟨ck hb1 x2, ck hb1 x3, by go_simp, hIB.below hb1, ((MapIN.made wr Try.prog 3 3 .i64).below (bal (Below.refl _ _) _)).congr rfl (fun x => by simp [pcnt, psets, tab]), bstep hwr hb1⟩)
      have hz1 : ((wr.alloc (.map #[] 0)).alloc (.cells #[.map (some wr.heap.size)] 30)).heap.size = wr.heap.size + 2 := by simp
      have hwrs : w.heap.size ≤ wr.heap.size := hwr.size
      have hH1 : H + 1 < wr.heap.size := lt_of_cell x3
      clear hv hv2 hbl hIB hb1 g2 g3 hwd x2 x3 hwr
      go_upto_region 15 with fail
      generalize ((wr.alloc (.map #[] 0)).alloc (.cells #[.map (some wr.heap.size)] 30)) = we at *
      generalize wr.heap.size = r at *
      have hz2 : r + 2 = we.heap.size := hz1.symm
      clear hz1
      have PB := prd_all k (by omega) j (by omega)
      have E := each_c 19 #[.pointer (some ⟨H, 0, none⟩), .pointer (some ⟨H + 1, 0, none⟩), .pointer (some ⟨r + 1, 0, none⟩)] (fun _ _ => by kernel_rfl) ab j cb (bsP k j) we (PInv w H (H + 1) (r + 1) r ab k j cb) I0.out.ib (by omega) (fun i hi => by rw [bsP_at k j i hi]; split <;> omega)
        (fun t W i v h => h.set we.heap.size (by omega) (by omega) (by omega) (by omega) (by omega) (fun _ b o e => by have := hab b o e; omega) i v)
        (fun t W q h => h.below (below_drewN (Below.refl _ _) _))
        (fun W h => I0.out.below (below_new h))
        (fun t W h => h.ib)
        (fun t W ht h hsz2 hway => by
          refine (pclos_c k j t H (H + 1) (r + 1) r (some ⟨we.heap.size, 0, none⟩) j W k1 k3 hkn h6 (by omega) h.c2 h.c3 h.c9 hway h.mp).mono ?_
          rintro e W' ⟨rfl, hm, hg⟩
          exact ⟨rfl, h.grown (by omega) (by omega) (by omega) hwrs (fun _ b o e => by have := hab b o e; omega) hm hg, hg.block _ hsz2 (by simp; omega), hg.size⟩)
      have EH := hidp E
      obtain ⟨q1, q2⟩ := pond_all k j k1 k3 hkn h6
      have Q1 := hidp q1
      have Q2 := hidp q2
      have WY := hidp (fun W => ways_nat j k (by omega) hkn W)
      have FC := hidp (fun W => rfact_c (j - k) ((j : Int) - (k : Int)) (by omega) (by omega) W)
      have hwl := (CombMath.wl_le j (by omega) k (by omega))
      have hff := (fct_tab (j - k) (by omega)).2
      have wjk : IntKind.i64.wrap ((j : Int) - (k : Int)) = (j : Int) - (k : Int) := IntWalk.i64_in _ (by omega)
      clear E I0 q1 q2
      go_wp2_with fail
      refine EH.out.mono ?_
      rintro e wf ⟨rfl, hI⟩
      have y2 := hI.c2
      have y3 := hI.c3
      have y9 := hI.c9
      have hle := hidp (fun ty => hI.mp.len (t := 30) Try.underlying30 ty)
      rw [Q1.out] at hle
      have hlen := hle.out
      have HI := hidp hI
      have hbe : (((wl j k : Nat) : Int) != ((wl j k : Nat) : Int)) = false := by simp
      generalize prd (bn (bsP k j)) j = PP at *
      clear hI hle EH
      go_wp2_with fail
      refine (WY.out _).mono ?_
      rintro e w' ⟨rfl, rfl⟩
      go_wp2_with (at_range; refine wpList_range_in rfl _ 30 rfl 3 3 (Maps.int_keyed Try.underlying3) Try.underlying30 .i64 r PP (pkeys k j PP) (pcnt k j PP) rfl HI.out.mp ?_; intro v5 cnt hrg hg5 hs5)
      go_frame
      have hb5 : Below wf.heap.size wf v5 := below_new hg5
      clear hlen hbe WY Q1
      go_loopw [] (fun wx => ∃ cnt, RangeI wx Try.prog 3 3 .i64 r wf.heap.size PP (pcnt k j PP) (fun x => x ∈ pkeys k j PP) cnt ∧ Below wf.heap.size wf wx) (fun wx => wx.rangeLeft r wf.heap.size)
      case atStart => exact ⟨cnt, hrg, hb5⟩
      case round =>
        clear hrg hb5 hg5 hs5 cnt
        obtain ⟨cnt, hrg, hbx⟩ := hrel
        go_wp2_with (at_next; refine wpList_next_i rfl _ rfl 3 3 .i64 (Maps.int_keyed Try.underlying3) Try.underlying3 Try.underlying3 r wf.heap.size PP (pcnt k j PP) (fun x => x ∈ pkeys k j PP) cnt rfl hrg ?_ ?_)
        · intro hc0
          go_wp2_with fail
          go_ret
          exact ⟨rfl, bstep HI.out.bel hbx⟩
        · intro x w1 cnt1 hwx hwc hin hrg1 hlt1 hg1 hs1 hen
          have hval := Q2.out x hin
          rw [hval] at hen hwc ⊢
          have hb1 : Below wf.heap.size wf w1 := hbx.grown hg1 hbx.size (fun k hk => by cases hk; exact Nat.le_refl _)
          have z2 := ck hb1 y2
          have z3 := ck hb1 y3
          have hbf : (((fct (j - k) : Nat) : Int) != ((fct (j - k) : Nat) : Int)) = false := by simp
          have LE := hidp hrg.left_eq
          clear hrg hbx hg1 hs1 hval hin
          go_wp2_with fail
          refine (FC.out _).mono ?_
          rintro e w' ⟨rfl, rfl⟩
          go_wp2_with fail
          go_roundw
          case rel => exact ⟨cnt1, hrg1, hb1⟩
          case measure => rw [hrg1.left_eq, LE.out]; omega
end Go.Proofs.Ytpdigiefldnpaaa.pondAll
