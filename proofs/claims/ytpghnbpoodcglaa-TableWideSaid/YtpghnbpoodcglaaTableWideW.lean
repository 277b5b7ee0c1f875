/- The walk of TableWide: the law returns true at all inputs, and no old memory changes. -/
import Derived.Test.YtpghnbpoodcglaaTabSame
import Derived.Test.YtpghnbpoodcglaaTabRows
import Derived.Test.YtpghnbpoodcglaaCame
import Derived.Test.YtpghnbpoodcglaaCounted
namespace Go.Proofs.Ytpghnbpoodcglaa.tableWide
open Go.ChangeShapes Go.WideShapes Go.ChangeAt Go.RowKit
open Go.Proofs.Ytpghnbpoodcglaa
set_option maxRecDepth 20000
/-- A table literal of two rows of one count. -/
theorem lit12 {w : World} {b : Nat} (x y : Int) (hx : 0 ≤ x ∧ x ≤ 1000000000000) (hy : 0 ≤ y ∧ y ≤ 1000000000000) (hb : b = w.heap.size) : RowsAt (((w.alloc (.cells #[.int .i64 x] 3)).alloc (.cells #[.int .i64 y] 3)).alloc (.cells #[.slice (some ⟨b, 0, none⟩) 1 1, .slice (some ⟨b + 1, 0, none⟩) 1 1] 22)) (some ⟨b + 1 + 1, 0, none⟩) 2 2 (tabL (fun i _ => if i = 0 then x else y) 1 2) := by
  subst hb
  have h0 : IntsAt (w.alloc (.cells [Value.int .i64 x].toArray 3)) (some ⟨w.heap.size, 0, none⟩) 1 1 [x] := ints_lit [x] rfl rfl rfl (fun z hz => by simp at hz; subst hz; omega) (by omega)
  have h1 : IntsAt ((w.alloc (.cells [Value.int .i64 x].toArray 3)).alloc (.cells [Value.int .i64 y].toArray 3)) (some ⟨w.heap.size + 1, 0, none⟩) 1 1 [y] := ints_lit [y] (by simp) rfl rfl (fun z hz => by simp at hz; subst hz; omega) (by omega)
  refine ⟨rfl, Nat.le_refl _, by omega, fun _ => ⟨w.heap.size + 1 + 1, 0, rfl, by simp, fun i hi => ?_⟩⟩
  match i, hi with
  | 0, _ => exact ⟨_, 1, 1, by go_simp, (h0.alloc _).alloc _⟩
  | 1, _ => exact ⟨_, 1, 1, by go_simp, h1.alloc _⟩
theorem lit12_put : tabL (tput (fun i _ => if i = 0 then (0 : Int) else 1) (plc 1 5) 4) 1 2 = tabL (fun i _ => if i = 0 then (4 : Int) else 5) 1 2 := by
  unfold tabL
  refine tab_congr _ _ _ (fun i hi => tab_congr _ _ _ (fun j hj => ?_))
  have := plc_lt 1 5 i (by omega)
  unfold tput
  rw [if_pos (by omega)]
  show (if i = 0 then (0 : Int) else 1) + 4 = if i = 0 then 4 else 5
  split <;> rfl
set_option linter.unusedVariables false
set_option maxHeartbeats 16000000 in
theorem walk (a0 : Int) (a1 : Option Addr) (len1 cap1 : Nat) (z1 : List (List Int)) (a2 : Int) (w : World)
    (w0 : (Lit.int .i64 a0).wf = true) (w1 : RowsAt w a1 len1 cap1 z1) (w2 : (Lit.int .i64 a2).wf = true) :
    Calls Try.prog 8 #[.int .i64 a0, .slice a1 len1 cap1, .int .i64 a2] w fun e w' => e = .returned (.bool true) ∧ Below w.heap.size w w' := by
  have L1 := hidp (show ∀ (W : World) (a : Option Addr), RowsAt W a 2 2 (tabL (fun i _ => if i = 0 then (0 : Int) else 1) 1 2) → Calls Try.prog 25 #[.agg #[.int .i64 1, .slice a 2 2], .int .i64 5, .int .i64 4] W fun e w' => ∃ g cp, e = .returned (.tuple #[.agg #[.int .i64 1, .slice (some ⟨g, 0, none⟩) 2 cp], .int .i64 0]) ∧ RowsAt w' (some ⟨g, 0, none⟩) 2 cp (tabL (fun i _ => if i = 0 then (4 : Int) else 5) 1 2) ∧ Below W.heap.size W w' from fun W a h => by
    refine (tput_ok 1 a 2 2 (fun i _ => if i = 0 then (0 : Int) else 1) 5 4 W h (tabL_ok _ 1 2 (by omega) (by omega) (by omega) (by omega) (fun i j _ _ => by split <;> omega)) (by omega) (by omega) (fun i _ => by split <;> omega)).mono ?_
    rintro e w' ⟨g, cp, rfl, hr, _, hb⟩
    rw [lit12_put] at hr
    exact ⟨g, cp, rfl, hr, hb⟩)
  have L2 := hidp (show ∀ (W : World) (a a' : Option Addr) (c c' : Nat), RowsAt W a 2 c (tabL (fun i _ => if i = 0 then (4 : Int) else 5) 1 2) → RowsAt W a' 2 c' (tabL (fun i _ => if i = 0 then (4 : Int) else 5) 1 2) → Calls Try.prog 27 #[.agg #[.int .i64 1, .slice a 2 c], .agg #[.int .i64 1, .slice a' 2 c']] W fun e w' => e = .returned (.bool true) ∧ Below W.heap.size W w' from fun W a a' c c' h h' => samet_c 1 a a' 2 c c' _ W h h' (by omega) (by omega) (by omega))
  have CM := hidp (fun W (hB : Below w.heap.size w W) => came_c a1 len1 cap1 z1 100 W (w1.below hB) (by omega) (by omega))
  have m1 := w1.max
  have l1 := w1.le
  have CB := hidp (camL_bd z1 100 (by omega) (min len1 60))
  have CL := hidp (show (camL z1 100 (min len1 60)).length ≤ 60 from Nat.le_trans (camL_len _ _ _) (by omega))
  generalize camL z1 100 (min len1 60) = L at *
  have CN := hidp (fun p (hp : p ∈ L) => show (0 : Int) ≤ p.2 by have := CB.out p hp; omega)
  have CS := hidp (show csum L ≤ 6000 by
    have := (csum_bd 100 (by omega) L (fun p hp => by have := CB.out p hp; omega)).2
    have := CL.out
    omega)
  obtain ⟨m, hm⟩ : ∃ m, m = twd a0 := ⟨_, rfl⟩
  have mb := twd_bd a0
  rw [← hm] at mb
  have RC := hidp (fun nn n (hn : trw nn = n) W => show Calls Try.prog 30 #[.int .i64 a0, .int .i64 nn] W fun e w' => ∃ g cp, e = .returned (tabV m (some ⟨g, 0, none⟩) n cp) ∧ RowsAt w' (some ⟨g, 0, none⟩) n cp (tabL (fun _ _ => 0) m n) ∧ Below W.heap.size W w' from by
    subst hm hn
    exact rows_c a0 nn W)
  have CT := hidp (fun a n c al cl W (n1 : 1 ≤ n) (n2 : n ≤ 4) (h : RowsAt W a n c (tabL (fun _ _ => 0) m n)) (hL : CntAt W al L.length cl L) => counted_c m a n c (fun _ _ => 0) al L.length cl L W h hL mb.1 mb.2 n1 n2 (fun i j _ _ => by have := CS.out; omega) CN.out)
  have TB := hidp (fun i j => show 0 ≤ cntT (plc m) (fun _ _ => 0) L i j ∧ cntT (plc m) (fun _ _ => 0) L i j ≤ 6000 by
    have := hits_bd (plc m) i j L CN.out
    have := CS.out
    unfold cntT
    show 0 ≤ (0 : Int) + hits (plc m) L i j ∧ (0 : Int) + hits (plc m) L i j ≤ 6000
    omega)
  have AK := hidp (fun a n c W (n1 : 1 ≤ n) (n2 : n ≤ 4) (h : RowsAt W a n c (tabL (cntT (plc m) (fun _ _ => 0) L) m n)) => task_c m a n c _ a2 W h (tabL_ok _ m n mb.1 mb.2 n1 n2 (fun i j _ _ => by have := TB.out i j; omega)))
  have F1 := hidp (show tmin (cntT (plc m) (fun _ _ => 0) L) (plc m a2) 2 ≤ tmin (cntT (plc m) (fun _ _ => 0) L) (plc m a2) 1 by simp only [tmin]; omega)
  have F2 := hidp (show tmin (cntT (plc m) (fun _ _ => 0) L) (plc m a2) 4 ≤ tmin (cntT (plc m) (fun _ _ => 0) L) (plc m a2) 2 by simp only [tmin]; omega)
  generalize cntT (plc m) (fun _ _ => 0) L = T at *
  clear hm CS CN CB w1 w0 w2
  unfold tabV at *
  go_enter Try.func8, Try.ntmps8
  go_wp2_with fail
  have hb0 : Below w.heap.size w (((w.alloc (.cells #[.int .i64 0] 3)).alloc (.cells #[.int .i64 1] 3)).alloc (.cells #[.slice (some ⟨w.heap.size, 0, none⟩) 1 1, .slice (some ⟨w.heap.size + 1, 0, none⟩) 1 1] 22)) := bal (bal (bal (Below.refl _ _) _) _) _
  refine (L1.out _ _ (lit12 0 1 (by omega) (by omega) rfl)).mono ?_
  rintro e wa ⟨g, cp, rfl, hr, hba⟩
  have hwa := bstep hb0 hba
  clear hb0 hba
  have hx : Below wa.heap.size wa (wa.alloc (.cells #[.int .i64 1, .slice (some ⟨g, 0, none⟩) 2 cp] 44)) := bal (Below.refl _ _) _
  have x0 : (wa.alloc (.cells #[.int .i64 1, .slice (some ⟨g, 0, none⟩) 2 cp] 44)).cell? ⟨wa.heap.size, 0, none⟩ = some (.int .i64 1) := by go_simp
  have x1 : (wa.alloc (.cells #[.int .i64 1, .slice (some ⟨g, 0, none⟩) 2 cp] 44)).cell? ⟨wa.heap.size, 1, none⟩ = some (.slice (some ⟨g, 0, none⟩) 2 cp) := by go_simp
  have HR := hidp (hr.below hx)
  have hwb := bstep hwa hx
  clear hx hr hwa
  go_upto_region 2 with fail
  generalize (wa.alloc (.cells #[.int .i64 1, .slice (some ⟨g, 0, none⟩) 2 cp] 44)) = wb at *
  generalize wa.heap.size = PX at *
  go_wp2_with fail
  refine (L2.out _ _ _ _ _ (HR.out.below (bal (bal (bal (Below.refl _ _) _) _) _)) (lit12 4 5 (by omega) (by omega) rfl)).mono ?_
  rintro e wc ⟨rfl, hbc⟩
  have hw0 := bstep (bal (bal (bal hwb _) _) _) hbc
  clear hbc hwb x0 x1 HR
  go_wp2_with fail
  refine (CM.out _ hw0).mono ?_
  rintro e v0 ⟨v, rfl, hv, hb⟩
  obtain ⟨al, cl, rfl, hl⟩ := owns_cnts hv
  have HL := hidp hl
  have hw1 := bstep hw0 hb
  clear hb hv hl hw0
  go_wp2_with fail
  refine (RC.out 0 1 (by rfl) _).mono ?_
  rintro e rta ⟨gta, pta, rfl, hr, hb⟩
  replace HL := hidp (HL.out.below hb)
  have hw2 := bstep hw1 hb
  clear hw1
  have HR := hidp hr
  clear hb hr
  go_wp2_with fail
  refine (CT.out _ 1 _ _ _ _ (by omega) (by omega) HR.out HL.out).mono ?_
  rintro e sta ⟨ata, cta, rfl, hr, hb⟩
  clear HR
  have hx : Below rta.heap.size rta (sta.alloc (.cells #[.int .i64 (m : Nat), .slice ata 1 cta] 44)) := bal hb _
  replace HL := hidp (HL.out.below hx)
  have hw3 := bstep hw2 hx
  clear hw2
  have ta0 : (sta.alloc (.cells #[.int .i64 (m : Nat), .slice ata 1 cta] 44)).cell? ⟨sta.heap.size, 0, none⟩ = some (.int .i64 (m : Nat)) := by go_simp
  have ta1 : (sta.alloc (.cells #[.int .i64 (m : Nat), .slice ata 1 cta] 44)).cell? ⟨sta.heap.size, 1, none⟩ = some (.slice ata 1 cta) := by go_simp
  have Hta := hidp (hr.below (bal (Below.refl _ _) (.cells #[.int .i64 (m : Nat), .slice ata 1 cta] 44)))
  clear hb hx hr
  go_upto_region 6 with fail
  generalize (sta.alloc (.cells #[.int .i64 (m : Nat), .slice ata 1 cta] 44)) = wta at *
  generalize sta.heap.size = Pta at *
  go_wp2_with fail
  refine (RC.out 1 2 (by rfl) _).mono ?_
  rintro e rtb ⟨gtb, ptb, rfl, hr, hb⟩
  replace ta0 := ck hb ta0
  replace ta1 := ck hb ta1
  replace Hta := hidp (Hta.out.below hb)
  replace HL := hidp (HL.out.below hb)
  have hw4 := bstep hw3 hb
  clear hw3
  have HR := hidp hr
  clear hb hr
  go_wp2_with fail
  refine (CT.out _ 2 _ _ _ _ (by omega) (by omega) HR.out HL.out).mono ?_
  rintro e stb ⟨atb, ctb, rfl, hr, hb⟩
  clear HR
  have hx : Below rtb.heap.size rtb (stb.alloc (.cells #[.int .i64 (m : Nat), .slice atb 2 ctb] 44)) := bal hb _
  replace ta0 := ck hx ta0
  replace ta1 := ck hx ta1
  replace Hta := hidp (Hta.out.below hx)
  replace HL := hidp (HL.out.below hx)
  have hw5 := bstep hw4 hx
  clear hw4
  have tb0 : (stb.alloc (.cells #[.int .i64 (m : Nat), .slice atb 2 ctb] 44)).cell? ⟨stb.heap.size, 0, none⟩ = some (.int .i64 (m : Nat)) := by go_simp
  have tb1 : (stb.alloc (.cells #[.int .i64 (m : Nat), .slice atb 2 ctb] 44)).cell? ⟨stb.heap.size, 1, none⟩ = some (.slice atb 2 ctb) := by go_simp
  have Htb := hidp (hr.below (bal (Below.refl _ _) (.cells #[.int .i64 (m : Nat), .slice atb 2 ctb] 44)))
  clear hb hx hr
  go_upto_region 7 with fail
  generalize (stb.alloc (.cells #[.int .i64 (m : Nat), .slice atb 2 ctb] 44)) = wtb at *
  generalize stb.heap.size = Ptb at *
  go_wp2_with fail
  refine (RC.out 3 4 (by rfl) _).mono ?_
  rintro e rtd ⟨gtd, ptd, rfl, hr, hb⟩
  replace ta0 := ck hb ta0
  replace ta1 := ck hb ta1
  replace Hta := hidp (Hta.out.below hb)
  replace tb0 := ck hb tb0
  replace tb1 := ck hb tb1
  replace Htb := hidp (Htb.out.below hb)
  replace HL := hidp (HL.out.below hb)
  have hw6 := bstep hw5 hb
  clear hw5
  have HR := hidp hr
  clear hb hr
  go_wp2_with fail
  refine (CT.out _ 4 _ _ _ _ (by omega) (by omega) HR.out HL.out).mono ?_
  rintro e std ⟨atd, ctd, rfl, hr, hb⟩
  clear HR
  have hx : Below rtd.heap.size rtd (std.alloc (.cells #[.int .i64 (m : Nat), .slice atd 4 ctd] 44)) := bal hb _
  replace ta0 := ck hx ta0
  replace ta1 := ck hx ta1
  replace Hta := hidp (Hta.out.below hx)
  replace tb0 := ck hx tb0
  replace tb1 := ck hx tb1
  replace Htb := hidp (Htb.out.below hx)
  replace HL := hidp (HL.out.below hx)
  have hw7 := bstep hw6 hx
  clear hw6
  have td0 : (std.alloc (.cells #[.int .i64 (m : Nat), .slice atd 4 ctd] 44)).cell? ⟨std.heap.size, 0, none⟩ = some (.int .i64 (m : Nat)) := by go_simp
  have td1 : (std.alloc (.cells #[.int .i64 (m : Nat), .slice atd 4 ctd] 44)).cell? ⟨std.heap.size, 1, none⟩ = some (.slice atd 4 ctd) := by go_simp
  have Htd := hidp (hr.below (bal (Below.refl _ _) (.cells #[.int .i64 (m : Nat), .slice atd 4 ctd] 44)))
  clear hb hx hr
  go_upto_region 8 with fail
  generalize (std.alloc (.cells #[.int .i64 (m : Nat), .slice atd 4 ctd] 44)) = wtd at *
  generalize std.heap.size = Ptd at *
  obtain ⟨ba, oa, rfl, hla, hca⟩ := Hta.out.cells (by omega)
  obtain ⟨bb, ob, rfl, hlb, hcb⟩ := Htb.out.cells (by omega)
  obtain ⟨bd, od, rfl, hld, hcd⟩ := Htd.out.cells (by omega)
  obtain ⟨i1, j1, k1, q1, y1, _⟩ := tabL_row hca mb.1 0 (by omega)
  obtain ⟨i2, j2, k2, q2, y2, _⟩ := tabL_row hcb mb.1 0 (by omega)
  obtain ⟨i3, j3, k3, q3, y3, _⟩ := tabL_row hcb mb.1 1 (by omega)
  obtain ⟨i4, j4, k4, q4, y4, _⟩ := tabL_row hcd mb.1 1 (by omega)
  rw [Nat.add_zero] at q1 q2
  have E1 := hidp (fun q => (equali_q _ _ m _ _ _ (wtd.drewN q) (y1.below (below_drewN (Below.refl _ _) q)) (y2.below (below_drewN (Below.refl _ _) q))).mono (fun e w' h => show e = .returned (.bool true) ∧ ∃ n, w' = wtd.drewN n from ⟨h.1, by obtain ⟨q', h2⟩ := h.2; exact ⟨q + q', by rw [h2]; simp [World.drewN, Nat.add_assoc]⟩⟩))
  have E2 := hidp (fun q => (equali_q _ _ m _ _ _ (wtd.drewN q) (y3.below (below_drewN (Below.refl _ _) q)) (y4.below (below_drewN (Below.refl _ _) q))).mono (fun e w' h => show e = .returned (.bool true) ∧ ∃ n, w' = wtd.drewN n from ⟨h.1, by obtain ⟨q', h2⟩ := h.2; exact ⟨q + q', by rw [h2]; simp [World.drewN, Nat.add_assoc]⟩⟩))
  clear hca hcb hcd y1 y2 y3 y4
  have HW := hidp hw7
  have HA := hidp ta0
  have HB := hidp tb0
  have HD := hidp td0
  clear ta0 tb0 td0 hw7 hla hlb hld
  refine wp_region_quiet_lit (by kernel_rfl) (by kernel_rfl) ?_
  iterate 37 (quiet_step (fail))
  quiet_step ((go_at_call 19; exact E1.out _))
  iterate 11 (quiet_step (fail))
  quiet_step ((go_at_call 19; exact E2.out _))
  iterate 2 (quiet_step (fail))
  refine wpQuiet_nil ?_
  rintro w9 ⟨nq, rfl⟩
  have hwq := below_drewN HW.out nq
  have HTa := hidp (Hta.out.below (below_drewN (Below.refl _ _) nq))
  have HTb := hidp (Htb.out.below (below_drewN (Below.refl _ _) nq))
  have HTd := hidp (Htd.out.below (below_drewN (Below.refl _ _) nq))
  have ta0 : (wtd.drewN nq).cell? ⟨Pta, 0, none⟩ = _ := HA.out
  have tb0 : (wtd.drewN nq).cell? ⟨Ptb, 0, none⟩ = _ := HB.out
  have td0 : (wtd.drewN nq).cell? ⟨Ptd, 0, none⟩ = _ := HD.out
  replace ta1 : (wtd.drewN nq).cell? ⟨Pta, 1, none⟩ = _ := ta1
  replace tb1 : (wtd.drewN nq).cell? ⟨Ptb, 1, none⟩ = _ := tb1
  replace td1 : (wtd.drewN nq).cell? ⟨Ptd, 1, none⟩ = _ := td1
  clear Hta Htb Htd HA HB HD HW HL E1 E2 q1 q2 q3 q4
  generalize wtd.drewN nq = v9 at *
  go_wp2_with fail
  refine (AK.out _ 1 _ _ (by omega) (by omega) HTa.out).mono ?_
  rintro e u1 ⟨rfl, hb⟩
  replace tb0 := ck hb tb0
  replace tb1 := ck hb tb1
  replace td0 := ck hb td0
  replace td1 := ck hb td1
  replace HTb := hidp (HTb.out.below hb)
  replace HTd := hidp (HTd.out.below hb)
  have hwr := bstep hwq hb
  clear hb hwq HTa ta0 ta1
  go_wp2_with fail
  refine (AK.out _ 2 _ _ (by omega) (by omega) HTb.out).mono ?_
  rintro e u2 ⟨rfl, hb⟩
  replace td0 := ck hb td0
  replace td1 := ck hb td1
  replace HTd := hidp (HTd.out.below hb)
  have hws := bstep hwr hb
  clear hb hwr HTb tb0 tb1
  go_wp2_with fail
  refine (AK.out _ 4 _ _ (by omega) (by omega) HTd.out).mono ?_
  rintro e u3 ⟨rfl, hb⟩
  have hwt := bstep hws hb
  clear hb hws HTd td0 td1 AK CT RC CM L1 L2 TB
  have f1 := F1.out
  have f2 := F2.out
  clear F1 F2
  generalize tmin T (plc m a2) 1 = t1 at *
  generalize tmin T (plc m a2) 2 = t2 at *
  generalize tmin T (plc m a2) 4 = t4 at *
  go_wp2_with fail
  go_ret
  exact ⟨rfl, hwt⟩
end Go.Proofs.Ytpghnbpoodcglaa.tableWide
