/- The walk of TableMore: the law returns true at all inputs, and no old memory changes. -/
import Derived.Test.YtpghnbpoodcglaaTabOpen
namespace Go.Proofs.Ytpghnbpoodcglaa.tableMore
open Go.ChangeShapes Go.WideShapes Go.ChangeAt Go.RowKit
open Go.Proofs.Ytpghnbpoodcglaa
set_option maxRecDepth 20000
/-- A table literal of one row of one count. -/
theorem lit11 {w : World} {b : Nat} (x : Int) (hx : 0 ≤ x ∧ x ≤ 1000000000000) (hb : b = w.heap.size) : RowsAt ((w.alloc (.cells #[.int .i64 x] 3)).alloc (.cells #[.slice (some ⟨b, 0, none⟩) 1 1] 22)) (some ⟨b + 1, 0, none⟩) 1 1 (tabL (fun _ _ => x) 1 1) := by
  subst hb
  have h0 : IntsAt (w.alloc (.cells [Value.int .i64 x].toArray 3)) (some ⟨w.heap.size, 0, none⟩) 1 1 [x] := ints_lit [x] rfl rfl rfl (fun y hy => by simp at hy; subst hy; omega) (by omega)
  refine ⟨rfl, Nat.le_refl _, by omega, fun _ => ⟨w.heap.size + 1, 0, rfl, by simp, fun i hi => ?_⟩⟩
  obtain rfl : i = 0 := by omega
  exact ⟨_, 1, 1, by go_simp, h0.alloc _⟩
set_option linter.unusedVariables false
set_option maxHeartbeats 8000000 in
theorem walk (wd0 : Int) (a0 : Option Addr) (n0 c0 : Nat) (xs0 : List (List Int)) (a1 a2 a3 : Int) (w : World)
    (w0 : RowsAt w a0 n0 c0 xs0) (w1 : (Lit.int .i64 a1).wf = true) (w2 : (Lit.int .i64 a2).wf = true) (w3 : (Lit.int .i64 a3).wf = true) :
    Calls Try.prog 5 #[tabV wd0 a0 n0 c0, .int .i64 a1, .int .i64 a2, .int .i64 a3] w fun e w' => e = .returned (.bool true) ∧ Below w.heap.size w w' := by
  have L1 := hidp (show ∀ (W : World) (a : Option Addr), RowsAt W a 1 1 (tabL (fun _ _ => (3 : Int)) 1 1) → Calls Try.prog 24 #[.agg #[.int .i64 1, .slice a 1 1], .int .i64 5] W fun e w' => e = .returned (.tuple #[.int .i64 3, .int .i64 0]) ∧ Below W.heap.size W w' from fun W a h => by
    have hl : tmin (fun _ _ => (3 : Int)) (plc 1 5) 1 = 3 := by simp only [tmin]; omega
    have := task_c 1 a 1 1 (fun _ _ => 3) 5 W h (tabL_ok _ 1 1 (by omega) (by omega) (by omega) (by omega) (fun _ _ _ _ => by omega))
    rw [hl] at this
    exact this)
  have b2 := wf_bd w2
  have H := hidp w0
  have hln := w0.len
  clear w0 w1 w2 w3
  by_cases hE : tchk wd0 n0 xs0 = 0
  rotate_left
  · have B1 := hidp (fun W (hB : Below w.heap.size w W) => tput_bad1 wd0 a0 n0 c0 xs0 a1 a2 W (H.out.below hB) hE)
    have hE1 : (tchk wd0 n0 xs0 == 0) = false := by rw [beq_eq_false_iff_ne]; exact hE
    clear hE H hln
    unfold tabV at *
    go_enter Try.func5, Try.ntmps5
    go_wp2_with fail
    refine (L1.out _ _ (lit11 3 (by omega) (by simp))).mono ?_
    rintro e wa ⟨rfl, hba⟩
    have hb0 : Below w.heap.size w (((w.alloc (.cells #[.int .i64 wd0, .slice a0 n0 c0] 44)).alloc (.cells #[.int .i64 3] 3)).alloc (.cells #[.slice (some ⟨w.heap.size + 1, 0, none⟩) 1 1] 22)) := bal (bal (bal (Below.refl _ _) _) _) _
    have t0 : wa.cell? ⟨w.heap.size, 0, none⟩ = some (.int .i64 wd0) := ck hba (by go_simp)
    have t1 : wa.cell? ⟨w.heap.size, 1, none⟩ = some (.slice a0 n0 c0) := ck hba (by go_simp)
    have hwa := bstep hb0 hba
    clear hb0 hba
    go_wp2_with fail
    refine (B1.out _ hwa).mono ?_
    rintro e wb ⟨rfl, hbb⟩
    have hwb := bstep hwa hbb
    clear t0 t1 hbb hwa
    go_wp2_with fail
    go_ret
    exact ⟨rfl, bal hwb _⟩
  by_cases hX : a2 < 0 ∨ 1000000000000 < a2
  · have B2 := hidp (fun W (hB : Below w.heap.size w W) => tput_bad2 wd0 a0 n0 c0 xs0 a1 a2 W (H.out.below hB) hE hX)
    clear hE H hln hX
    unfold tabV at *
    go_enter Try.func5, Try.ntmps5
    go_wp2_with fail
    refine (L1.out _ _ (lit11 3 (by omega) (by simp))).mono ?_
    rintro e wa ⟨rfl, hba⟩
    have hb0 : Below w.heap.size w (((w.alloc (.cells #[.int .i64 wd0, .slice a0 n0 c0] 44)).alloc (.cells #[.int .i64 3] 3)).alloc (.cells #[.slice (some ⟨w.heap.size + 1, 0, none⟩) 1 1] 22)) := bal (bal (bal (Below.refl _ _) _) _) _
    have t0 : wa.cell? ⟨w.heap.size, 0, none⟩ = some (.int .i64 wd0) := ck hba (by go_simp)
    have t1 : wa.cell? ⟨w.heap.size, 1, none⟩ = some (.slice a0 n0 c0) := ck hba (by go_simp)
    have hwa := bstep hb0 hba
    clear hb0 hba
    go_wp2_with fail
    refine (B2.out _ hwa).mono ?_
    rintro e wb ⟨rfl, hbb⟩
    have hwb := bstep hwa hbb
    clear t0 t1 hbb hwa
    go_wp2_with fail
    go_ret
    exact ⟨rfl, bal hwb _⟩
  obtain ⟨m, rfl, hok⟩ := tchk_zero wd0 n0 xs0 hln hE
  obtain ⟨T, hT⟩ : ∃ T, xs0 = tabL T m n0 := ⟨_, tabL_of m n0 xs0 hln hok.row⟩
  subst hT
  have PC := hidp (fun W (hB : Below w.heap.size w W) => tput_c m a0 n0 c0 T a1 a2 W (H.out.below hB) hok (by omega) (by omega))
  have AT := hidp (fun key W (hB : Below w.heap.size w W) => task_c m a0 n0 c0 T key W (H.out.below hB) hok)
  have AX := hidp (fun g cp key W (hO : ∀ i, i < n0 → T i (plc m a1 i) + a2 ≤ 1000000000000) (hR : RowsAt W (some ⟨g, 0, none⟩) n0 cp (tabL (tput T (plc m a1) a2) m n0)) => task_c m (some ⟨g, 0, none⟩) n0 cp (tput T (plc m a1) a2) key W hR (tabL_ok _ m n0 hok.m1 hok.m2 hok.n1 hok.n2 (fun i j hi hj => by
    have := hok.cell i j hi hj
    unfold tput
    split
    · rename_i e; have := hO i hi; rw [← e] at this; omega
    · exact this)))
  have OK := hidp hok
  have TC := hidp (fun i j (hi : i < n0) (hj : j < m) => hok.cell i j hi hj)
  have PL := hidp (fun key i => plc_lt m key i hok.m1)
  clear hE H hln hok
  have x1 : 0 ≤ a2 := by omega
  have x2 : a2 ≤ 1000000000000 := by omega
  clear hX
  unfold tabV at *
  go_enter Try.func5, Try.ntmps5
  go_wp2_with fail
  refine (L1.out _ _ (lit11 3 (by omega) (by simp))).mono ?_
  rintro e wa ⟨rfl, hba⟩
  have hb0 : Below w.heap.size w (((w.alloc (.cells #[.int .i64 (m : Nat), .slice a0 n0 c0] 44)).alloc (.cells #[.int .i64 3] 3)).alloc (.cells #[.slice (some ⟨w.heap.size + 1, 0, none⟩) 1 1] 22)) := bal (bal (bal (Below.refl _ _) _) _) _
  have t0 : wa.cell? ⟨w.heap.size, 0, none⟩ = some (.int .i64 (m : Nat)) := ck hba (by go_simp)
  have t1 : wa.cell? ⟨w.heap.size, 1, none⟩ = some (.slice a0 n0 c0) := ck hba (by go_simp)
  have hwa := bstep hb0 hba
  clear hb0 hba
  go_wp2_with fail
  refine (PC.out _ hwa).mono ?_
  rintro e wb ⟨⟨g, cp, G, C, rfl, hO, hg1, hg2, hg3, hle⟩ | ⟨rfl, hle⟩, hbb⟩
  rotate_left
  · have hwb := bstep hwa hbb
    clear t0 t1 hbb hwa
    go_wp2_with fail
    go_ret
    exact ⟨rfl, bal hwb _⟩
  have hR := (hO.rows hg2 hg3 (fun i j hi hj => by
    have := TC.out i j hi hj
    unfold tput
    split <;> omega)).below ((Below.refl _ _).alloc (Nat.le_refl _) (.cells #[.int .i64 (m : Nat), .slice (some ⟨g, 0, none⟩) n0 cp] 44))
  have hx : Below wb.heap.size wb (wb.alloc (.cells #[.int .i64 (m : Nat), .slice (some ⟨g, 0, none⟩) n0 cp] 44)) := bal (Below.refl _ _) _
  have X0 : (wb.alloc (.cells #[.int .i64 (m : Nat), .slice (some ⟨g, 0, none⟩) n0 cp] 44)).cell? ⟨wb.heap.size, 0, none⟩ = some (.int .i64 (m : Nat)) := by go_simp
  have X1 : (wb.alloc (.cells #[.int .i64 (m : Nat), .slice (some ⟨g, 0, none⟩) n0 cp] 44)).cell? ⟨wb.heap.size, 1, none⟩ = some (.slice (some ⟨g, 0, none⟩) n0 cp) := by go_simp
  replace t0 := ck hx (ck hbb t0)
  replace t1 := ck hx (ck hbb t1)
  have hwb := bstep (bstep hwa hbb) hx
  have HR := hidp hR
  have HL := hidp hle
  have HWA := hidp hwb
  clear hR hle hO hbb hwa hwb hx
  go_upto_region 5 with fail
  generalize (wb.alloc (.cells #[.int .i64 (m : Nat), .slice (some ⟨g, 0, none⟩) n0 cp] 44)) = wc at *
  generalize wb.heap.size = Q at *
  go_wp2_with fail
  refine (AT.out a3 _ HWA.out).mono ?_
  rintro e wd ⟨rfl, hbd⟩
  replace t0 := ck hbd t0
  replace t1 := ck hbd t1
  replace X0 := ck hbd X0
  replace X1 := ck hbd X1
  have HWD := hidp (bstep HWA.out hbd)
  have HR2 := hidp (HR.out.below hbd)
  clear hbd HWA HR
  go_wp2_with fail
  refine (AX.out g cp a3 _ HL.out HR2.out).mono ?_
  rintro e we ⟨rfl, hbe⟩
  replace t0 := ck hbe t0
  replace t1 := ck hbe t1
  replace X0 := ck hbe X0
  replace X1 := ck hbe X1
  have HWE := hidp (bstep HWD.out hbe)
  have HR3 := hidp (HR2.out.below hbe)
  clear hbe HWD HR2
  go_wp2_with fail
  refine (AT.out a1 _ HWE.out).mono ?_
  rintro e wf ⟨rfl, hbf⟩
  replace X0 := ck hbf X0
  replace X1 := ck hbf X1
  have HWF := hidp (bstep HWE.out hbf)
  have HR4 := hidp (HR3.out.below hbf)
  clear hbf HWE HR3 t0 t1
  go_wp2_with fail
  refine (AX.out g cp a1 _ HL.out HR4.out).mono ?_
  rintro e wg ⟨rfl, hbg⟩
  have HWG := hidp (bstep HWF.out hbg)
  clear hbg HWF HR4 X0 X1
  have F1 : tmin T (plc m a3) n0 ≤ tmin (tput T (plc m a1) a2) (plc m a3) n0 := tmin_mono _ _ _ _ (fun i _ => by unfold tput; split <;> omega)
  have F2 : tmin (tput T (plc m a1) a2) (plc m a3) n0 ≤ tmin T (plc m a3) n0 + a2 := tmin_shift _ _ _ _ x1 n0 (fun i hi => by unfold tput; split <;> omega)
  have F3 : tmin (tput T (plc m a1) a2) (plc m a1) n0 = tmin T (plc m a1) n0 + a2 := tmin_add _ _ _ _ n0 (fun i hi => ⟨by unfold tput; rw [if_pos rfl], HL.out i hi, (TC.out i _ hi (PL.out a1 i)).2⟩) OK.out.n1
  have G1 := tmin_bd T (plc m a3) n0 (fun i hi => (TC.out i _ hi (PL.out a3 i)).1)
  have G2 := tmin_bd T (plc m a1) n0 (fun i hi => (TC.out i _ hi (PL.out a1 i)).1)
  clear AT AX PC OK TC PL HL L1
  generalize tmin T (plc m a3) n0 = ra at *
  generalize tmin (tput T (plc m a1) a2) (plc m a3) n0 = rb at *
  generalize tmin T (plc m a1) n0 = rc at *
  generalize tmin (tput T (plc m a1) a2) (plc m a1) n0 = rd at *
  have F4 : (rd == rc + a2) = true := by rw [F3]; simp
  clear F3
  go_wp2_with fail
  go_ret
  exact ⟨rfl, HWG.out⟩
end Go.Proofs.Ytpghnbpoodcglaa.tableMore
