/- The walk of BloomGrows: the law returns true at all inputs, and no old memory changes. -/
import Derived.Test.YtpghnbpoodcglaaFiltOpen
import Derived.Deep.DeepCutAuto
namespace Go.Proofs.Ytpghnbpoodcglaa.bloomGrows
open Go.ChangeShapes Go.WideShapes Go.ChangeAt Go.RowKit
open Go.Proofs.Ytpghnbpoodcglaa
set_option maxRecDepth 20000

theorem all_true (P : Nat → Nat) (f : Nat → Bool) (k : Nat) (h : ∀ i, i < k → f (P i) = true) : allP P f k = true := decide_eq_true h
theorem lit_all : allP (plc 1 5) (gb [true]) 2 = true := all_true _ _ _ (fun i _ => by
  have := plc_lt 1 5 i (by omega)
  generalize plc 1 5 i = x at *
  match x, this with
  | 0, _ => rfl)
theorem all_mono (sz : Nat) (h1 : 1 ≤ sz) (key : Int) (f g : Nat → Bool) (k : Nat) (h : ∀ j, f j = true → g j = true) (ha : allP (plc sz key) f k = true) : allP (plc sz key) (gb (tab g sz)) k = true := all_true _ _ _ (fun i hi => by
  rw [tab_gb _ _ _ (plc_lt sz _ i h1)]
  exact h _ (of_decide_eq_true ha i hi))
set_option linter.unusedVariables false
set_option maxHeartbeats 40000000 in
theorem core (n y : Nat) (a : Option Addr) (c : Nat) (bs : List Bool) (sz2 wy2 : Int) (a2 : Option Addr) (n2 c2 : Nat) (bs2 : List Bool) (k o : Int) (w : World) (w0 : BoolsAt w a n c bs) (w1 : BoolsAt w a2 n2 c2 bs2)
    (hv : List Bool → Bool) (pb jb : List Bool)
    (hL : ∀ b W, BoolsAt W (some ⟨b, 0, none⟩) 1 1 [true] → Calls Try.prog 20 #[.agg #[.int .i64 1, .int .i64 2, .slice (some ⟨b, 0, none⟩) 1 1], .int .i64 5] W fun e w' => e = .returned (.tuple #[.bool true, .int .i64 0]) ∧ Below W.heap.size W w')
    (hH : ∀ a c bs W, BoolsAt W a n c bs → Calls Try.prog 20 #[.agg #[.int .i64 (n : Nat), .int .i64 (y : Nat), .slice a n c], .int .i64 o] W fun e w' => e = .returned (.tuple #[.bool (hv bs), .int .i64 0]) ∧ Below W.heap.size W w')
    (hP : ∀ W, BoolsAt W a n c bs → Calls Try.prog 23 #[.agg #[.int .i64 (n : Nat), .int .i64 (y : Nat), .slice a n c], .int .i64 k] W fun e w' => ∃ g cv, e = .returned (.tuple #[.agg #[.int .i64 (n : Nat), .int .i64 (y : Nat), .slice (some ⟨g, 0, none⟩) n cv], .int .i64 0]) ∧ BoolsAt w' (some ⟨g, 0, none⟩) n cv pb ∧ Below W.heap.size W w')
    (hJ : (sz2 = n ∧ wy2 = y ∧ n = n2 ∧ ∀ W, BoolsAt W a n c bs → BoolsAt W a2 n c2 bs2 → Calls Try.prog 26 #[.agg #[.int .i64 (n : Nat), .int .i64 (y : Nat), .slice a n c], .agg #[.int .i64 (n : Nat), .int .i64 (y : Nat), .slice a2 n c2]] W fun e w' => ∃ g cv, e = .returned (.tuple #[.agg #[.int .i64 (n : Nat), .int .i64 (y : Nat), .slice (some ⟨g, 0, none⟩) n cv], .int .i64 0]) ∧ BoolsAt w' (some ⟨g, 0, none⟩) n cv jb ∧ Below W.heap.size W w')
      ∨ ∃ E : Int, ¬ E = 0 ∧ ∀ W, Calls Try.prog 26 #[.agg #[.int .i64 (n : Nat), .int .i64 (y : Nat), .slice a n c], .agg #[.int .i64 sz2, .int .i64 wy2, .slice a2 n2 c2]] W fun e w' => e = .returned (.tuple #[.agg #[.int .i64 0, .int .i64 0, .slice none 0 0], .int .i64 E]) ∧ Below W.heap.size W w')
    (m1 : hv bs = true → hv pb = true) (m2 : hv bs = true → hv jb = true) (m3 : hv bs2 = true → hv jb = true) :
    Calls Try.prog 6 #[.agg #[.int .i64 (n : Nat), .int .i64 (y : Nat), .slice a n c], .agg #[.int .i64 sz2, .int .i64 wy2, .slice a2 n2 c2], .int .i64 k, .int .i64 o] w fun e w' => e = .returned (.bool true) ∧ Below w.heap.size w w' := by
  have H := hidp w0
  have H2 := hidp w1
  have CL := hidp hL
  have CHF := hidp (fun W h => hH a c bs W h)
  have CHX := hidp (fun cv g W h => hH (some ⟨g, 0, none⟩) cv pb W h)
  have CHJ := hidp (fun cv g W h => hH (some ⟨g, 0, none⟩) cv jb W h)
  have CHG := hidp (fun W (h : BoolsAt W a2 n c2 bs2) => hH a2 c2 bs2 W h)
  have CP := hidp hP
  clear hL hH hP w0 w1
  generalize hv bs = vA at *
  generalize hv pb = vB at *
  generalize hv jb = vD at *
  generalize hv bs2 = vC at *
  have M1 := hidp m1
  have M2 := hidp m2
  have M3 := hidp m3
  clear m1 m2 m3
  have HJ := hidp hJ
  clear hJ
  go_enter Try.func6, Try.ntmps6
  go_wp2_with fail
  have hb0 : Below w.heap.size w ((w.alloc (.cells #[.int .i64 (n : Nat), .int .i64 (y : Nat), .slice a n c] 35)).alloc (.cells #[.int .i64 sz2, .int .i64 wy2, .slice a2 n2 c2] 35)) := bal (bal (Below.refl _ _) _) _
  have q0 : ((w.alloc (.cells #[.int .i64 (n : Nat), .int .i64 (y : Nat), .slice a n c] 35)).alloc (.cells #[.int .i64 sz2, .int .i64 wy2, .slice a2 n2 c2] 35)).cell? ⟨w.heap.size, 0, none⟩ = some (.int .i64 (n : Nat)) := by go_simp
  have q1 : ((w.alloc (.cells #[.int .i64 (n : Nat), .int .i64 (y : Nat), .slice a n c] 35)).alloc (.cells #[.int .i64 sz2, .int .i64 wy2, .slice a2 n2 c2] 35)).cell? ⟨w.heap.size, 1, none⟩ = some (.int .i64 (y : Nat)) := by go_simp
  have q2 : ((w.alloc (.cells #[.int .i64 (n : Nat), .int .i64 (y : Nat), .slice a n c] 35)).alloc (.cells #[.int .i64 sz2, .int .i64 wy2, .slice a2 n2 c2] 35)).cell? ⟨w.heap.size, 2, none⟩ = some (.slice a n c) := by go_simp
  have p0 : ((w.alloc (.cells #[.int .i64 (n : Nat), .int .i64 (y : Nat), .slice a n c] 35)).alloc (.cells #[.int .i64 sz2, .int .i64 wy2, .slice a2 n2 c2] 35)).cell? ⟨w.heap.size + 1, 0, none⟩ = some (.int .i64 sz2) := by go_simp
  have p1 : ((w.alloc (.cells #[.int .i64 (n : Nat), .int .i64 (y : Nat), .slice a n c] 35)).alloc (.cells #[.int .i64 sz2, .int .i64 wy2, .slice a2 n2 c2] 35)).cell? ⟨w.heap.size + 1, 1, none⟩ = some (.int .i64 wy2) := by go_simp
  have p2 : ((w.alloc (.cells #[.int .i64 (n : Nat), .int .i64 (y : Nat), .slice a n c] 35)).alloc (.cells #[.int .i64 sz2, .int .i64 wy2, .slice a2 n2 c2] 35)).cell? ⟨w.heap.size + 1, 2, none⟩ = some (.slice a2 n2 c2) := by go_simp
  have HBS := hidp (H.out.below hb0)
  have HBS2 := hidp (H2.out.below hb0)
  refine (CL.out _ _ ?s0).mono ?_
  case s0 => exact bools_lit [true] (by simp) (by rfl) (by rfl) (by omega)
  rintro e wa ⟨rfl, hba⟩
  have hba2 := bstep (bal (Below.refl _ _) _) hba
  have hwa := bstep hb0 hba2
  replace q0 := ck hba2 q0
  replace q1 := ck hba2 q1
  replace q2 := ck hba2 q2
  replace p0 := ck hba2 p0
  replace p1 := ck hba2 p1
  replace p2 := ck hba2 p2
  have HA := hidp (HBS.out.below hba2)
  have HA2 := hidp (HBS2.out.below hba2)
  clear HBS HBS2 hb0 hba hba2 H H2
  go_wp2_with fail
  refine (CP.out _ HA.out).mono ?_
  rintro e wb ⟨g, cv, rfl, hbo, hbb⟩
  have hbx : Below wa.heap.size wa (wb.alloc (.cells #[.int .i64 (n : Nat), .int .i64 (y : Nat), .slice (some ⟨g, 0, none⟩) n cv] 35)) := bal hbb _
  have HX := hidp (hbo.alloc (.cells #[.int .i64 (n : Nat), .int .i64 (y : Nat), .slice (some ⟨g, 0, none⟩) n cv] 35))
  have m0 : (wb.alloc (.cells #[.int .i64 (n : Nat), .int .i64 (y : Nat), .slice (some ⟨g, 0, none⟩) n cv] 35)).cell? ⟨wb.heap.size, 0, none⟩ = some (.int .i64 (n : Nat)) := by go_simp
  have m1 : (wb.alloc (.cells #[.int .i64 (n : Nat), .int .i64 (y : Nat), .slice (some ⟨g, 0, none⟩) n cv] 35)).cell? ⟨wb.heap.size, 1, none⟩ = some (.int .i64 (y : Nat)) := by go_simp
  have m2 : (wb.alloc (.cells #[.int .i64 (n : Nat), .int .i64 (y : Nat), .slice (some ⟨g, 0, none⟩) n cv] 35)).cell? ⟨wb.heap.size, 2, none⟩ = some (.slice (some ⟨g, 0, none⟩) n cv) := by go_simp
  replace q0 := ck hbx q0
  replace q1 := ck hbx q1
  replace q2 := ck hbx q2
  replace p0 := ck hbx p0
  replace p1 := ck hbx p1
  replace p2 := ck hbx p2
  have hwx := bstep hwa hbx
  replace HA := hidp (HA.out.below hbx)
  replace HA2 := hidp (HA2.out.below hbx)
  clear hbo hbb hbx hwa CP
  go_upto_region 7 with fail
  generalize (wb.alloc (.cells #[.int .i64 (n : Nat), .int .i64 (y : Nat), .slice (some ⟨g, 0, none⟩) n cv] 35)) = wx at *
  generalize wb.heap.size = Q at *
  go_wp2_with fail
  refine (CHF.out _ HA.out).mono ?_
  rintro e wc ⟨rfl, hbc⟩
  replace q0 := ck hbc q0
  replace q1 := ck hbc q1
  replace q2 := ck hbc q2
  replace p0 := ck hbc p0
  replace p1 := ck hbc p1
  replace p2 := ck hbc p2
  replace m0 := ck hbc m0
  replace m1 := ck hbc m1
  replace m2 := ck hbc m2
  have hwc := bstep hwx hbc
  replace HX := hidp (HX.out.below hbc)
  replace HA := hidp (HA.out.below hbc)
  replace HA2 := hidp (HA2.out.below hbc)
  clear hwx hbc
  go_wp2_with fail
  refine (CHX.out _ _ _ HX.out).mono ?_
  rintro e wd ⟨rfl, hbd⟩
  replace q0 := ck hbd q0
  replace q1 := ck hbd q1
  replace q2 := ck hbd q2
  replace p0 := ck hbd p0
  replace p1 := ck hbd p1
  replace p2 := ck hbd p2
  have hwd := bstep hwc hbd
  replace HA := hidp (HA.out.below hbd)
  replace HA2 := hidp (HA2.out.below hbd)
  clear hwc hbd m0 m1 m2 HX CHF CHX CL
  have hAB : (vA && !vB) = false := by
    cases hA : vA with
    | false => rfl
    | true => rw [M1.out hA]; rfl
  have hOK : (vA = true ∧ vB = true) ∨ vA = false := by
    cases hA : vA with
    | false => exact .inr rfl
    | true => exact .inl ⟨rfl, M1.out hA⟩
  clear hAB
  rcases HJ.out with ⟨rfl, rfl, rfl, CJ0⟩ | ⟨E, hE, CJ0⟩
  · have CJ := hidp CJ0
    clear CJ0 HJ
    have FIN : ∀ K : Prop, K → K := fun _ h => h
    clear FIN
    have hD : (!vA || vD) = true ∧ (!vC || vD) = true := by
      constructor
      · cases hA : vA with
        | false => rfl
        | true => rw [M2.out hA]; rfl
      · cases hC : vC with
        | false => rfl
        | true => rw [M3.out hC]; rfl
    have HD := hidp hD
    clear hD M1 M2 M3
    rcases hOK with ⟨rfl, rfl⟩ | rfl
    · go_wp2_with fail
      refine (CJ.out _ HA.out HA2.out).mono ?_
      rintro e wf ⟨g', cv', rfl, hbo, hbf⟩
      have hbx : Below wd.heap.size wd (wf.alloc (.cells #[.int .i64 (n : Nat), .int .i64 (y : Nat), .slice (some ⟨g', 0, none⟩) n cv'] 35)) := bal hbf _
      have HJJ := hidp (hbo.alloc (.cells #[.int .i64 (n : Nat), .int .i64 (y : Nat), .slice (some ⟨g', 0, none⟩) n cv'] 35))
      have m0 : (wf.alloc (.cells #[.int .i64 (n : Nat), .int .i64 (y : Nat), .slice (some ⟨g', 0, none⟩) n cv'] 35)).cell? ⟨wf.heap.size, 0, none⟩ = some (.int .i64 (n : Nat)) := by go_simp
      have m1 : (wf.alloc (.cells #[.int .i64 (n : Nat), .int .i64 (y : Nat), .slice (some ⟨g', 0, none⟩) n cv'] 35)).cell? ⟨wf.heap.size, 1, none⟩ = some (.int .i64 (y : Nat)) := by go_simp
      have m2 : (wf.alloc (.cells #[.int .i64 (n : Nat), .int .i64 (y : Nat), .slice (some ⟨g', 0, none⟩) n cv'] 35)).cell? ⟨wf.heap.size, 2, none⟩ = some (.slice (some ⟨g', 0, none⟩) n cv') := by go_simp
      replace p0 := ck hbx p0
      replace p1 := ck hbx p1
      replace p2 := ck hbx p2
      have hwx := bstep hwd hbx
      replace HA2 := hidp (HA2.out.below hbx)
      clear hbo hbf hbx hwd q0 q1 q2
      go_upto_region 14 with fail
      generalize (wf.alloc (.cells #[.int .i64 (n : Nat), .int .i64 (y : Nat), .slice (some ⟨g', 0, none⟩) n cv'] 35)) = wx2 at *
      generalize wf.heap.size = Q2 at *
      go_wp2_with fail
      refine (CHG.out _ HA2.out).mono ?_
      rintro e wg ⟨rfl, hbg⟩
      replace m0 := ck hbg m0
      replace m1 := ck hbg m1
      replace m2 := ck hbg m2
      have hwg := bstep hwx hbg
      replace HJJ := hidp (HJJ.out.below hbg)
      clear hwx hbg p0 p1 p2 HA2 HA
      go_wp2_with fail
      refine (CHJ.out _ _ _ HJJ.out).mono ?_
      rintro e wh ⟨rfl, hbh⟩
      have hwh := bstep hwg hbh
      clear hbh hwg m0 m1 m2 HJJ
      obtain rfl : vD = true := by have := HD.out.1; simpa using this
      cases vC with
      | true =>
        go_wp2_with fail
        go_ret
        exact ⟨rfl, hwh⟩
      | false =>
        go_wp2_with fail
        go_ret
        exact ⟨rfl, hwh⟩
    · go_wp2_with fail
      refine (CJ.out _ HA.out HA2.out).mono ?_
      rintro e wf ⟨g', cv', rfl, hbo, hbf⟩
      have hbx : Below wd.heap.size wd (wf.alloc (.cells #[.int .i64 (n : Nat), .int .i64 (y : Nat), .slice (some ⟨g', 0, none⟩) n cv'] 35)) := bal hbf _
      have HJJ := hidp (hbo.alloc (.cells #[.int .i64 (n : Nat), .int .i64 (y : Nat), .slice (some ⟨g', 0, none⟩) n cv'] 35))
      have m0 : (wf.alloc (.cells #[.int .i64 (n : Nat), .int .i64 (y : Nat), .slice (some ⟨g', 0, none⟩) n cv'] 35)).cell? ⟨wf.heap.size, 0, none⟩ = some (.int .i64 (n : Nat)) := by go_simp
      have m1 : (wf.alloc (.cells #[.int .i64 (n : Nat), .int .i64 (y : Nat), .slice (some ⟨g', 0, none⟩) n cv'] 35)).cell? ⟨wf.heap.size, 1, none⟩ = some (.int .i64 (y : Nat)) := by go_simp
      have m2 : (wf.alloc (.cells #[.int .i64 (n : Nat), .int .i64 (y : Nat), .slice (some ⟨g', 0, none⟩) n cv'] 35)).cell? ⟨wf.heap.size, 2, none⟩ = some (.slice (some ⟨g', 0, none⟩) n cv') := by go_simp
      replace p0 := ck hbx p0
      replace p1 := ck hbx p1
      replace p2 := ck hbx p2
      have hwx := bstep hwd hbx
      replace HA2 := hidp (HA2.out.below hbx)
      clear hbo hbf hbx hwd q0 q1 q2
      go_upto_region 14 with fail
      generalize (wf.alloc (.cells #[.int .i64 (n : Nat), .int .i64 (y : Nat), .slice (some ⟨g', 0, none⟩) n cv'] 35)) = wx2 at *
      generalize wf.heap.size = Q2 at *
      go_wp2_with fail
      refine (CHG.out _ HA2.out).mono ?_
      rintro e wg ⟨rfl, hbg⟩
      replace m0 := ck hbg m0
      replace m1 := ck hbg m1
      replace m2 := ck hbg m2
      have hwg := bstep hwx hbg
      replace HJJ := hidp (HJJ.out.below hbg)
      clear hwx hbg p0 p1 p2 HA2 HA
      go_wp2_with fail
      refine (CHJ.out _ _ _ HJJ.out).mono ?_
      rintro e wh ⟨rfl, hbh⟩
      have hwh := bstep hwg hbh
      clear hbh hwg m0 m1 m2 HJJ
      cases vC with
      | true =>
        obtain rfl : vD = true := by have := HD.out.2; simpa using this
        go_wp2_with fail
        go_ret
        exact ⟨rfl, hwh⟩
      | false =>
        go_wp2_with fail
        go_ret
        exact ⟨rfl, hwh⟩
  · have CJ := hidp CJ0
    have hE1 : (E == 0) = false := by rw [beq_eq_false_iff_ne]; exact hE
    clear CJ0 HJ hE M1 M2 M3
    rcases hOK with ⟨rfl, rfl⟩ | rfl
    · go_wp2_with fail
      refine (CJ.out _).mono ?_
      rintro e wf ⟨rfl, hbf⟩
      have hwf := bstep hwd hbf
      go_wp2_with fail
      go_ret
      exact ⟨rfl, bal hwf _⟩
    · go_wp2_with fail
      refine (CJ.out _).mono ?_
      rintro e wf ⟨rfl, hbf⟩
      have hwf := bstep hwd hbf
      go_wp2_with fail
      go_ret
      exact ⟨rfl, bal hwf _⟩
theorem walk (sz wy : Int) (a : Option Addr) (n c : Nat) (bs : List Bool) (sz2 wy2 : Int) (a2 : Option Addr) (n2 c2 : Nat) (bs2 : List Bool) (k : Int) (o : Int) (w : World)
    (w0 : BoolsAt w a n c bs) (w1 : BoolsAt w a2 n2 c2 bs2) (w2 : (Lit.int .i64 k).wf = true) (w3 : (Lit.int .i64 o).wf = true) :
    Calls Try.prog 6 #[filtV sz wy a n c, filtV sz2 wy2 a2 n2 c2, .int .i64 k, .int .i64 o] w fun e w' => e = .returned (.bool true) ∧ Below w.heap.size w w' := by
  by_cases hE : fchk sz wy n = 0
  · obtain ⟨s1, s2, y1, y2, e1⟩ := fchk_zero sz wy n hE
    subst e1
    obtain ⟨y, rfl⟩ := Int.eq_ofNat_of_zero_le (show 0 ≤ wy by omega)
    have s1' : 1 ≤ n := by omega
    have s2' : n ≤ 256 := by omega
    have y1' : 1 ≤ y := by omega
    have y2' : y ≤ 8 := by omega
    refine core n y a c bs sz2 wy2 a2 n2 c2 bs2 k o w w0 w1 (fun l => allP (plc n o) (gb l) y) (tab (fun j => gb bs j || hitP (plc n k) y j) n) (tab (fun j => gb bs j || gb bs2 j) n) ?_ ?_ ?_ ?_ ?_ ?_ ?_
    · intro b W h
      have := bhas_c 1 2 _ 1 [true] 5 W h (by omega) (by omega) (by omega) (by omega)
      rw [lit_all] at this
      exact this
    · intro a c bs W h
      exact bhas_c n y a c bs o W h s1' s2' y1' y2'
    · intro W h
      refine (bput_c n y a c bs k W h s1' s2' y1' y2').mono ?_
      rintro e w' ⟨g, cv, rfl, hv, hb⟩
      obtain ⟨_, _, hve, hbo⟩ := owns_bools hv
      simp only [Value.slice.injEq] at hve
      obtain ⟨rfl, _, rfl⟩ := hve
      exact ⟨g, cv, rfl, hbo, hb⟩
    · by_cases F2 : fchk sz2 wy2 n2 = 0
      · obtain ⟨t1, t2, t3, t4, e2⟩ := fchk_zero sz2 wy2 n2 F2
        by_cases eS : (n : Int) = sz2
        · by_cases eW : (y : Int) = wy2
          · have en : n = n2 := by omega
            subst en
            refine .inl ⟨eS.symm, eW.symm, rfl, fun W h h' => ?_⟩
            refine (bjoin_c n y a a2 c c2 bs bs2 W h h' s1' s2' y1' y2').mono ?_
            rintro e w' ⟨g, cv, rfl, hv, hb⟩
            obtain ⟨_, _, hve, hbo⟩ := owns_bools hv
            simp only [Value.slice.injEq] at hve
            obtain ⟨rfl, _, rfl⟩ := hve
            exact ⟨g, cv, rfl, hbo, hb⟩
          · exact .inr ⟨7, by omega, fun W => bjoin_bad4 n y sz2 wy2 a a2 n c n2 c2 W hE F2 eS eW⟩
        · exact .inr ⟨7, by omega, fun W => bjoin_bad3 n y sz2 wy2 a a2 n c n2 c2 W hE F2 eS⟩
      · exact .inr ⟨_, F2, fun W => bjoin_bad2 n y sz2 wy2 a a2 n c n2 c2 W hE F2⟩
    · exact fun h => all_mono n s1' o (gb bs) _ y (fun j hj => by rw [hj]; rfl) h
    · exact fun h => all_mono n s1' o (gb bs) _ y (fun j hj => by rw [hj]; rfl) h
    · exact fun h => all_mono n s1' o (gb bs2) _ y (fun j hj => by rw [hj, Bool.or_true]) h
  · have CP := hidp (fun W => bput_bad sz wy a n c k W hE)
    have CL := hidp (fun b W (h : BoolsAt W (some ⟨b, 0, none⟩) 1 1 [true]) => by
      have := bhas_c 1 2 _ 1 [true] 5 W h (by omega) (by omega) (by omega) (by omega)
      rw [lit_all] at this
      exact this)
    have hE1 : (fchk sz wy n == 0) = false := by rw [beq_eq_false_iff_ne]; exact hE
    generalize fchk sz wy n = E at *
    unfold filtV at *
    clear hE w0 w1 w2 w3
    go_enter Try.func6, Try.ntmps6
    go_wp2_with fail
    have hb0 : Below w.heap.size w ((w.alloc (.cells #[.int .i64 sz, .int .i64 wy, .slice a n c] 35)).alloc (.cells #[.int .i64 sz2, .int .i64 wy2, .slice a2 n2 c2] 35)) := bal (bal (Below.refl _ _) _) _
    have q0 : ((w.alloc (.cells #[.int .i64 sz, .int .i64 wy, .slice a n c] 35)).alloc (.cells #[.int .i64 sz2, .int .i64 wy2, .slice a2 n2 c2] 35)).cell? ⟨w.heap.size, 0, none⟩ = some (.int .i64 sz) := by go_simp
    have q1 : ((w.alloc (.cells #[.int .i64 sz, .int .i64 wy, .slice a n c] 35)).alloc (.cells #[.int .i64 sz2, .int .i64 wy2, .slice a2 n2 c2] 35)).cell? ⟨w.heap.size, 1, none⟩ = some (.int .i64 wy) := by go_simp
    have q2 : ((w.alloc (.cells #[.int .i64 sz, .int .i64 wy, .slice a n c] 35)).alloc (.cells #[.int .i64 sz2, .int .i64 wy2, .slice a2 n2 c2] 35)).cell? ⟨w.heap.size, 2, none⟩ = some (.slice a n c) := by go_simp
    refine (CL.out _ _ ?s0).mono ?_
    case s0 => exact bools_lit [true] (by simp) (by rfl) (by rfl) (by omega)
    rintro e wa ⟨rfl, hba⟩
    have hba2 := bstep (bal (Below.refl _ _) _) hba
    have hwa := bstep hb0 hba2
    replace q0 := ck hba2 q0
    replace q1 := ck hba2 q1
    replace q2 := ck hba2 q2
    clear hb0 hba hba2
    go_wp2_with fail
    refine (CP.out _).mono ?_
    rintro e wb ⟨rfl, hbb⟩
    have hwb := bstep hwa hbb
    go_wp2_with fail
    go_ret
    exact ⟨rfl, bal hwb _⟩
end Go.Proofs.Ytpghnbpoodcglaa.bloomGrows
