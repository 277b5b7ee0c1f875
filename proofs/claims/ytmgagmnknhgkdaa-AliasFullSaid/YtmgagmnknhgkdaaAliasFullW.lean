/- The walk of AliasFull: the law returns true at all inputs, and no old memory changes. -/
import Derived.Test.YtmgagmnknhgkdaaAliasUse
import Derived.Test.YtmgagmnknhgkdaaEqI
namespace Go.Proofs.Ytmgagmnknhgkdaa.aliasFull
open Go.ChangeShapes Go.WideShapes Go.ChangeAt Go.RowKit
open Go.Proofs.Ytmgagmnknhgkdaa
set_option maxRecDepth 20000

theorem row2 {f : Nat → Int} {x y : Int} (h0 : f 0 = x) (h1 : f 1 = y) : row f 2 = [x, y].map (Value.int .i64) := by
  unfold row tab
  simp [List.range_succ, h0, h1]
set_option linter.unusedVariables false
set_option maxHeartbeats 4000000 in
theorem walk (a0 : Option Addr) (len0 cap0 : Nat) (z0 : List Int) (w : World) (w0 : IntsAt w a0 len0 cap0 z0) :
    Calls Try.prog 3 #[.slice a0 len0 cap0] w fun e w' => e = .returned (.bool true) ∧ Below w.heap.size w w' := by
  have mm := w0.max
  have ee := w0.le
  have H := hidp w0
  clear w0
  go_enter Try.func3, Try.ntmps3
  go_wp2_with fail
  refine (make_c _ 2 2 [2, 2] _ ?s0 (by decide)).mono ?_
  case s0 => exact ints_lit [2, 2] (by simp) (by rfl) (by rfl) (by simp) (by omega)
  rintro e wa ⟨g1, g2, own, rest, rfl, hF, hS, o1, o2, hba⟩
  rw [show sumK [2, 2] 2 = 4 from by decide] at hS ⊢
  have hS2 := hS (fun i hi => by
    have : i = 0 ∨ i = 1 := by omega
    rcases this with rfl | rfl <;> decide)
  have e0 := hS2 0 (by omega)
  have e1 := hS2 1 (by omega)
  rw [row2 e0.1 e1.1] at o1
  rw [row2 (x := 0) (y := 1) (by rw [e0.2]; rfl) (by rw [e1.2]; rfl)] at o2
  have hwa : Below w.heap.size w wa := bstep (bal (Below.refl _ _) _) hba
  obtain ⟨_, _, hve, h1⟩ := owns_ints o1 (by simp)
  simp only [Value.slice.injEq] at hve
  obtain ⟨rfl, _, rfl⟩ := hve
  obtain ⟨_, _, hve, h2⟩ := owns_ints o2 (by simp)
  simp only [Value.slice.injEq] at hve
  obtain ⟨rfl, _, rfl⟩ := hve
  have H1 := hidp h1
  have H2 := hidp h2
  clear hF hS o1 o2 hba hS2 e0 e1 h1 h2
  go_wp2_with fail
  refine (equali_c _ _ 2 2 _ _ [4, 4] [4, 4] _ ((H1.out.alloc _).alloc _) ?s3).mono ?_
  case s3 => exact ints_lit [4, 4] (by simp) (by rfl) (by rfl) (by simp) (by omega)
  rintro e wb ⟨rfl, hbb⟩
  rw [decide_eq_true rfl]
  have c2 : wb.cell? ⟨wa.heap.size, 2, none⟩ = some (.slice (some ⟨g2, 0, none⟩) 2 2) := ck hbb (by go_simp)
  have hwb : Below w.heap.size w wb := bstep (bal (bal hwa _) _) hbb
  have H3 := hidp (H2.out.below (bstep (bal (bal (Below.refl _ _) _) _) hbb))
  clear hbb
  go_wp2_with fail
  refine (equali_c _ _ 2 2 _ _ [0, 1] [0, 1] _ (H3.out.alloc _) ?s4).mono ?_
  case s4 => exact ints_lit [0, 1] (by simp) (by rfl) (by rfl) (by simp) (by omega)
  rintro e wc ⟨rfl, hbc⟩
  rw [decide_eq_true rfl]
  have hwc : Below w.heap.size w wc := bstep (bal hwb _) hbc
  clear hbc H1 H2 H3 c2 hwa hwb
  by_cases hE : wtsE z0 len0 = 0
  · obtain ⟨hn40, hok, hpos⟩ := wtsE_zero z0 len0 hE
    obtain ⟨s1, s2⟩ := sumK_ok z0 len0 hok
    have hn1 : 1 ≤ len0 := by
      rcases Nat.eq_zero_or_pos len0 with e | e
      · subst e; simp [sumK] at hpos
      · exact e
    have CM := hidp (fun W h => make_c a0 len0 cap0 z0 W h hE)
    have BD := hidp (fun k (hk : k < len0) => prod_bd (gi z0 k) len0 hn40 (okN_at z0 len0 hok k hk).1 (okN_at z0 len0 hok k hk).2)
    have CS := hidp (fun W h => isum_c a0 len0 cap0 z0 W h (fun k hk => by have := sumK_ok z0 k (okN_down _ len0 k hok hk); omega))
    generalize sumK z0 len0 = A at *
    clear hE hok
    go_wp2_with fail
    refine (CM.out _ (H.out.below hwc)).mono ?_
    rintro e wd ⟨g1', g2', own', rest', rfl, hF', -, o1', o2', hbd⟩
    have hwd : Below w.heap.size w wd := bstep hwc hbd
    have hA := AliasAt.of hF' o1' o2' ⟨hn1, hn40⟩ ⟨by omega, by omega⟩
    have HA := hidp (hA.below ((Below.refl _ _).alloc (Nat.le_refl _) (.cells #[.int .i64 A, .slice (some ⟨g1', 0, none⟩) len0 len0, .slice (some ⟨g2', 0, none⟩) len0 len0] 24)))
    have HF := hidp hF'
    have hwe : Below w.heap.size w (wd.alloc (.cells #[.int .i64 A, .slice (some ⟨g1', 0, none⟩) len0 len0, .slice (some ⟨g2', 0, none⟩) len0 len0] 24)) := bal hwd _
    have c0 : (wd.alloc (.cells #[.int .i64 A, .slice (some ⟨g1', 0, none⟩) len0 len0, .slice (some ⟨g2', 0, none⟩) len0 len0] 24)).cell? ⟨wd.heap.size, 0, none⟩ = some (.int .i64 A) := by go_simp
    have c1 : (wd.alloc (.cells #[.int .i64 A, .slice (some ⟨g1', 0, none⟩) len0 len0, .slice (some ⟨g2', 0, none⟩) len0 len0] 24)).cell? ⟨wd.heap.size, 1, none⟩ = some (.slice (some ⟨g1', 0, none⟩) len0 len0) := by go_simp
    have c2 : (wd.alloc (.cells #[.int .i64 A, .slice (some ⟨g1', 0, none⟩) len0 len0, .slice (some ⟨g2', 0, none⟩) len0 len0] 24)).cell? ⟨wd.heap.size, 2, none⟩ = some (.slice (some ⟨g2', 0, none⟩) len0 len0) := by go_simp
    clear hA hF' o1' o2' hbd CM hwc hwd
    go_upto_region 7 with fail
    generalize wd.alloc (.cells #[.int .i64 A, .slice (some ⟨g1', 0, none⟩) len0 len0, .slice (some ⟨g2', 0, none⟩) len0 len0] 24) = we at *
    generalize wd.heap.size = P at *
    have HWE := hidp hwe
    have C0 := hidp c0
    have C1 := hidp c1
    have C2 := hidp c2
    have hne : ((len0 : Int) != (len0 : Int)) = false := by simp
    have hneA : (A != A) = false := by simp
    have HQ := hidp (fun q => CS.out (we.drewN q) (H.out.below (below_drewN HWE.out q)))
    clear hwe
    go_wp2_with fail
    go_quiet ((go_at_call 17; exact Calls.quiet_of_same ((HQ.out _).mono fun _ _ h => ⟨h.1, h.2.symm⟩)))
    obtain ⟨bl, ol, hz, hx⟩ := (H.out.below HWE.out).split
    obtain rfl : a0 = some ⟨bl, ol, none⟩ := hz.resolve_left (by omega)
    have HX := hidp hx
    clear hz hx hne hneA c0 c1 c2 HQ CS
    go_wp2_with fail
    go_loopw [63] (fun i wr => ∃ k : Nat, k ≤ len0 ∧ i = .int .i64 k ∧ Below we.heap.size we wr) (fun i _ => len0 - (intOf i).toNat)
    case atStart => exact ⟨0, by omega, rfl, below_drewN (Below.refl _ _) _⟩
    case round =>
      obtain ⟨k, hk, rfl, hbl⟩ := hrel
      by_cases hlt : k < len0
      · have q1 := carry_cell (HX.out k hlt) hbl
        have c0 := ck hbl C0.out
        have c1 := ck hbl C1.out
        have c2 := ck hbl C2.out
        have hA := HA.out.below hbl
        have y1 := hA.y1 k hlt
        have y2 := hA.y2 k hlt
        obtain ⟨d1, d2⟩ := hA.bd k hlt
        have d3 := hA.rt k hlt
        have d4 : ¬ own' k < 0 := by omega
        have d5 : ¬ A < own' k := by omega
        have d6 : ((rest' k : Nat) : Int) < (len0 : Int) := by omega
        have d7 : (k : Int) < (len0 : Int) := by omega
        obtain ⟨b1, b2⟩ := BD.out k hlt
        have hfl := HF.out.fl k hlt
        have hlw := HF.out.lw k hlt
        unfold ws at hlw
        clear hA
        by_cases e : own' k = A
        · have hwA : ¬ gi z0 k * (len0 : Int) < A := fun h => by have := (hlw h).1; omega
          have hwF : (gi z0 k * (len0 : Int) < A) = False := eq_false hwA
          rw [e] at y1
          rw [hfl.1 e] at y2
          clear e hfl hlw d1 d2 d3 d4 d5 d6
          have hAA : ¬ A < 0 := by omega
          go_wp2_with fail
          go_quiet (fail)
          have q1' : (wr.drewN nq).cell? ⟨bl, ol + k, none⟩ = some (.int .i64 (gi z0 k)) := q1
          have c0' : (wr.drewN nq).cell? ⟨P, 0, none⟩ = some (.int .i64 A) := c0
          have c1' : (wr.drewN nq).cell? ⟨P, 1, none⟩ = some (.slice (some ⟨g1', 0, none⟩) len0 len0) := c1
          have c2' : (wr.drewN nq).cell? ⟨P, 2, none⟩ = some (.slice (some ⟨g2', 0, none⟩) len0 len0) := c2
          have y1' := (show (wr.drewN nq).cell? _ = _ from y1)
          have y2' := (show (wr.drewN nq).cell? _ = _ from y2)
          have hbl2 := below_drewN hbl nq
          clear q1 c0 c1 c2 y1 y2 hbl
          generalize wr.drewN nq = wx at *
          go_wp2_with fail
          go_quiet (fail)
          go_wp2
          go_roundw
          case rel => exact ⟨k + 1, by omega, by go_num, below_drewN hbl2 _⟩
          case measure => simp [intOf]; omega
        · have E1 : (own' k == A) = false := by rw [beq_eq_false_iff_ne]; exact e
          have E2 : ((rest' k : Int) == (k : Int)) = false := by rw [beq_eq_false_iff_ne]; have : ¬ rest' k = k := fun h => e (hfl.2 h); omega
          have HLW := hidp hlw
          clear e hfl hlw
          go_wp2_with fail
          go_quiet (fail)
          have q1' : (wr.drewN nq).cell? ⟨bl, ol + k, none⟩ = some (.int .i64 (gi z0 k)) := q1
          have c0' : (wr.drewN nq).cell? ⟨P, 0, none⟩ = some (.int .i64 A) := c0
          have c1' : (wr.drewN nq).cell? ⟨P, 1, none⟩ = some (.slice (some ⟨g1', 0, none⟩) len0 len0) := c1
          have c2' : (wr.drewN nq).cell? ⟨P, 2, none⟩ = some (.slice (some ⟨g2', 0, none⟩) len0 len0) := c2
          have y1' := (show (wr.drewN nq).cell? _ = _ from y1)
          have y2' := (show (wr.drewN nq).cell? _ = _ from y2)
          have hbl2 := below_drewN hbl nq
          clear q1 c0 c1 c2 y1 y2 hbl
          generalize wr.drewN nq = wx at *
          by_cases hwA : gi z0 k * (len0 : Int) < A
          · have L1 : (own' k != (gi z0 k * (len0 : Int))) = false := by rw [(HLW.out hwA).1]; simp
            go_wp2_with fail
            go_quiet (fail)
            go_wp2
            go_roundw
            case rel => exact ⟨k + 1, by omega, by go_num, below_drewN hbl2 _⟩
            case measure => simp [intOf]; omega
          · have hwF : (gi z0 k * (len0 : Int) < A) = False := eq_false hwA
            go_wp2_with fail
            go_quiet (fail)
            go_wp2
            go_roundw
            case rel => exact ⟨k + 1, by omega, by go_num, below_drewN hbl2 _⟩
            case measure => simp [intOf]; omega
      · obtain rfl : k = len0 := by omega
        go_wp2_with fail
        go_ret
        exact ⟨rfl, bstep HWE.out hbl⟩
  · have CM := hidp (fun W h => make_bad a0 len0 cap0 z0 W h hE)
    have hE1 : (wtsE z0 len0 == 0) = false := by rw [beq_eq_false_iff_ne]; exact hE
    clear hE
    go_wp2_with fail
    refine (CM.out _ (H.out.below hwc)).mono ?_
    rintro e wb ⟨rfl, hbb⟩
    have hwb : Below w.heap.size w wb := bstep hwc hbb
    go_wp2_with fail
    go_ret
    exact ⟨rfl, bal hwb _⟩
end Go.Proofs.Ytmgagmnknhgkdaa.aliasFull
