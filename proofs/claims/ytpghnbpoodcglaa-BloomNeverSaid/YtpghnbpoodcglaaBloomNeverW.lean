/- The walk of BloomNever: the law returns true at all inputs, and no old memory changes. -/
import Derived.Test.YtpghnbpoodcglaaBloomL
namespace Go.Proofs.Ytpghnbpoodcglaa.bloomNever
open Go.ChangeShapes Go.WideShapes Go.ChangeAt Go.RowKit
open Go.Proofs.Ytpghnbpoodcglaa
set_option maxRecDepth 20000

theorem all_true (P : Nat → Nat) (f : Nat → Bool) (k : Nat) (h : ∀ i, i < k → f (P i) = true) : allP P f k = true := decide_eq_true h
theorem lit_all : allP (plc 2 5) (gb [true, true]) 1 = true := all_true _ _ _ (fun i _ => by
  have := plc_lt 2 5 i (by omega)
  generalize plc 2 5 i = x at *
  match x, this with
  | 0, _ => rfl
  | 1, _ => rfl)
theorem has_put (sz wy : Nat) (h1 : 1 ≤ sz) (f : Nat → Bool) (xs : List Int) (n k : Nat) (hk : k < n) : allP (plc sz (gi xs k)) (gb (tab (pf sz wy f xs n) sz)) wy = true := all_true _ _ _ (fun i hi => by
  rw [tab_gb _ _ _ (plc_lt sz _ i h1)]
  exact (pf_iff _ _ _ _ _ _).2 (.inr ⟨k, hk, (hit_iff _ _ _).2 ⟨i, hi, rfl⟩⟩))
theorem has_new (sz wy : Nat) (h1 : 1 ≤ sz) (f : Nat → Bool) (key : Int) : allP (plc sz key) (gb (tab (fun j => f j || hitP (plc sz key) wy j) sz)) wy = true := all_true _ _ _ (fun i hi => by
  rw [tab_gb _ _ _ (plc_lt sz _ i h1), (hit_iff _ _ _).2 ⟨i, hi, rfl⟩, Bool.or_true])
theorem has_none (sz wy : Nat) (h1 : 1 ≤ sz) (h3 : 1 ≤ wy) (key : Int) : allP (plc sz key) (gb (tab (fun _ => false) sz)) wy = false := decide_eq_false (fun h => by
  have := h 0 (by omega)
  rw [tab_gb _ _ _ (plc_lt sz _ 0 h1)] at this
  cases this)
set_option linter.unusedVariables false
set_option maxHeartbeats 4000000 in
theorem walk (a0 : Int) (a1 : Int) (a2 : Option Addr) (len2 cap2 : Nat) (z2 : List Int) (a3 : Int) (w : World)
    (w0 : (Lit.int .i64 a0).wf = true) (w1 : (Lit.int .i64 a1).wf = true) (w2 : IntsAt w a2 len2 cap2 z2) (w3 : (Lit.int .i64 a3).wf = true) :
    Calls Try.prog 4 #[.int .i64 a0, .int .i64 a1, .slice a2 len2 cap2, .int .i64 a3] w fun e w' => e = .returned (.bool true) ∧ Below w.heap.size w w' := by
  have mm := w2.max
  have ee := w2.le
  have H := hidp w2
  have CE := hidp (fun W => empty_c a0 a1 W)
  obtain ⟨s1, s2⟩ := esz_bd a0
  obtain ⟨y1, y2⟩ := ewy_bd a1
  generalize esz a0 = sz at *
  generalize ewy a1 = wy at *
  have CB := hidp (fun a c bs al n cl xs W h hx => bputl_c sz wy a c bs al n cl xs W h hx s1 s2 y1 y2)
  have CH := hidp (fun a c bs key W h => bhas_c sz wy a c bs key W h s1 s2 y1 y2)
  have CP := hidp (fun a c bs key W h => bput_c sz wy a c bs key W h s1 s2 y1 y2)
  obtain ⟨M, hM⟩ : ∃ M : Nat, M = min len2 100 := ⟨_, rfl⟩
  have hM1 : M ≤ 100 := by omega
  have hM2 : M ≤ len2 := by omega
  have hmin : min (len2 : Int) 100 = (M : Int) := by omega
  have HM := hidp hM
  clear w0 w1 w2 w3 hM
  go_enter Try.func4, Try.ntmps4
  go_wp2_with fail
  refine (bhas_c 2 1 _ 2 [true, true] 5 _ ?s0 (by omega) (by omega) (by omega) (by omega)).mono ?_
  case s0 => exact bools_lit [true, true] (by simp) (by rfl) (by rfl) (by omega)
  rintro e wa ⟨rfl, hba⟩
  rw [lit_all]
  have hwa : Below w.heap.size w wa := bstep (bal (Below.refl _ _) _) hba
  clear hba
  go_wp2_with fail
  refine (CE.out _).mono ?_
  rintro e wb ⟨g, rfl, hv, hbb⟩
  have hwb := bstep hwa hbb
  obtain ⟨ag, cg, hve, hbo⟩ := owns_bools hv
  simp only [Value.slice.injEq] at hve
  obtain ⟨rfl, _, rfl⟩ := hve
  have HB := hidp hbo
  clear hv hbb hwa
  go_wp2_with fail
  refine (CB.out _ _ _ _ _ _ _ _ HB.out (H.out.below hwb)).mono ?_
  rintro e wc ⟨g1, c1, rfl, hbc, hb⟩
  rw [← HM.out] at hbc
  have hwc := bstep hwb hb
  have HBC := hidp hbc
  clear hbc hb hwb HB CB
  have HF := hidp (HBC.out.alloc (.cells #[.int .i64 (sz : Nat), .int .i64 (wy : Nat), .slice g1 sz c1] 35))
  have hwd : Below w.heap.size w (wc.alloc (.cells #[.int .i64 (sz : Nat), .int .i64 (wy : Nat), .slice g1 sz c1] 35)) := bal hwc _
  have q0 : (wc.alloc (.cells #[.int .i64 (sz : Nat), .int .i64 (wy : Nat), .slice g1 sz c1] 35)).cell? ⟨wc.heap.size, 0, none⟩ = some (.int .i64 (sz : Nat)) := by go_simp
  have q1 : (wc.alloc (.cells #[.int .i64 (sz : Nat), .int .i64 (wy : Nat), .slice g1 sz c1] 35)).cell? ⟨wc.heap.size, 1, none⟩ = some (.int .i64 (wy : Nat)) := by go_simp
  have q2 : (wc.alloc (.cells #[.int .i64 (sz : Nat), .int .i64 (wy : Nat), .slice g1 sz c1] 35)).cell? ⟨wc.heap.size, 2, none⟩ = some (.slice g1 sz c1) := by go_simp
  go_wp2_with fail
  clear HBC hwc
  generalize (wc.alloc (.cells #[.int .i64 (sz : Nat), .int .i64 (wy : Nat), .slice g1 sz c1] 35)) = wd at *
  generalize wc.heap.size = P at *
  obtain ⟨b, o, hz, hx⟩ := (H.out.below hwd).split
  have hz' : Hid (len2 = 0) ∨ a2 = some ⟨b, o, none⟩ := hz.imp_left hidp
  have HX := hidp hx
  have HWD := hidp hwd
  have Q0 := hidp q0
  have Q1 := hidp q1
  have Q2 := hidp q2
  clear hz hx hwd q0 q1 q2
  have HAS := hidp (fun k (hk : k < M) => has_put sz wy s1 (gb (tab (fun _ => false) sz)) z2 M k hk)
  have NONE := hidp (has_none sz wy s1 y1 a3)
  generalize hFS : tab (pf sz wy (gb (tab (fun _ => false) sz)) z2 M) sz = fs at *
  clear hFS
  go_loopw [51] (fun i wr => ∃ k : Nat, k ≤ M ∧ i = .int .i64 k ∧ Below wd.heap.size wd wr) (fun i _ => M - (intOf i).toNat)
  case atStart => exact ⟨0, by omega, rfl, Below.refl _ _⟩
  case round =>
    obtain ⟨k, hk, rfl, hbl⟩ := hrel
    have q0 := ck hbl Q0.out
    have q1 := ck hbl Q1.out
    have q2 := ck hbl Q2.out
    by_cases hlt : k < M
    · obtain rfl : a2 = some ⟨b, o, none⟩ := hz'.resolve_left (fun e => by have := e.out; omega)
      have q := carry_cell (HX.out k (by omega)) hbl
      go_wp2_with fail
      refine (CH.out _ _ _ _ _ (HF.out.below hbl)).mono ?_
      rintro e wx ⟨rfl, hbx⟩
      rw [HAS.out k hlt]
      clear q0 q1 q2
      go_wp2_with fail
      go_roundw
      case measure => simp [intOf]; omega
      case rel => exact ⟨k + 1, by omega, by go_num, bstep hbl hbx⟩
    · obtain rfl : k = M := by omega
      go_wp2_with fail
      refine (CE.out _).mono ?_
      rintro e we ⟨ge, rfl, hv, hbe⟩
      obtain ⟨_, _, hve, hbo2⟩ := owns_bools hv
      simp only [Value.slice.injEq] at hve
      obtain ⟨rfl, _, rfl⟩ := hve
      have HB2 := hidp hbo2
      have q0 := ck hbe q0
      have q1 := ck hbe q1
      have q2 := ck hbe q2
      have hble := bstep hbl hbe
      clear hv hbe hbo2 hbl
      go_wp2_with fail
      refine (CH.out _ _ _ _ _ HB2.out).mono ?_
      rintro e wf ⟨rfl, hbf⟩
      rw [NONE.out]
      have q0 := ck hbf q0
      have q1 := ck hbf q1
      have q2 := ck hbf q2
      have hblf := bstep hble hbf
      clear hbf hble HB2
      go_wp2_with fail
      refine (CP.out _ _ _ _ _ (HF.out.below hblf)).mono ?_
      rintro e wg ⟨g3, c3, rfl, hv3, hbg⟩
      obtain ⟨_, _, hve, hbo3⟩ := owns_bools hv3
      simp only [Value.slice.injEq] at hve
      obtain ⟨rfl, _, rfl⟩ := hve
      have HB3 := hidp (hbo3.alloc (.cells #[.int .i64 (sz : Nat), .int .i64 (wy : Nat), .slice (some ⟨g3, 0, none⟩) sz c3] 35))
      have hblg : Below wd.heap.size wd (wg.alloc (.cells #[.int .i64 (sz : Nat), .int .i64 (wy : Nat), .slice (some ⟨g3, 0, none⟩) sz c3] 35)) := bal (bstep hblf hbg) _
      have NEW := hidp (has_new sz wy s1 (gb fs) a3)
      clear hv3 hbo3 hbg hblf
      go_wp2_with fail
      refine (CH.out _ _ _ _ _ HB3.out).mono ?_
      rintro e wh ⟨rfl, hbh⟩
      rw [NEW.out]
      have hblh := bstep hblg hbh
      clear hbh hblg
      go_wp2_with fail
      go_ret
      exact ⟨rfl, bstep HWD.out hblh⟩
end Go.Proofs.Ytpghnbpoodcglaa.bloomNever
