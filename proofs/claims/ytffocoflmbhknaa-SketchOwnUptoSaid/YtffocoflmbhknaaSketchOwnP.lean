/- SketchOwn, the second form: where what comes in is of bulk at most 1048576 the law returns true, and each argument reads behind the call as it read before. Conditions: that bulk alone. (The frame; the walk lies in YtffocoflmbhknaaSketchOwnW.) -/
import Derived.Test.YtffocoflmbhknaaSketchOwnW
import Derived.Test.YtffocoflmbhknaaMgBulkOpen
import Derived.ShutString
import Derived.ChangeOld
import Derived.Below
import Derived.JoinedCond
namespace Go.Proofs.Ytffocoflmbhknaa.sketchOwn
open Go.ChangeShapes Go.WideShapes Go.ChangeAt Go.RowKit
open Go.Proofs.Ytffocoflmbhknaa
set_option linter.unusedVariables false
theorem knob : ownKnob Try.prog.godebug = none := by kernel_rfl
theorem laidOut : laidOutB Try.prog = true := by kernel_rfl
set_option maxRecDepth 100000 in
theorem contract (H : Type) (enc : TypeId × Value → H) (W : World) (base : Nat) (args : Array Value) (ds gs : List (DataW H)) (before : List MemPlace)
    (hval : ∀ (j : Nat) t v, Try.f3.params[j]? = some t → args[j]? = some v → Value.okWide Try.prog W .any base t v)
    (hW : DataW.Whole enc Try.prog Try.f3.params.toList Rows.sketchOwnSpec.vars false W args.toList ds gs before)
    (hk : Rows.uptoSmall H (ds ++ gs) = true) :
    Calls Try.prog 3 args W fun e W' => ∃ v, e = .returned v ∧ Rows.sketchOwnSpec.post enc Try.prog Try.f3 false true false false W args v W' := by
  have hW' := hW
  obtain ⟨p, q, hA0, hV, rfl, hfz, hnd⟩ := hW
  have hA : DataW.TrodAll enc Try.prog W 0 (fun _ => true) true Try.f3.params.toList args.toList ds p := hA0
  rw [Try.params3] at hA hval
  obtain ⟨v0, vs0, d0, ds0, p0, q0, hargs, rfl, rfl, h0, r0⟩ := trodAll_cons hA
  obtain ⟨v1, vs1, d1, ds1, p1, q1, rfl, rfl, rfl, h1, r1⟩ := trodAll_cons r0
  obtain ⟨v2, vs2, d2, ds2, p2, q2, rfl, rfl, rfl, h2, r2⟩ := trodAll_cons r1
  obtain ⟨v3, vs3, d3, ds3, p3, q3, rfl, rfl, rfl, h3, r3⟩ := trodAll_cons r2
  obtain ⟨v4, vs4, d4, ds4, p4, q4, rfl, rfl, rfl, h4, r4⟩ := trodAll_cons r3
  obtain ⟨v5, vs5, d5, ds5, p5, q5, rfl, rfl, rfl, h5, r5⟩ := trodAll_cons r4
  obtain ⟨v6, vs6, d6, ds6, p6, q6, rfl, rfl, rfl, h6, r6⟩ := trodAll_cons r5
  obtain ⟨v7, vs7, d7, ds7, p7, q7, rfl, rfl, rfl, h7, r7⟩ := trodAll_cons r6
  obtain ⟨rfl, rfl, rfl⟩ := trodAll_nil r7
  obtain rfl : args = #[v0, v1, v2, v3, v4, v5, v6, v7] := by cases args; simp_all
  obtain ⟨rfl, rfl⟩ := trodVars_none hV
  have hkb := of_decide_eq_true hk
  simp only [List.cons_append, List.nil_append, Rows.uptoBulkAll] at hkb
  have g0 : Rows.uptoBulk d0 ≤ 1048576 := by omega
  have g1 : Rows.uptoBulk d1 ≤ 1048576 := by omega
  have g2 : Rows.uptoBulk d2 ≤ 1048576 := by omega
  have g3 : Rows.uptoBulk d3 ≤ 1048576 := by omega
  have g4 : Rows.uptoBulk d4 ≤ 1048576 := by omega
  have g5 : Rows.uptoBulk d5 ≤ 1048576 := by omega
  have g6 : Rows.uptoBulk d6 ≤ 1048576 := by omega
  have g7 : Rows.uptoBulk d7 ≤ 1048576 := by omega
  clear hkb hk
  have k0 := h0
  have lt0 : ∀ x ∈ p0, x.block < W.heap.size := by obtain ⟨m, hm⟩ := k0; exact DataW.trod_lt m _ _ _ hm
  obtain ⟨sz0, wy0, a0, n0, c0, bs0, rfl, w0, z0, s0⟩ := filt_open_u (okWide_struct Try.underlying24 (hval 0 24 v0 rfl rfl)) h0
  have k1 := h1
  have lt1 : ∀ x ∈ p1, x.block < W.heap.size := by obtain ⟨m, hm⟩ := k1; exact DataW.trod_lt m _ _ _ hm
  obtain ⟨sz1, wy1, a1, n1, c1, bs1, rfl, w1, z1, s1⟩ := filt_open_u (okWide_struct Try.underlying24 (hval 1 24 v1 rfl rfl)) h1
  have k2 := h2
  have lt2 : ∀ x ∈ p2, x.block < W.heap.size := by obtain ⟨m, hm⟩ := k2; exact DataW.trod_lt m _ _ _ hm
  obtain ⟨wd2, a2, n2, c2, xs2, rfl, w2, s2⟩ := tab_open_u (okWide_struct Try.underlying27 (hval 2 27 v2 rfl rfl)) h2 g2
  have k3 := h3
  have lt3 : ∀ x ∈ p3, x.block < W.heap.size := by obtain ⟨m, hm⟩ := k3; exact DataW.trod_lt m _ _ _ hm
  obtain ⟨wd3, a3, n3, c3, xs3, rfl, w3, s3⟩ := tab_open_u (okWide_struct Try.underlying27 (hval 3 27 v3 rfl rfl)) h3 g3
  have k4 := h4
  have lt4 : ∀ x ∈ p4, x.block < W.heap.size := by obtain ⟨m, hm⟩ := k4; exact DataW.trod_lt m _ _ _ hm
  obtain ⟨kk4, lo4, a4, n4, c4, L4, rfl, w4, z4, s4⟩ := few_open_u (okWide_struct Try.underlying30 (hval 4 30 v4 rfl rfl)) h4
  have k5 := h5
  have lt5 : ∀ x ∈ p5, x.block < W.heap.size := by obtain ⟨m, hm⟩ := k5; exact DataW.trod_lt m _ _ _ hm
  obtain ⟨kk5, lo5, a5, n5, c5, L5, rfl, w5, z5, s5⟩ := few_open_u (okWide_struct Try.underlying30 (hval 5 30 v5 rfl rfl)) h5
  obtain ⟨a6, rfl, rfl, rfl, w6⟩ := open_int Try.underlying3 (hval 6 3 v6 rfl rfl) h6
  obtain ⟨a7, rfl, rfl, rfl, w7⟩ := open_int Try.underlying3 (hval 7 3 v7 rfl rfl) h7
  clear hA0
  refine (walk sz0 wy0 a0 n0 c0 bs0 sz1 wy1 a1 n1 c1 bs1 wd2 a2 n2 c2 xs2 wd3 a3 n3 c3 xs3 kk4 lo4 a4 n4 c4 L4 kk5 lo5 a5 n5 c5 L5 a6 a7 W w0 w1 w2 w3 w4 w5 z0 z1 z4 z5 (Nat.le_trans s0 g0) (Nat.le_trans s1 g1) (Nat.le_trans s2 g2) (Nat.le_trans s3 g3) (Nat.le_trans s4 g4) (Nat.le_trans s5 g5)).mono fun e W' ⟨he, bel⟩ => ?_
  subst he
  exact ⟨_, rfl, _, _, _, [], _, [], hW', trodAll_mk1 (shut_bool Try.underlying4 _), (trodAll_cons_mk (Below.trod laidOut (by kernel_rfl) (of_decide_eq_true (by kernel_rfl)) k0 bel lt0) (trodAll_cons_mk (Below.trod laidOut (by kernel_rfl) (of_decide_eq_true (by kernel_rfl)) k1 bel lt1) (trodAll_cons_mk (Below.trod laidOut (by kernel_rfl) (of_decide_eq_true (by kernel_rfl)) k2 bel lt2) (trodAll_cons_mk (Below.trod laidOut (by kernel_rfl) (of_decide_eq_true (by kernel_rfl)) k3 bel lt3) (trodAll_cons_mk (Below.trod laidOut (by kernel_rfl) (of_decide_eq_true (by kernel_rfl)) k4 bel lt4) (trodAll_cons_mk (Below.trod laidOut (by kernel_rfl) (of_decide_eq_true (by kernel_rfl)) k5 bel lt5) (trodAll_cons_mk (shut_int Try.underlying3 w6) (trodAll_cons_mk (shut_int Try.underlying3 w7) trodAll_mk0)))))))), rfl, bel.frame _, fun h => by cases h⟩
set_option maxRecDepth 100000 in
theorem lifted (os : Os) (started : os.Started) (H : Type) (enc : TypeId × Value → H) (F : Stop.Interp) :
    ReturnsInHanded {} Try.checked os 3 .any ((Rows.OpenSpec.upto Rows.sketchOwnSpec).pre6 enc Try.prog Try.f3 Rows.sketchOwnUptoRow.domain false) (((Rows.OpenSpec.upto Rows.sketchOwnSpec).at F).post enc Try.prog Try.f3 false true false false) := by
  refine returnsInHanded_of_cond (C := Try.checked) (s := Rows.OpenSpec.upto Rows.sketchOwnSpec) (k := Rows.uptoSmall) rfl knob started (by kernel_rfl) Try.func3
    (OpenSpec.witness (enc := enc) (C := Try.checked) (s := Rows.OpenSpec.upto Rows.sketchOwnSpec) (k := Rows.uptoSmall) rfl false ⟨#[], #[.agg #[.int .i64 0, .int .i64 0, .slice none 0 0], .agg #[.int .i64 0, .int .i64 0, .slice none 0 0], .agg #[.int .i64 0, .slice none 0 0], .agg #[.int .i64 0, .slice none 0 0], .agg #[.int .i64 0, .int .i64 0, .slice none 0 0], .agg #[.int .i64 0, .int .i64 0, .slice none 0 0], .int .i64 0, .int .i64 0], []⟩ 8 (by kernel_rfl) (by kernel_rfl) (by kernel_rfl)
      (x := ([.agg [DataW.lit (.int .i64 0), DataW.lit (.int .i64 0), .nil], .agg [DataW.lit (.int .i64 0), DataW.lit (.int .i64 0), .nil], .agg [DataW.lit (.int .i64 0), .nil], .agg [DataW.lit (.int .i64 0), .nil], .agg [DataW.lit (.int .i64 0), DataW.lit (.int .i64 0), .nil], .agg [DataW.lit (.int .i64 0), DataW.lit (.int .i64 0), .nil], DataW.lit (.int .i64 0), DataW.lit (.int .i64 0)], [], [])) (by kernel_rfl) rfl (by kernel_rfl)) ?_
  intro W base args ds gs before hval hW _ hk _
  exact contract H enc W base args ds gs before hval hW hk
theorem over : Rows.sketchOwnUptoRow.holds Try.pinned (Rows.OpenSpec.upto Rows.sketchOwnSpec) :=
  OpenClaim.holds_of_cond 3 Try.f3 rfl rfl rfl rfl rfl rfl rfl ⟨rfl, rfl, rfl, rfl, rfl⟩ rfl rfl rfl rfl rfl (by kernel_rfl) Try.func3 (by kernel_rfl)
    (of_decide_eq_true (by kernel_rfl)) (by unfold Func.isWrapper; first | (rw [if_pos (by decide +kernel)]; kernel_rfl) | (rw [if_neg (by decide +kernel)]; exact ⟨rfl, rfl⟩))
    (fun os started H enc _ F => lifted os started H enc F)
/-- The statement. -/
theorem proved : Rows.SketchOwnUptoSaid :=
  over
#print axioms proved
end Go.Proofs.Ytffocoflmbhknaa.sketchOwn
