/- The walk of culkeep.BoardJoins. -/
import Derived.Test.YtmlkhiffmkkmdaaRuled
import Derived.Test.YtmlkhiffmkkmdaaConcatL
import Derived.Test.YtmlkhiffmkkmdaaEqR
namespace Go.Proofs.Ytmlkhiffmkkmdaa
open Go.ChangeShapes Go.WideShapes Go.ChangeAt Go.RowKit Go.Lib
set_option maxRecDepth 20000
def jF (l : List (List Int)) : List Rl := bputs [] (rowsR l)
theorem jF_ok (l : List (List Int)) : BdOk (jF l) ∧ ∀ q ∈ jF l, q.1 ∈ tx7 := ruled_ok l
theorem jF_join (l m : List (List Int)) : bputs (jF l) (jF m) = jF (l ++ m) := by
  unfold jF; rw [join_all, rowsR_append]
theorem jF_comm (l m : List (List Int)) : jF (m ++ l) = jF (l ++ m) := by
  rw [← jF_join, ← jF_join]; exact join_comm _ _ (jF_ok m).1.srt (jF_ok l).1.srt
theorem jF_self (l m : List (List Int)) : jF ((l ++ m) ++ l) = jF (l ++ m) := by
  rw [← jF_join, ← jF_join l m]; exact join_self _ _ (jF_ok l).1.srt (jF_ok m).1.srt
/-- A board in memory, its length that of the list. -/
def BL (w : World) (a : Option Addr) (n c : Nat) (L : List Rl) : Prop := RulesAt w a n c L
theorem joinF_c (l m : List (List Int)) (A B R : List Rl) (hA : jF l = A) (hB : jF m = B) (hR : jF (l ++ m) = R) (a : Option Addr) (n c : Nat) (a2 : Option Addr) (n2 c2 : Nat) (w : World) (h : RulesAt w a n c A) (h2 : RulesAt w a2 n2 c2 B) :
    Calls Try.prog 28 #[.slice a n c, .slice a2 n2 c2] w fun e w' => (∃ a' c', e = .returned (.tuple #[.slice a' R.length c', .int .i64 0]) ∧ RulesAt w' a' R.length c' R) ∧ Below w.heap.size w w' := by
  subst hA hB hR
  refine (bdjoin_c tx7 (by decide) a n c _ a2 n2 c2 _ w h h2 (jF_ok l).1 (jF_ok m).1 (jF_ok l).2 (jF_ok m).2).mono ?_
  rintro e w' ⟨v, rfl, hv, hb⟩
  rw [jF_join] at hv
  obtain ⟨a', c', rfl, hR⟩ := owns_rules hv
  exact ⟨⟨a', c', rfl, hR⟩, hb⟩
theorem ruledF_c (l : List (List Int)) (R : List Rl) (hR : jF (l.take 30) = R) (a : Option Addr) (n c : Nat) (w : World) (h : RowsAt w a n c l) :
    Calls Try.prog 24 #[.slice a n c] w fun e w' => (∃ a' c', e = .returned (.tuple #[.slice a' R.length c', .bool true]) ∧ RulesAt w' a' R.length c' R) ∧ Below w.heap.size w w' := by
  subst hR
  refine (ruled_c a n c l w h).mono ?_
  rintro e w' ⟨v, rfl, hv, hb⟩
  obtain ⟨a', c', rfl, hR⟩ := owns_rules hv
  exact ⟨⟨a', c', rfl, hR⟩, hb⟩
theorem run_takeL (a : Option Addr) (n c T : Nat) (hT : T ≤ c) (W : World) : (Instr.slice 47 (.slice a n c) none (some (.int .i64 (T : Int))) none).run Try.prog W = .ok (.slice a T c) W := by
  have hu : Try.prog.underlying 47 = some (.slice (Try.prog.elem 47)) := by kernel_rfl
  rw [run_slice_h (P := Try.prog) (w := W) 47 a n c hu .i64 (T : Int) (by omega) (by omega), show Try.prog.elem 47 = 38 from by kernel_rfl, Try.sizeOf38]
  simp [Result.andThen, sliced]
  intro h
  cases a with
  | none => rfl
  | some x => simp [Addr.add]
theorem RowsAt.takeR {w : World} {a : Option Addr} {n c : Nat} {xs : List (List Int)} (h : RowsAt w a n c xs) (T : Nat) (hT : T ≤ n) : RowsAt w a T c (xs.take T) := by
  refine ⟨by rw [List.length_take, h.len]; omega, by have := h.le; omega, h.max, fun hn => ?_⟩
  obtain ⟨b, off, ha, hlt, hc⟩ := h.cells (by omega)
  refine ⟨b, off, ha, hlt, fun i hi => ?_⟩
  obtain ⟨ai, ni, ci, h1, h2⟩ := hc i (by omega)
  refine ⟨ai, ni, ci, h1, ?_⟩
  have : gl (xs.take T) i = gl xs i := by
    unfold gl
    rw [List.getD_eq_getElem?_getD, List.getD_eq_getElem?_getD, List.getElem?_take, if_pos hi]
  rw [this]; exact h2
def jl1 : List Rl := [(⟨#[97]⟩, 1, 2)]
def jl3 : List Rl := [(⟨#[97]⟩, 3, 2)]
theorem jl_ok : BdOk jl1 ∧ BdOk jl3 := by
  refine ⟨⟨by unfold Srt jl1; decide +kernel, by decide, fun q hq => ?_⟩, ⟨by unfold Srt jl3; decide +kernel, by decide, fun q hq => ?_⟩⟩
  · rcases List.mem_cons.1 hq with rfl | hq
    · decide +kernel
    · cases hq
  · rcases List.mem_cons.1 hq with rfl | hq
    · decide +kernel
    · cases hq
theorem jl_put : putE jl1 (⟨#[97]⟩, 3, 2) = 0 ∧ bput jl1 (⟨#[97]⟩, 3, 2) = jl3 ∧ putE jl3 (⟨#[97]⟩, 9, 1) = 8 := by decide +kernel
theorem jl_at (w : World) (T : TypeId) : RulesAt (w.alloc (.cells #[.string ⟨#[97]⟩, .int .i64 1, .int .i64 2] T)) (some ⟨w.heap.size, 0, none⟩) 1 1 jl1 := by
  refine ⟨rfl, Nat.le_refl _, by omega, fun _ => ⟨_, _, rfl, by simp, fun i hi => ?_⟩⟩
  obtain rfl : i = 0 := by omega
  refine ⟨?_, ?_, ?_⟩ <;> (go_simp; try rfl)
theorem jput1_c (w : World) (T : TypeId) : Calls Try.prog 25 #[.slice (some ⟨w.heap.size, 0, none⟩) 1 1, .agg #[.string ⟨#[97]⟩, .int .i64 3, .int .i64 2]] (w.alloc (.cells #[.string ⟨#[97]⟩, .int .i64 1, .int .i64 2] T)) fun e w' => (∃ b o c, e = .returned (.tuple #[.slice (some ⟨b, o, none⟩) 1 c, .int .i64 0]) ∧ 1 ≤ c ∧ c ≤ 9223372036854775807 ∧ RulesAt w' (some ⟨b, o, none⟩) 1 c jl3) ∧ Below w.heap.size w w' := by
  refine (bdput_c _ 1 1 jl1 ⟨#[97]⟩ 3 2 _ (jl_at w T) jl_ok.1).mono ?_
  rintro e w' ⟨h1, hb⟩
  refine ⟨?_, bstep (bal (Below.refl _ _) _) hb⟩
  rcases h1 with ⟨_, v, rfl, hv⟩ | ⟨h2, _⟩
  · rw [jl_put.2.1] at hv
    obtain ⟨a', c', rfl, hR⟩ := owns_rules hv
    obtain ⟨b, o, rfl, _⟩ := hR.addr0 (by decide)
    exact ⟨b, o, c', rfl, hR.le, hR.max, hR⟩
  · exact absurd jl_put.1 h2
theorem jput2_c (a : Option Addr) (c : Nat) (w : World) (h : RulesAt w a 1 c jl3) : Calls Try.prog 25 #[.slice a 1 c, .agg #[.string ⟨#[97]⟩, .int .i64 9, .int .i64 1]] w fun e w' => e = .returned (.tuple #[.slice none 0 0, .int .i64 8]) ∧ Below w.heap.size w w' := by
  refine (bdput_c _ 1 c jl3 ⟨#[97]⟩ 9 1 _ h jl_ok.2).mono ?_
  rintro e w' ⟨h1, hb⟩
  refine ⟨?_, hb⟩
  rcases h1 with ⟨h2, _⟩ | ⟨_, h2⟩
  · rw [jl_put.2.2] at h2; cases h2
  · rw [jl_put.2.2] at h2; exact h2
set_option maxHeartbeats 16000000 in
theorem boardJoins.walk (a0 : Option Addr) (len0 cap0 : Nat) (z0 : List (List Int)) (a1 : Option Addr) (len1 cap1 : Nat) (z1 : List (List Int)) (a2 : Option Addr) (len2 cap2 : Nat) (z2 : List (List Int)) (w : World)
    (w0 : RowsAt w a0 len0 cap0 z0) (w1 : RowsAt w a1 len1 cap1 z1) (w2 : RowsAt w a2 len2 cap2 z2) :
    Calls Try.prog 10 #[.slice a0 len0 cap0, .slice a1 len1 cap1, .slice a2 len2 cap2] w fun e w' => e = .returned (.bool true) ∧ Below w.heap.size w w' := by
  have e0 := w0.le
  have e1 := w1.le
  have m0 := w0.max
  have m1 := w1.max
  obtain ⟨N0, hN0⟩ : ∃ N, N = min len0 15 := ⟨_, rfl⟩
  obtain ⟨N1, hN1⟩ : ∃ N, N = min len1 15 := ⟨_, rfl⟩
  have hmin0 : min (len0 : Int) 15 = (N0 : Int) := by omega
  have hmin1 : min (len1 : Int) 15 = (N1 : Int) := by omega
  have r0 := run_takeL a0 len0 cap0 N0 (by omega)
  have r1 := run_takeL a1 len1 cap1 N1 (by omega)
  have g0 := w0.takeR N0 (by omega)
  have g1 := w1.takeR N1 (by omega)
  have t0 : N0 ≤ 15 := by omega
  have t1 : N1 ≤ 15 := by omega
  generalize hl : z0.take N0 = l at *
  generalize hm : z1.take N1 = m at *
  have ll := g0.len
  have lm := g1.len
  have hT : ∀ (x : List (List Int)), x.length ≤ 30 → x.take 30 = x := fun x h => List.take_of_length_le h
  obtain ⟨LA, hLA⟩ : ∃ L, jF l = L := ⟨_, rfl⟩
  obtain ⟨LB, hLB⟩ : ∃ L, jF m = L := ⟨_, rfl⟩
  obtain ⟨LC, hLC⟩ : ∃ L, jF (z2.take 30) = L := ⟨_, rfl⟩
  obtain ⟨AB, hAB⟩ : ∃ L, jF (l ++ m) = L := ⟨_, rfl⟩
  obtain ⟨BC, hBC⟩ : ∃ L, jF (m ++ z2.take 30) = L := ⟨_, rfl⟩
  obtain ⟨PQ, hPQ⟩ : ∃ L, jF ((l ++ m) ++ z2.take 30) = L := ⟨_, rfl⟩
  have RUA := hidp (fun W (hb : Below w.heap.size w W) => ruledF_c l LA (by rw [hT l (by omega)]; exact hLA) a0 N0 cap0 W (g0.below hb))
  have RUB := hidp (fun W (hb : Below w.heap.size w W) => ruledF_c m LB (by rw [hT m (by omega)]; exact hLB) a1 N1 cap1 W (g1.below hb))
  have RUC := hidp (fun W (hb : Below w.heap.size w W) => ruledF_c z2 LC hLC a2 len2 cap2 W (w2.below hb))
  have RUX := hidp (fun a n c W (h : RowsAt W a n c (l ++ m)) => ruledF_c (l ++ m) AB (by rw [hT (l ++ m) (by rw [List.length_append]; omega)]; exact hAB) a n c W h)
  have RUY := hidp (fun a n c W (h : RowsAt W a n c (m ++ l)) => ruledF_c (m ++ l) AB (by rw [hT (m ++ l) (by rw [List.length_append]; omega), jF_comm]; exact hAB) a n c W h)
  have CX := hidp (fun W (hb : Below w.heap.size w W) => concatl2_c a0 a1 N0 N1 cap0 cap1 l m W (g0.below hb) (g1.below hb) (by omega))
  have CY := hidp (fun W (hb : Below w.heap.size w W) => concatl2_c a1 a0 N1 N0 cap1 cap0 m l W (g1.below hb) (g0.below hb) (by omega))
  have J1 := hidp (joinF_c l m LA LB AB hLA hLB hAB)
  have J2 := hidp (joinF_c m l LB LA AB hLB hLA (by rw [jF_comm]; exact hAB))
  have J3 := hidp (joinF_c m (z2.take 30) LB LC BC hLB hLC hBC)
  have J4 := hidp (joinF_c (l ++ m) (z2.take 30) AB LC PQ hAB hLC hPQ)
  have J5 := hidp (joinF_c l (m ++ z2.take 30) LA BC PQ hLA hBC (by rw [← List.append_assoc]; exact hPQ))
  have J6 := hidp (joinF_c (l ++ m) l AB LA AB hAB hLA (by rw [jF_self]; exact hAB))
  have P1 := hidp jput1_c
  have P2 := hidp jput2_c
  have EQ := hidp (fun (W : World) (a b : Option Addr) (c d : Nat) (L : List Rl) (h : RulesAt W a L.length c L) (k : RulesAt W b L.length d L) => eqr_c a b L.length c d L W h k)
  clear hLA hLB hLC hAB hBC hPQ hT g0 g1 ll lm w0 w1 w2 hN0 hN1 hl hm
  go_enter Try.func10, Try.ntmps10
  go_wp2_with fail
  refine (P1.out _ _).mono ?_
  rintro e v1 ⟨⟨b, o, c, rfl, hc1, hc2, hR⟩, B1⟩
  have HR := hidp hR
  obtain ⟨b', o', hbo, hlt, hcell⟩ := hR.cells (by omega)
  obtain ⟨rfl, rfl⟩ : b' = b ∧ o' = o := by
    have := Option.some.inj hbo; exact ⟨(congrArg Addr.block this).symm, (congrArg Addr.off this).symm⟩
  have x1 : v1.cell? ⟨b', o' + 1, none⟩ = some (.int .i64 3) := by
    have := (hcell 0 (by omega)).2.1
    rw [show rl jl3 0 = 3 from rfl] at this
    simpa using this
  clear hcell hbo hR P1
  go_wp2_with fail
  refine (P2.out _ _ _ HR.out).mono ?_
  rintro e v2 ⟨rfl, hb⟩
  have x2 := ck hb x1
  have B2 := bstep B1 hb
  clear B1 hb HR P2 x1
  go_upto_region 5 with fail
  go_quiet (fail)
  generalize hv3 : v2.drewN nq = v3
  have B3 : Below w.heap.size w v3 := by rw [← hv3]; exact below_drewN B2 nq
  clear B2 x2 hv3 hc1 hc2 hlt r0 r1 hmin0 hmin1 e0 e1 m0 m1
  go_wp2_with fail
  refine (RUA.out _ B3).mono ?_
  rintro e v4 ⟨⟨aA, cA, rfl, hR⟩, hb⟩
  have HA := hidp hR
  have B4 := bstep B3 hb
  clear hb hR B3
  go_wp2_with fail
  refine (RUB.out _ B4).mono ?_
  rintro e v5 ⟨⟨aB, cB, rfl, hR⟩, hb⟩
  have HB := hidp hR
  have B5 := bstep B4 hb
  replace HA := hidp (HA.out.below hb)
  clear hb hR B4
  go_wp2_with fail
  refine (RUC.out _ B5).mono ?_
  rintro e v6 ⟨⟨aC, cC, rfl, hR⟩, hb⟩
  have HC := hidp hR
  have B6 := bstep B5 hb
  replace HA := hidp (HA.out.below hb)
  replace HB := hidp (HB.out.below hb)
  clear hb hR B5
  go_wp2_with fail
  refine (CX.out _ B6).mono ?_
  rintro e v7 ⟨aa, cc, rfl, hR, hb⟩
  have HR := hidp hR
  have B7 := bstep B6 hb
  replace HA := hidp (HA.out.below hb)
  replace HB := hidp (HB.out.below hb)
  replace HC := hidp (HC.out.below hb)
  clear hb hR B6
  go_wp2_with fail
  refine (RUX.out _ _ _ _ HR.out).mono ?_
  rintro e v8 ⟨⟨aX, cX, rfl, hR⟩, hb⟩
  have HX := hidp hR
  have B8 := bstep B7 hb
  replace HA := hidp (HA.out.below hb)
  replace HB := hidp (HB.out.below hb)
  replace HC := hidp (HC.out.below hb)
  clear hb hR HR B7
  go_wp2_with fail
  refine (CY.out _ B8).mono ?_
  rintro e v9 ⟨aa, cc, rfl, hR, hb⟩
  have HR := hidp hR
  have B9 := bstep B8 hb
  replace HA := hidp (HA.out.below hb)
  replace HB := hidp (HB.out.below hb)
  replace HC := hidp (HC.out.below hb)
  replace HX := hidp (HX.out.below hb)
  clear hb hR B8
  go_wp2_with fail
  refine (RUY.out _ _ _ _ HR.out).mono ?_
  rintro e v10 ⟨⟨aY, cY, rfl, hR⟩, hb⟩
  have HY := hidp hR
  have B10 := bstep B9 hb
  replace HA := hidp (HA.out.below hb)
  replace HB := hidp (HB.out.below hb)
  replace HC := hidp (HC.out.below hb)
  replace HX := hidp (HX.out.below hb)
  clear hb hR HR B9
  clear RUA RUB RUC RUX RUY CX CY
  go_wp2_with fail
  refine (J1.out _ _ _ _ _ _ _ HA.out HB.out).mono ?_
  rintro e v11 ⟨⟨aab, cab, rfl, hR⟩, hb⟩
  have Hab := hidp hR
  have B11 := bstep B10 hb
  replace HA := hidp (HA.out.below hb)
  replace HB := hidp (HB.out.below hb)
  replace HC := hidp (HC.out.below hb)
  replace HX := hidp (HX.out.below hb)
  replace HY := hidp (HY.out.below hb)
  clear hb hR B10
  go_wp2_with fail
  refine (J2.out _ _ _ _ _ _ _ HB.out HA.out).mono ?_
  rintro e v12 ⟨⟨aba, cba, rfl, hR⟩, hb⟩
  have Hba := hidp hR
  have B12 := bstep B11 hb
  replace HA := hidp (HA.out.below hb)
  replace HB := hidp (HB.out.below hb)
  replace HC := hidp (HC.out.below hb)
  replace HX := hidp (HX.out.below hb)
  replace HY := hidp (HY.out.below hb)
  replace Hab := hidp (Hab.out.below hb)
  clear hb hR B11
  go_wp2_with fail
  refine (J3.out _ _ _ _ _ _ _ HB.out HC.out).mono ?_
  rintro e v13 ⟨⟨abc, cbc, rfl, hR⟩, hb⟩
  have Hbc := hidp hR
  have B13 := bstep B12 hb
  replace HA := hidp (HA.out.below hb)
  replace HB := hidp (HB.out.below hb)
  replace HC := hidp (HC.out.below hb)
  replace HX := hidp (HX.out.below hb)
  replace HY := hidp (HY.out.below hb)
  replace Hab := hidp (Hab.out.below hb)
  replace Hba := hidp (Hba.out.below hb)
  clear hb hR B12
  go_wp2_with fail
  refine (J4.out _ _ _ _ _ _ _ Hab.out HC.out).mono ?_
  rintro e v14 ⟨⟨ap, cp, rfl, hR⟩, hb⟩
  have Hp := hidp hR
  have B14 := bstep B13 hb
  replace HA := hidp (HA.out.below hb)
  replace HB := hidp (HB.out.below hb)
  replace HC := hidp (HC.out.below hb)
  replace HX := hidp (HX.out.below hb)
  replace HY := hidp (HY.out.below hb)
  replace Hab := hidp (Hab.out.below hb)
  replace Hba := hidp (Hba.out.below hb)
  replace Hbc := hidp (Hbc.out.below hb)
  clear hb hR B13
  go_wp2_with fail
  refine (J5.out _ _ _ _ _ _ _ HA.out Hbc.out).mono ?_
  rintro e v15 ⟨⟨aq, cq, rfl, hR⟩, hb⟩
  have Hq := hidp hR
  have B15 := bstep B14 hb
  replace HA := hidp (HA.out.below hb)
  replace HB := hidp (HB.out.below hb)
  replace HC := hidp (HC.out.below hb)
  replace HX := hidp (HX.out.below hb)
  replace HY := hidp (HY.out.below hb)
  replace Hab := hidp (Hab.out.below hb)
  replace Hba := hidp (Hba.out.below hb)
  replace Hbc := hidp (Hbc.out.below hb)
  replace Hp := hidp (Hp.out.below hb)
  clear hb hR B14
  go_wp2_with fail
  refine (J6.out _ _ _ _ _ _ _ Hab.out HA.out).mono ?_
  rintro e v16 ⟨⟨ar, cr, rfl, hR⟩, hb⟩
  have Hr := hidp hR
  have B16 := bstep B15 hb
  replace HA := hidp (HA.out.below hb)
  replace HB := hidp (HB.out.below hb)
  replace HC := hidp (HC.out.below hb)
  replace HX := hidp (HX.out.below hb)
  replace HY := hidp (HY.out.below hb)
  replace Hab := hidp (Hab.out.below hb)
  replace Hba := hidp (Hba.out.below hb)
  replace Hbc := hidp (Hbc.out.below hb)
  replace Hp := hidp (Hp.out.below hb)
  replace Hq := hidp (Hq.out.below hb)
  clear hb hR B15
  clear J1 J2 J3 J4 J5 J6 HA HB HC Hbc
  go_wp2_with fail
  refine (EQ.out _ _ _ _ _ _ Hab.out HX.out).mono ?_
  rintro e v17 ⟨rfl, hb⟩
  have B17 := bstep B16 hb
  replace HX := hidp (HX.out.below hb)
  replace HY := hidp (HY.out.below hb)
  replace Hab := hidp (Hab.out.below hb)
  replace Hba := hidp (Hba.out.below hb)
  replace Hp := hidp (Hp.out.below hb)
  replace Hq := hidp (Hq.out.below hb)
  replace Hr := hidp (Hr.out.below hb)
  clear hb B16
  go_wp2_with fail
  refine (EQ.out _ _ _ _ _ _ Hba.out HX.out).mono ?_
  rintro e v18 ⟨rfl, hb⟩
  have B18 := bstep B17 hb
  replace HX := hidp (HX.out.below hb)
  replace HY := hidp (HY.out.below hb)
  replace Hab := hidp (Hab.out.below hb)
  replace Hba := hidp (Hba.out.below hb)
  replace Hp := hidp (Hp.out.below hb)
  replace Hq := hidp (Hq.out.below hb)
  replace Hr := hidp (Hr.out.below hb)
  clear hb B17
  go_wp2_with fail
  refine (EQ.out _ _ _ _ _ _ HY.out HX.out).mono ?_
  rintro e v19 ⟨rfl, hb⟩
  have B19 := bstep B18 hb
  replace HX := hidp (HX.out.below hb)
  replace HY := hidp (HY.out.below hb)
  replace Hab := hidp (Hab.out.below hb)
  replace Hba := hidp (Hba.out.below hb)
  replace Hp := hidp (Hp.out.below hb)
  replace Hq := hidp (Hq.out.below hb)
  replace Hr := hidp (Hr.out.below hb)
  clear hb B18
  go_wp2_with fail
  refine (EQ.out _ _ _ _ _ _ Hp.out Hq.out).mono ?_
  rintro e v20 ⟨rfl, hb⟩
  have B20 := bstep B19 hb
  replace HX := hidp (HX.out.below hb)
  replace HY := hidp (HY.out.below hb)
  replace Hab := hidp (Hab.out.below hb)
  replace Hba := hidp (Hba.out.below hb)
  replace Hp := hidp (Hp.out.below hb)
  replace Hq := hidp (Hq.out.below hb)
  replace Hr := hidp (Hr.out.below hb)
  clear hb B19
  go_wp2_with fail
  refine (EQ.out _ _ _ _ _ _ Hr.out Hab.out).mono ?_
  rintro e v21 ⟨rfl, hb⟩
  have B21 := bstep B20 hb
  replace HX := hidp (HX.out.below hb)
  replace HY := hidp (HY.out.below hb)
  replace Hab := hidp (Hab.out.below hb)
  replace Hba := hidp (Hba.out.below hb)
  replace Hp := hidp (Hp.out.below hb)
  replace Hq := hidp (Hq.out.below hb)
  replace Hr := hidp (Hr.out.below hb)
  clear hb B20
  go_wp2_with fail
  go_ret
  exact ⟨rfl, B21⟩
end Go.Proofs.Ytmlkhiffmkkmdaa
