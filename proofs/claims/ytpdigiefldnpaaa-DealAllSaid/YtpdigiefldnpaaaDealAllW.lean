/- The walk of DealAll: the law returns true at all inputs, and no old memory changes. -/
import Derived.Test.YtpdigiefldnpaaaDealStep
namespace Go.Proofs.Ytpdigiefldnpaaa.dealAll
open Go.ChangeShapes Go.WideShapes Go.ChangeAt Go.RowKit Go.Maps OdoMath
open Go.Proofs.Ytpdigiefldnpaaa
set_option maxRecDepth 20000
theorem deal1 : tab (dealF [7, 8, 9] [0, 0, 1] 3) 3 = [8, 9, 7] := by decide +kernel
theorem bds_bd (n : Nat) (hn : n ≤ 100) : ∀ x ∈ bds n, -9223372036854775808 ≤ x ∧ x ≤ 9223372036854775807 := fun x hx => by
  obtain ⟨i, hi, rfl⟩ := tab_mem _ _ _ hx; omega
theorem idn_bd (n : Nat) (hn : n ≤ 100) : ∀ x ∈ idn n, -9223372036854775808 ≤ x ∧ x ≤ 9223372036854775807 := fun x hx => by
  obtain ⟨i, hi, rfl⟩ := tab_mem _ _ _ hx; omega
theorem rks_len (n t : Nat) : (rks n t).length = t := tab_len _ _
set_option linter.unusedVariables false
set_option maxHeartbeats 16000000 in
theorem walk (a0 : Int) (w : World) (w0 : (Lit.int .i64 a0).wf = true) :
    Calls Try.prog 6 #[.int .i64 a0] w fun e w' => e = .returned (.bool true) ∧ Below w.heap.size w w' := by
  have i0 : IntsAt (w.alloc (.cells #[.int .i64 7, .int .i64 8, .int .i64 9] 3)) (some ⟨w.heap.size, 0, none⟩) 3 3 [7, 8, 9] := ints_lit [7, 8, 9] (by simp) rfl rfl (by simp) (by omega)
  have i1 : IntsAt ((w.alloc (.cells #[.int .i64 7, .int .i64 8, .int .i64 9] 3)).alloc (.cells #[.int .i64 0, .int .i64 0, .int .i64 1] 3)) (some ⟨w.heap.size + 1, 0, none⟩) 3 3 [0, 0, 1] := ints_lit [0, 0, 1] (by simp) rfl rfl (by simp) (by omega)
  have D1 := deal_c _ _ 3 3 3 [7, 8, 9] [0, 0, 1] _ (i0.alloc _) i1 (by omega) (fun i hi => by
    match i, hi with
    | 0, _ => decide
    | 1, _ => decide
    | 2, _ => decide)
  rw [deal1] at D1
  have DH := hidp D1
  clear D1 w0 i0 i1
  obtain ⟨N, hN⟩ : ∃ N, N = wn a0 7 := ⟨_, rfl⟩
  have hN7 := wn_lt a0 7 (by omega)
  rw [← hN] at hN7
  have WN := hidp (fun W => withinN_c a0 7 (by omega) (by omega) W)
  rw [← hN] at WN
  have hN6 : N ≤ 6 := by omega
  clear hN hN7
  go_enter Try.func6, Try.ntmps6
  go_wp2_with fail
  refine DH.out.mono ?_
  rintro e wa ⟨v, rfl, hv, hba⟩
  have hwa := bstep (bal (bal (Below.refl w.heap.size w) _) _) hba
  obtain ⟨av, cv, rfl, hI⟩ := owns_ints hv (by simp)
  have EQ0 := (equali_c av (some ⟨wa.heap.size, 0, none⟩) 3 3 cv 3 [8, 9, 7] [8, 9, 7] (wa.alloc (.cells #[.int .i64 8, .int .i64 9, .int .i64 7] 3)) (hI.alloc _) (ints_lit [8, 9, 7] (by simp) rfl rfl (by simp) (by omega)))
  rw [decide_eq_true rfl] at EQ0
  have EQ := hidp EQ0
  clear hv hba hI DH EQ0
  go_wp2_with fail
  refine EQ.out.mono ?_
  rintro e wb ⟨rfl, hbb⟩
  have hwb := bstep (bal hwa (.cells #[.int .i64 8, .int .i64 9, .int .i64 7] 3)) hbb
  clear hbb hwa EQ
  go_wp2_with fail
  refine (WN.out _).mono ?_
  rintro e w' ⟨rfl, rfl⟩
  go_wp2_with fail
  have c0 : (wb.alloc (.cells #[.slice none 0 0] 22)).cell? ⟨wb.heap.size, 0, none⟩ = some (.slice none 0 0) := by go_simp
  have f0 : (wb.alloc (.cells #[.slice none 0 0] 22)).frozen? ⟨wb.heap.size, 0, none⟩ = false := by go_simp
  have hs0 : (wb.alloc (.cells #[.slice none 0 0] 22)).heap.size = wb.heap.size + 1 := by simp
  have hb0 := bal hwb (.cells #[.slice none 0 0] 22)
  have hP : w.heap.size ≤ wb.heap.size := hwb.size
  clear hwb
  generalize (wb.alloc (.cells #[.slice none 0 0] 22)) = wc at *
  generalize wb.heap.size = P6 at *
  go_loopg [5, 26] N (fun gg v i wr => ∃ (k : Nat) (vr : Value), k ≤ N ∧ N - k ≤ gg ∧ i = .int .i64 k ∧ wr.cell? ⟨P6, 0, none⟩ = some vr ∧ wr.frozen? ⟨P6, 0, none⟩ = false ∧ wr.ownsRow (P6 + 1) 3 1 v k ((bds k).map (Value.int .i64)) ∧ wr.ownsRow (P6 + 1) 3 1 vr k ((idn k).map (Value.int .i64)) ∧ Apart v vr ∧ Below w.heap.size w wr ∧ P6 + 1 ≤ wr.heap.size)
  case atStart => exact ⟨0, _, by omega, by omega, rfl, c0, f0, World.ownsRow_nil _ _ _ _, World.ownsRow_nil _ _ _ _, .inl rfl, hb0, by omega⟩
  case round =>
    obtain ⟨k, vr, hk, hgg, rfl, d0, g0, hv, hr, hap, hbl, hsz⟩ := hrel
    by_cases hlt : k < N
    · have R0 := hidp (RB.drew (show RB w wr P6 vr u5 k vr k from ⟨d0, g0, hv, hr, hap, hbl, hsz, hP⟩))
      have HB := hidp (fun g e => (hv.lt g e).2)
      have nc1 : ¬ P6 = wr.heap.size := by omega
      have nc2 : ¬ wr.heap.size = P6 := by omega
      have nc3 : P6 < wr.heap.size := by omega
      have k6 : k < 1000 := by omega
      have WK : IntKind.i64.wrap ((k : Int) + 1) = (k : Int) + 1 := IntWalk.i64_in _ (by omega)
      clear hv hr hap hbl
      go_wp2_with fail
      go_region_law (first
        | (refine step_appB (w := w) (P6 := P6) (k := k) (kr := k) (vc := vr) (vb := u5) (vr := vr) rfl (.tmp 29) (.tmp 32) rfl rfl rfl (by first | exact R0.out.alloc _ | exact (R0.out.alloc _).alloc _) (by go_simp) k6 ?_; intro v1 x1 R1 g1 b1; have e1 := R1.c; have q1 := R1.f; have nx := R1.nec; obtain ⟨nx1, nx2, nx3⟩ := nx; have R1 := hidp R1; (first | have n2x := carry1 (G := wr.heap.size) (x := .int .i64 (k : Int)) g1 HB.out (Nat.le_refl _) (ca (cell_new wr (.int .i64 (k : Int)) 3) _) | have n2x := carry1 (G := wr.heap.size + 1) (x := .int .i64 (k : Int)) g1 HB.out (Nat.le_succ _) (cell_new2 wr _ (.int .i64 (k : Int)) 3) | skip))
        | (refine step_appR (w := w) (P6 := P6) (k := k) (kb := k + 1) (vc := vr) (vr := vr) rfl (.tmp 34) (.tmp 36) rfl rfl rfl (by first | exact R1.out | exact R1.out.alloc _) (by first | exact n2x | go_simp) k6 ?_; intro g' cap x2 R2 g2; have e2 := R2.c; have q2 := R2.f; have R2 := hidp R2))
      all_goals go_wp2
      all_goals go_roundg (N - (k + 1))
      all_goals first
        | omega
        | exact ⟨k + 1, _, by omega, by omega, by go_num, (R2.out.put _).c, (R2.out.put _).f, (R2.out.put _).hb, (R2.out.put _).hr, R2.out.ap, (R2.out.put _).bl, (R2.out.put _).sz⟩
    · obtain rfl : k = N := by omega
      obtain ⟨ab, cb, rfl, hIB⟩ := owns_ints hv (bds_bd k (by omega))
      obtain ⟨ar, cr, rfl, hIR⟩ := owns_ints hr (idn_bd k (by omega))
      have hab : ∀ b o, ab = some ⟨b, o, none⟩ → b < wr.heap.size := fun b o e => (owns_far hv b o e).2
      have har : ∀ b o, ar = some ⟨b, o, none⟩ → b < wr.heap.size := fun b o e => (owns_far hr b o e).2
      have hmm := @run_makeMap Try.prog
      have hb1 : Below wr.heap.size wr ((wr.alloc (.map #[] 0)).alloc (.cells #[.map (some wr.heap.size)] 57)) := bal (bal (Below.refl _ _) _) _
      have I0 := hidp (show DInv w P6 (wr.heap.size + 1) wr.heap.size ar ab k cr cb 0 ((wr.alloc (.map #[] 0)).alloc (.cells #[.map (some wr.heap.size)] 57)) from
        ⟨ck hb1 d0, by go_simp, hIR.below hb1, hIB.below hb1, (MapN.made wr Try.prog 3 4 .i64).below (bal (Below.refl _ _) _), bstep hbl hb1⟩)
      have hz1 : ((wr.alloc (.map #[] 0)).alloc (.cells #[.map (some wr.heap.size)] 57)).heap.size = wr.heap.size + 2 := by simp
      have hwr : w.heap.size ≤ wr.heap.size := hbl.size
      have hP6 : P6 < wr.heap.size := lt_of_cell d0
      clear hv hr hap hbl hIB hIR hb1 d0 g0 c0 f0
      go_upto_region 12 with fail
      generalize ((wr.alloc (.map #[] 0)).alloc (.cells #[.map (some wr.heap.size)] 57)) = wd at *
      generalize wr.heap.size = r at *
      have hz2 : r + 2 = wd.heap.size := hz1.symm
      clear hz1
      have E := each_c 32 #[.pointer (some ⟨P6, 0, none⟩), .pointer (some ⟨r + 1, 0, none⟩)] (fun _ _ => by kernel_rfl) ab k cb (bds k) wd (DInv w P6 (r + 1) r ar ab k cr cb) I0.out.ib (by omega) (fun j hj => by unfold bds; rw [tab_gi _ _ _ hj]; omega)
        (fun t W i v h => h.set wd.heap.size (by omega) (by omega) (by omega) (by omega) (fun _ b o e => by have := har b o e; omega) (fun _ b o e => by have := hab b o e; omega) i v)
        (fun t W q h => h.below (below_drewN (Below.refl _ _) _))
        (fun W h => I0.out.below (below_new h))
        (fun t W h => h.ib)
        (fun t W ht h hsz2 hway => by
          rw [prd_bds k k (Nat.le_refl _)] at ht
          refine (clos_c k t P6 (r + 1) r ar (some ⟨wd.heap.size, 0, none⟩) cr k W hN6 ht h.c6 h.c8 h.iv hway h.mp).mono ?_
          rintro e W' ⟨rfl, hm, hg⟩
          exact ⟨rfl, h.grown (by omega) (by omega) hwr (fun _ b o e => by have := har b o e; omega) (fun _ b o e => by have := hab b o e; omega) hm hg, hg.block _ hsz2 (by simp; omega), hg.size⟩)
      rw [prd_bds k k (Nat.le_refl _)] at E
      have EH := hidp E
      have FC := hidp (fun W => rfact_n k (by omega) W)
      clear E I0
      go_wp2_with fail
      refine EH.out.mono ?_
      rintro e we ⟨rfl, hI⟩
      have d8 := hI.c8
      have hle := hidp (fun ty => hI.mp.len (t := 57) Try.underlying57 ty)
      rw [rks_len] at hle
      have hlen := hle.out
      have hB := hI.bel
      have hbe : (((fct k : Nat) : Int) == ((fct k : Nat) : Int)) = true := by simp
      clear hI hle EH
      go_wp2_with fail
      refine (FC.out _).mono ?_
      rintro e w' ⟨rfl, rfl⟩
      go_wp2_with fail
      go_ret
      exact ⟨rfl, hB⟩
end Go.Proofs.Ytpdigiefldnpaaa.dealAll
