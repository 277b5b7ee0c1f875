/- alias.Check and alias.Shares at columns of whatever cap, and at what is no alias. -/
import Derived.Test.YtfhmckmglkjbeaaMgNumAny
import Derived.BigQuiet
namespace Go.Proofs.Ytfhmckmglkjbeaa
open Go.ChangeShapes Go.WideShapes Go.ChangeAt Go.RowKit
set_option maxRecDepth 20000
def aliasW (g1 g2 n m k1 k2 : Nat) (A : Int) : Value := .agg #[.int .i64 A, .slice (some ⟨g1, 0, none⟩) n k1, .slice (some ⟨g2, 0, none⟩) m k2]
set_option maxHeartbeats 2000000 in
theorem acheckw_c (g1 g2 n k1 k2 : Nat) (A : Int) (own : Nat → Int) (rest : Nat → Nat) (w : World) (h : AliasAt w g1 g2 n A own rest) :
    Calls Try.prog 32 #[aliasW g1 g2 n n k1 k2 A] w fun e w' => e = .returned (.int .i64 0) ∧ Below w.heap.size w w' := by
  have Y1 := hidp h.y1
  have Y2 := hidp h.y2
  have BD := hidp h.bd
  have RT := hidp h.rt
  obtain ⟨n1, n2⟩ := h.n1
  obtain ⟨b1, b2⟩ := h.bA
  have nI : (1 : Int) ≤ (n : Int) := by omega
  have HH := hidp h
  clear h
  unfold aliasW
  go_enter Try.func32, Try.ntmps32
  go_wp2_with fail
  have c0 : (w.alloc (.cells #[.int .i64 A, .slice (some ⟨g1, 0, none⟩) n k1, .slice (some ⟨g2, 0, none⟩) n k2] 34)).cell? ⟨w.heap.size, 0, none⟩ = some (.int .i64 A) := by go_simp
  have c1 : (w.alloc (.cells #[.int .i64 A, .slice (some ⟨g1, 0, none⟩) n k1, .slice (some ⟨g2, 0, none⟩) n k2] 34)).cell? ⟨w.heap.size, 1, none⟩ = some (.slice (some ⟨g1, 0, none⟩) n k1) := by go_simp
  have c2 : (w.alloc (.cells #[.int .i64 A, .slice (some ⟨g1, 0, none⟩) n k1, .slice (some ⟨g2, 0, none⟩) n k2] 34)).cell? ⟨w.heap.size, 2, none⟩ = some (.slice (some ⟨g2, 0, none⟩) n k2) := by go_simp
  have hb0 : Below w.heap.size w (w.alloc (.cells #[.int .i64 A, .slice (some ⟨g1, 0, none⟩) n k1, .slice (some ⟨g2, 0, none⟩) n k2] 34)) := bal (Below.refl _ _) _
  have HBW := hidp (fun W hb => (bstep hb0 hb : Below w.heap.size w W))
  generalize (w.alloc (.cells #[.int .i64 A, .slice (some ⟨g1, 0, none⟩) n k1, .slice (some ⟨g2, 0, none⟩) n k2] 34)) = w1 at *
  have C0 := hidp c0
  have C1 := hidp c1
  have C2 := hidp c2
  clear c0 c1 c2 hb0
  go_loopw [38] (fun i wr => ∃ k : Nat, k ≤ n ∧ i = .int .i64 k ∧ Below w1.heap.size w1 wr) (fun i _ => n - (intOf i).toNat)
  case atStart => exact ⟨0, by omega, rfl, Below.refl _ _⟩
  case round =>
    obtain ⟨k, hk, rfl, hbl⟩ := hrel
    by_cases hlt : k < n
    · have c0 := ck hbl C0.out
      have c1 := ck hbl C1.out
      have c2 := ck hbl C2.out
      have hA := HH.out.below (HBW.out _ hbl)
      have y1 := hA.y1 k hlt
      have y2 := hA.y2 k hlt
      obtain ⟨d1, d2⟩ := hA.bd k hlt
      have d3 := hA.rt k hlt
      have d4 : ¬ own k < 0 := by omega
      have d5 : ¬ A < own k := by omega
      have d6 : ((rest k : Nat) : Int) < (n : Int) := by omega
      have d7 : (k : Int) < (n : Int) := by omega
      clear hA
      go_wp2_with fail
      go_quiet (fail)
      go_wp2
      go_roundw
      case rel => exact ⟨k + 1, by omega, by go_num, below_drewN hbl _⟩
      case measure => simp [intOf]; omega
    · obtain rfl : k = n := by omega
      go_wp2
      go_ret
      exact ⟨rfl, HBW.out _ hbl⟩

set_option maxHeartbeats 4000000 in
theorem asharesw_c (g1 g2 n k1 k2 : Nat) (A : Int) (own : Nat → Int) (rest : Nat → Nat) (w : World) (h : AliasAt w g1 g2 n A own rest) :
    Calls Try.prog 11 #[aliasW g1 g2 n n k1 k2 A] w fun e w' => ∃ g, e = .returned (.tuple #[.slice (some ⟨g, 0, none⟩) n n, .int .i64 0]) ∧ w'.ownsRow w.heap.size 3 1 (.slice (some ⟨g, 0, none⟩) n n) n (row (shF own rest A n) n) ∧ Below w.heap.size w w' := by
  obtain ⟨ib, hib, hz0, hz1, hz2⟩ := info_parts info_int
  have HH := hidp h
  obtain ⟨n1, n2⟩ := h.n1
  obtain ⟨b1, b2⟩ := h.bA
  have nI : (1 : Int) ≤ (n : Int) := by omega
  have CC := hidp (fun W (hb : Below w.heap.size w W) => acheckw_c g1 g2 n k1 k2 A own rest W (h.below hb))
  clear h
  unfold aliasW at *
  go_enter Try.func11, Try.ntmps11
  go_wp2_with fail
  have hb1 : Below w.heap.size w (w.alloc (.cells #[.int .i64 A, .slice (some ⟨g1, 0, none⟩) n k1, .slice (some ⟨g2, 0, none⟩) n k2] 34)) := bal (Below.refl _ _) _
  refine (CC.out _ hb1).mono ?_
  rintro e wa ⟨rfl, hba⟩
  have c0 : wa.cell? ⟨w.heap.size, 0, none⟩ = some (.int .i64 A) := ck hba (by go_simp)
  have c1 : wa.cell? ⟨w.heap.size, 1, none⟩ = some (.slice (some ⟨g1, 0, none⟩) n k1) := ck hba (by go_simp)
  have c2 : wa.cell? ⟨w.heap.size, 2, none⟩ = some (.slice (some ⟨g2, 0, none⟩) n k2) := ck hba (by go_simp)
  have hb2 := bstep hb1 hba
  have hsa : w.heap.size + 1 ≤ wa.heap.size := by have := hba.size; simp at this; omega
  have C0 := hidp c0
  have C1 := hidp c1
  have C2 := hidp c2
  have HB2 := hidp hb2
  clear hb1 hba hb2 CC
  go_wp2_with (at_make; refine wpList_make_full wa rfl _ _ 22 rfl wa.heap.size 3 ib (.int .i64 0) 1 Try.underlying22 hib hz0 hz1 .i64 .i64 n n n rfl rfl rfl rfl (by rw [hz2]; omega) (by unfold maxLen; omega) (Nat.le_refl _) ?_; intro wb how hgr; have hbb := below_new hgr; have d0 := ck hbb C0.out; have d1 := ck hbb C1.out; have d2 := ck hbb C2.out)
  have hbb : Below wa.heap.size wa wb := below_new hgr
  have HC := hidp (And.intro (ck hbb C0.out) (And.intro (ck hbb C1.out) (ck hbb C2.out)))
  have HBW := hidp (bstep HB2.out hbb)
  have e0 : (madeCells (Value.int .i64 0).cells (n * 1)).toList = row (shF own rest A 0) n := by
    show (madeCells #[Value.int .i64 0] (n * 1)).toList = _
    rw [made_tab]
    exact tab_congr _ _ _ (fun i _ => by simp [shF, Wk.sumT])
  rw [e0] at how
  have hg1 := hgr.size
  have SB := hidp (fun k j => shF_bd own rest A n k j HH.out.bd b2 (by omega))
  have W0 := hidp hbb
  have G1 : g1 < w.heap.size := lt_of_cell (HH.out.y1 0 (by omega))
  have G2 : g2 < w.heap.size := lt_of_cell (HH.out.y2 0 (by omega))
  have HA := hidp (HH.out.below HB2.out)
  have HBA := HB2
  clear e0 hgr hbb C0 C1 C2 HB2
  obtain ⟨g, hg⟩ : ∃ g, g = wa.heap.size := ⟨_, rfl⟩
  rw [← hg] at how hsa W0
  rw [← hg]
  have HG := hidp hg
  clear hg
  go_loopw [20] (fun i wr => ∃ k : Nat, k ≤ n ∧ i = .int .i64 k ∧ wr.ownsRow g 3 1 (.slice (some ⟨g, 0, none⟩) n n) n (row (shF own rest A k) n) ∧ Below g wa wr) (fun i _ => n - (intOf i).toNat)
  case atStart => exact ⟨0, by omega, rfl, how, W0.out⟩
  case round =>
    obtain ⟨k, hk, rfl, ho, hbl⟩ := hrel
    by_cases hlt : k < n
    · have q0 : wr.cell? ⟨w.heap.size, 0, none⟩ = some (.int .i64 A) := (hbl.cell (p := ⟨w.heap.size, 0, none⟩) (by show w.heap.size < g; omega)).trans c0
      have q1 : wr.cell? ⟨w.heap.size, 1, none⟩ = some (.slice (some ⟨g1, 0, none⟩) n k1) := (hbl.cell (p := ⟨w.heap.size, 1, none⟩) (by show w.heap.size < g; omega)).trans c1
      have q2 : wr.cell? ⟨w.heap.size, 2, none⟩ = some (.slice (some ⟨g2, 0, none⟩) n k2) := (hbl.cell (p := ⟨w.heap.size, 2, none⟩) (by show w.heap.size < g; omega)).trans c2
      have y1 : wr.cell? ⟨g1, k, none⟩ = some (.int .i64 (own k)) := (hbl.cell (p := ⟨g1, k, none⟩) (by show g1 < g; omega)).trans (HA.out.y1 k hlt)
      have y2 : wr.cell? ⟨g2, k, none⟩ = some (.int .i64 (rest k : Nat)) := (hbl.cell (p := ⟨g2, k, none⟩) (by show g2 < g; omega)).trans (HA.out.y2 k hlt)
      have x1 : wr.cell? ⟨g, k, none⟩ = some (.int .i64 (shF own rest A k k)) := by have := ho.cellAt k (by omega); unfold row at this; rw [tab_get _ _ _ hlt] at this; exact this
      have z1 : wr.frozen? ⟨g, k, none⟩ = false := ho.frozenAt k
      obtain ⟨v1, v2⟩ := SB.out k k hk hlt (by omega)
      obtain ⟨d1, d2⟩ := HA.out.bd k hlt
      have d3 := HA.out.rt k hlt
      have kI : (k : Int) < (n : Int) := by omega
      have rI : ((rest k : Nat) : Int) < (n : Int) := by omega
      go_upto_region 9 with fail
      have ho2 := own_store_tab ho k (.int .i64 (shF own rest A k k + own k))
      rw [← row_upd] at ho2
      have hb2 := hbl.setCell (p := ⟨g, k, none⟩) (Nat.le_refl _) (.int .i64 (shF own rest A k k + own k))
      have STEP := hidp (shF_step own rest A k)
      have HV := hidp (show 0 ≤ Wk.upd (shF own rest A k) k (shF own rest A k k + own k) (rest k) ∧ Wk.upd (shF own rest A k) k (shF own rest A k k + own k) (rest k) ≤ 1680000000000000 by
        by_cases e : rest k = k
        · rw [e, Wk.upd_at]; omega
        · rw [Wk.upd_ne _ _ _ _ e]; have := SB.out k (rest k) hk d3 (by omega); omega)
      generalize wr.setCell ⟨g, k, none⟩ (.int .i64 (shF own rest A k k + own k)) = W2 at *
      generalize Wk.upd (shF own rest A k) k (shF own rest A k k + own k) = F2 at *
      obtain ⟨v3, v4⟩ := HV.out
      clear q0 q1 q2 y1 y2 x1 z1 hbl ho v1 v2
      have q0 : W2.cell? ⟨w.heap.size, 0, none⟩ = some (.int .i64 A) := (hb2.cell (p := ⟨w.heap.size, 0, none⟩) (by show w.heap.size < g; omega)).trans c0
      have q2 : W2.cell? ⟨w.heap.size, 2, none⟩ = some (.slice (some ⟨g2, 0, none⟩) n k2) := (hb2.cell (p := ⟨w.heap.size, 2, none⟩) (by show w.heap.size < g; omega)).trans c2
      have y2 : W2.cell? ⟨g2, k, none⟩ = some (.int .i64 (rest k : Nat)) := (hb2.cell (p := ⟨g2, k, none⟩) (by show g2 < g; omega)).trans (HA.out.y2 k hlt)
      have x1 : W2.cell? ⟨g, rest k, none⟩ = some (.int .i64 (F2 (rest k))) := by have := ho2.cellAt (rest k) (by omega); unfold row at this; rw [tab_get _ _ _ d3] at this; exact this
      have z1 : W2.frozen? ⟨g, rest k, none⟩ = false := ho2.frozenAt (rest k)
      go_still_tail 13, (by kernel_rfl)
      repeat still_step
      change wpList _ _ _ _ _ W2.drew
      have x2 : W2.drew.cell? ⟨g, rest k, none⟩ = some (.int .i64 (F2 (rest k))) := x1
      have z2 : W2.drew.frozen? ⟨g, rest k, none⟩ = false := z1
      go_wp2_with fail
      go_roundw
      case measure => simp [intOf]; omega
      case rel =>
        have ho3 := own_store_tab ho2 (rest k) (.int .i64 (F2 (rest k) + (A - own k)))
        rw [← row_upd] at ho3
        refine ⟨k + 1, by omega, by go_num, ?_, Below.drew (hb2.setCell (p := ⟨g, rest k, none⟩) (Nat.le_refl _) _)⟩
        rw [show row (shF own rest A (k + 1)) n = row (Wk.upd F2 (rest k) (F2 (rest k) + (A - own k))) n from tab_congr _ _ _ (fun j _ => by rw [STEP.out])]
        exact ho3.drew
    · obtain rfl : k = n := by omega
      go_wp2
      go_ret2
      exact ⟨g, rfl, owns_mono ho (by omega), bstep HBA.out (by rw [← HG.out]; exact hbl)⟩
/-- A column that is none. -/
def alF (A : Int) (xs ys : List Int) (n : Nat) (i : Nat) : Int := if gi xs i < 0 ∨ A < gi xs i ∨ gi ys i < 0 ∨ (n : Int) ≤ gi ys i then 1 else 0
def alE (A : Int) (xs ys : List Int) (n m : Nat) : Int := if 40 < n ∨ 40 < m then 2 else if n ≠ m ∨ n = 0 then 7 else if A < 1 ∨ 40000000000000 < A then 1 else fE (alF A xs ys n) n
set_option maxHeartbeats 4000000 in
theorem acheck_e (g1 g2 n m k1 k2 : Nat) (A : Int) (xs ys : List Int) (w : World) (h1 : ∀ i, i < n → w.cell? ⟨g1, i, none⟩ = some (.int .i64 (gi xs i))) (h2 : ∀ i, i < m → w.cell? ⟨g2, i, none⟩ = some (.int .i64 (gi ys i))) (hn : n ≤ 9223372036854775807) (hm : m ≤ 9223372036854775807) :
    Calls Try.prog 32 #[aliasW g1 g2 n m k1 k2 A] w fun e w' => e = .returned (.int .i64 (alE A xs ys n m)) ∧ Below w.heap.size w w' := by
  have Y1 := hidp h1
  have Y2 := hidp h2
  clear h1 h2
  unfold aliasW
  have hb0 : Below w.heap.size w (w.alloc (.cells #[.int .i64 A, .slice (some ⟨g1, 0, none⟩) n k1, .slice (some ⟨g2, 0, none⟩) m k2] 34)) := bal (Below.refl _ _) _
  have c0 : (w.alloc (.cells #[.int .i64 A, .slice (some ⟨g1, 0, none⟩) n k1, .slice (some ⟨g2, 0, none⟩) m k2] 34)).cell? ⟨w.heap.size, 0, none⟩ = some (.int .i64 A) := by go_simp
  have c1 : (w.alloc (.cells #[.int .i64 A, .slice (some ⟨g1, 0, none⟩) n k1, .slice (some ⟨g2, 0, none⟩) m k2] 34)).cell? ⟨w.heap.size, 1, none⟩ = some (.slice (some ⟨g1, 0, none⟩) n k1) := by go_simp
  have c2 : (w.alloc (.cells #[.int .i64 A, .slice (some ⟨g1, 0, none⟩) n k1, .slice (some ⟨g2, 0, none⟩) m k2] 34)).cell? ⟨w.heap.size, 2, none⟩ = some (.slice (some ⟨g2, 0, none⟩) m k2) := by go_simp
  have HBW := hidp (fun W hb => (bstep hb0 hb : Below w.heap.size w W))
  by_cases e1 : 40 < n ∨ 40 < m
  · rw [show alE A xs ys n m = 2 by unfold alE; rw [if_pos e1]]
    by_cases e2 : (40 : Int) < (n : Int)
    · clear e1
      go_enter Try.func32, Try.ntmps32
      go_wp2
      go_ret
      exact ⟨rfl, hb0⟩
    · have e3 : (40 : Int) < (m : Int) := by omega
      clear e1
      go_enter Try.func32, Try.ntmps32
      go_wp2
      go_ret
      exact ⟨rfl, hb0⟩
  have n1 : ¬ (40 : Int) < (n : Int) := by omega
  have n2 : ¬ (40 : Int) < (m : Int) := by omega
  by_cases e4 : n ≠ m ∨ n = 0
  · rw [show alE A xs ys n m = 7 by unfold alE; rw [if_neg e1, if_pos e4]]
    clear e1
    by_cases e5 : n = m
    · obtain rfl : n = 0 := by omega
      subst e5
      clear e4
      go_enter Try.func32, Try.ntmps32
      go_wp2
      go_ret
      exact ⟨rfl, hb0⟩
    · have e6 : ((n : Int) != (m : Int)) = true := by rw [bne_iff_ne]; omega
      clear e4
      go_enter Try.func32, Try.ntmps32
      go_wp2
      go_ret
      exact ⟨rfl, hb0⟩
  obtain rfl : n = m := by omega
  have nI : (1 : Int) ≤ (n : Int) := by omega
  by_cases e7 : A < 1 ∨ 40000000000000 < A
  · rw [show alE A xs ys n n = 1 by unfold alE; rw [if_neg e1, if_neg e4, if_pos e7]]
    clear e1 e4
    by_cases e8 : A < 1
    · clear e7
      go_enter Try.func32, Try.ntmps32
      go_wp2
      go_ret
      exact ⟨rfl, hb0⟩
    · have e9 := e7.resolve_left e8
      clear e7
      go_enter Try.func32, Try.ntmps32
      go_wp2
      go_ret
      exact ⟨rfl, hb0⟩
  have EE := hidp (show alE A xs ys n n = fE (alF A xs ys n) n by unfold alE; rw [if_neg e1, if_neg e4, if_neg e7])
  have a1 : ¬ A < 1 := fun h => e7 (.inl h)
  have a2 : ¬ 40000000000000 < A := fun h => e7 (.inr h)
  clear e1 e4 e7
  go_enter Try.func32, Try.ntmps32
  go_wp2_with fail
  generalize (w.alloc (.cells #[.int .i64 A, .slice (some ⟨g1, 0, none⟩) n k1, .slice (some ⟨g2, 0, none⟩) n k2] 34)) = w1 at *
  have C0 := hidp c0
  have C1 := hidp c1
  have C2 := hidp c2
  clear c0 c1 c2
  have HB0 := hidp hb0
  clear hb0
  go_loopw [38] (fun i wr => ∃ k : Nat, k ≤ n ∧ i = .int .i64 k ∧ Hid (fE (alF A xs ys n) k = 0) ∧ Below w1.heap.size w1 wr) (fun i _ => n - (intOf i).toNat)
  case atStart => exact ⟨0, by omega, rfl, rfl, Below.refl _ _⟩
  case round =>
    obtain ⟨k, hk, rfl, FE, hbl⟩ := hrel
    by_cases hlt : k < n
    · have c0 := ck hbl C0.out
      have c1 := ck hbl C1.out
      have c2 := ck hbl C2.out
      have y1 := ck (HBW.out _ hbl) (Y1.out k hlt)
      have y2 := ck (HBW.out _ hbl) (Y2.out k hlt)
      have d7 : (k : Int) < (n : Int) := by omega
      have NX := hidp (fun h => fE_next (alF A xs ys n) k FE.out h)
      have AT := hidp (fun h => fE_at (alF A xs ys n) k n FE.out h hlt)
      have AF := hidp (show alF A xs ys n k = if gi xs k < 0 ∨ A < gi xs k ∨ gi ys k < 0 ∨ (n : Int) ≤ gi ys k then 1 else 0 from rfl)
      generalize gi xs k = X at *
      generalize gi ys k = Y at *
      by_cases d1 : X < 0
      · have hv : alF A xs ys n k = 1 := by rw [AF.out, if_pos (.inl d1)]
        have RV := hidp (show alE A xs ys n n = 1 by rw [EE.out, AT.out (by rw [hv]; omega), hv])
        have b1 : decide (X < 0) = true := decide_eq_true d1
        clear d1
        clear hv
        go_wp2_with fail
        go_quiet (fail)
        go_wp2
        go_ret
        exact ⟨by rw [RV.out] <;> rfl, HBW.out _ (below_drewN hbl _)⟩
      by_cases d2 : A < X
      · have hv : alF A xs ys n k = 1 := by rw [AF.out, if_pos (.inr (.inl d2))]
        have RV := hidp (show alE A xs ys n n = 1 by rw [EE.out, AT.out (by rw [hv]; omega), hv])
        have b1 : decide (X < 0) = false := decide_eq_false d1
        have b2 : decide (A < X) = true := decide_eq_true d2
        clear d1 d2
        clear hv
        go_wp2_with fail
        go_quiet (fail)
        go_wp2
        go_ret
        exact ⟨by rw [RV.out] <;> rfl, HBW.out _ (below_drewN hbl _)⟩
      by_cases d3 : Y < 0
      · have hv : alF A xs ys n k = 1 := by rw [AF.out, if_pos (.inr (.inr (.inl d3)))]
        have RV := hidp (show alE A xs ys n n = 1 by rw [EE.out, AT.out (by rw [hv]; omega), hv])
        have b1 : decide (X < 0) = false := decide_eq_false d1
        have b2 : decide (A < X) = false := decide_eq_false d2
        have b3 : decide (Y < 0) = true := decide_eq_true d3
        clear d1 d2 d3
        clear hv
        go_wp2_with fail
        go_quiet (fail)
        go_wp2
        go_ret
        exact ⟨by rw [RV.out] <;> rfl, HBW.out _ (below_drewN hbl _)⟩
      by_cases d4 : (n : Int) ≤ Y
      · have hv : alF A xs ys n k = 1 := by rw [AF.out, if_pos (.inr (.inr (.inr d4)))]
        have RV := hidp (show alE A xs ys n n = 1 by rw [EE.out, AT.out (by rw [hv]; omega), hv])
        have b1 : decide (X < 0) = false := decide_eq_false d1
        have b2 : decide (A < X) = false := decide_eq_false d2
        have b3 : decide (Y < 0) = false := decide_eq_false d3
        have b4 : decide ((n : Int) ≤ Y) = true := decide_eq_true d4
        clear d1 d2 d3 d4
        clear hv
        go_wp2_with fail
        go_quiet (fail)
        go_wp2
        go_ret
        exact ⟨by rw [RV.out] <;> rfl, HBW.out _ (below_drewN hbl _)⟩
      · have hv : alF A xs ys n k = 0 := by rw [AF.out, if_neg (by omega)]
        have RV := hidp (NX.out hv)
        have d4' : Y < (n : Int) := by omega
        have b1 : decide (X < 0) = false := decide_eq_false d1
        have b2 : decide (A < X) = false := decide_eq_false d2
        have b3 : decide (Y < 0) = false := decide_eq_false d3
        have b4 : decide ((n : Int) ≤ Y) = false := decide_eq_false d4
        clear d1 d2 d3 d4 d4'
        clear hv
        go_wp2_with fail
        go_quiet (fail)
        go_wp2
        go_roundw
        case rel => exact ⟨k + 1, by omega, by go_num, RV, below_drewN hbl _⟩
        case measure => simp [intOf]; omega
    · obtain rfl : k = n := by omega
      go_wp2
      go_ret
      exact ⟨by rw [EE.out, FE.out] <;> rfl, HBW.out _ hbl⟩
/-- Shares at whatever comes. -/
theorem shares_any (g1 g2 n m k1 k2 : Nat) (A : Int) (xs ys : List Int) (w : World) (h1 : ∀ i, i < n → w.cell? ⟨g1, i, none⟩ = some (.int .i64 (gi xs i))) (h2 : ∀ i, i < m → w.cell? ⟨g2, i, none⟩ = some (.int .i64 (gi ys i))) (hn : n ≤ 9223372036854775807) (hm : m ≤ 9223372036854775807) :
    Calls Try.prog 11 #[aliasW g1 g2 n m k1 k2 A] w fun e w' => ∃ v r, e = .returned (.tuple #[v, .int .i64 r]) ∧ Fr w.heap.size w' v ∧ Below w.heap.size w w' := by
  by_cases hE : alE A xs ys n m = 0
  · have e1 : ¬ (40 < n ∨ 40 < m) := fun h => by unfold alE at hE; rw [if_pos h] at hE; omega
    have e2 : ¬ (n ≠ m ∨ n = 0) := fun h => by unfold alE at hE; rw [if_neg e1, if_pos h] at hE; omega
    have e3 : ¬ (A < 1 ∨ 40000000000000 < A) := fun h => by unfold alE at hE; rw [if_neg e1, if_neg e2, if_pos h] at hE; omega
    unfold alE at hE
    rw [if_neg e1, if_neg e2, if_neg e3] at hE
    obtain rfl : n = m := by omega
    have hz : ∀ i, i < n → ¬ (gi xs i < 0 ∨ A < gi xs i ∨ gi ys i < 0 ∨ (n : Int) ≤ gi ys i) := fun i hi h => by
      have := fE_zero _ n hE i hi
      unfold alF at this
      rw [if_pos h] at this
      omega
    have hAt : AliasAt w g1 g2 n A (gi xs) (fun i => (gi ys i).toNat) := ⟨h1, fun i hi => by rw [h2 i hi]; have := hz i hi; rw [Int.toNat_of_nonneg (by omega)], by omega, by omega, fun i hi => by have := hz i hi; omega, fun i hi => by have := hz i hi; omega⟩
    refine (asharesw_c g1 g2 n k1 k2 A _ _ w hAt).mono ?_
    rintro e w' ⟨g, rfl, hO, hB⟩
    exact ⟨_, _, rfl, Fr.tab hO (by omega) (fun j hj => by have := shF_bd (gi xs) (fun i => (gi ys i).toNat) A n n j hAt.bd hAt.bA.2 (by omega) (Nat.le_refl _) hj (by omega); omega), hB⟩
  · have CC := hidp (fun W (hb : Below w.heap.size w W) => acheck_e g1 g2 n m k1 k2 A xs ys W (fun i hi => ck hb (h1 i hi)) (fun i hi => ck hb (h2 i hi)) hn hm)
    have hne : (alE A xs ys n m != 0) = true := by rw [bne_iff_ne]; exact hE
    clear h1 h2 hE
    generalize alE A xs ys n m = E at *
    unfold aliasW at *
    have hb1 : Below w.heap.size w (w.alloc (.cells #[.int .i64 A, .slice (some ⟨g1, 0, none⟩) n k1, .slice (some ⟨g2, 0, none⟩) m k2] 34)) := bal (Below.refl _ _) _
    go_enter Try.func11, Try.ntmps11
    go_wp2_with fail
    refine (CC.out _ hb1).mono ?_
    rintro e wa ⟨rfl, hba⟩
    go_wp2
    go_ret2
    exact ⟨_, _, rfl, Fr.nil _ _, bstep hb1 hba⟩
end Go.Proofs.Ytfhmckmglkjbeaa
