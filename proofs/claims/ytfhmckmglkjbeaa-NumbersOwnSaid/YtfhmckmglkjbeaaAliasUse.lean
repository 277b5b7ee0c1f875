/- Contracts of alias.Make at lists that are no weights, and of alias.Check, Pick and Shares at what was made. -/
import Derived.Test.YtfhmckmglkjbeaaAlias
import Derived.Deep.QuietTactic
import Derived.BigQuiet
import Derived.WalkSmall
namespace Go.Proofs.Ytfhmckmglkjbeaa
open Go.ChangeShapes Go.WideShapes Go.ChangeAt Go.RowKit
set_option maxRecDepth 20000

/-- Columns that lie in memory. -/
structure AliasAt (W : World) (g1 g2 n : Nat) (A : Int) (own : Nat → Int) (rest : Nat → Nat) : Prop where
  y1 : ∀ i, i < n → W.cell? ⟨g1, i, none⟩ = some (.int .i64 (own i))
  y2 : ∀ i, i < n → W.cell? ⟨g2, i, none⟩ = some (.int .i64 (rest i : Nat))
  n1 : 1 ≤ n ∧ n ≤ 40
  bA : 1 ≤ A ∧ A ≤ 40000000000000
  bd : ∀ i, i < n → 0 ≤ own i ∧ own i ≤ A
  rt : ∀ i, i < n → rest i < n
theorem AliasAt.below {W W' : World} {g1 g2 n : Nat} {A : Int} {own : Nat → Int} {rest : Nat → Nat} (h : AliasAt W g1 g2 n A own rest) (hb : Below W.heap.size W W') : AliasAt W' g1 g2 n A own rest :=
  ⟨fun i hi => ck hb (h.y1 i hi), fun i hi => ck hb (h.y2 i hi), h.n1, h.bA, h.bd, h.rt⟩
theorem AliasAt.of {W : World} {B B' g1 g2 n : Nat} {A : Int} {own : Nat → Int} {rest : Nat → Nat} {V : Nat → Int} (hF : Wk.Fin n A V own rest) (o1 : W.ownsRow B 3 1 (.slice (some ⟨g1, 0, none⟩) n n) n (row own n)) (o2 : W.ownsRow B' 3 1 (.slice (some ⟨g2, 0, none⟩) n n) n (row (fun j => (rest j : Nat)) n)) (n1 : 1 ≤ n ∧ n ≤ 40) (bA : 1 ≤ A ∧ A ≤ 40000000000000) : AliasAt W g1 g2 n A own rest :=
  ⟨fun i hi => by have := o1.cellAt i (by omega); unfold row at this; rw [tab_get _ _ _ hi] at this; exact this,
   fun i hi => by have := o2.cellAt i (by omega); unfold row at this; rw [tab_get _ _ _ hi] at this; exact this, n1, bA, hF.bd, hF.rt⟩
/-- The value of columns. -/
abbrev aliasV (g1 g2 n : Nat) (A : Int) : Value := .agg #[.int .i64 A, .slice (some ⟨g1, 0, none⟩) n n, .slice (some ⟨g2, 0, none⟩) n n]

set_option maxHeartbeats 2000000 in
theorem make_bad (a : Option Addr) (n c : Nat) (xs : List Int) (w : World) (h : IntsAt w a n c xs) (hE : ¬ wtsE xs n = 0) :
    Calls Try.prog 10 #[.slice a n c] w fun e w' => e = .returned (.tuple #[.agg #[.int .i64 0, .slice none 0 0, .slice none 0 0], .int .i64 (wtsE xs n)]) ∧ Below w.heap.size w w' := by
  have CW := hidp (fun W hB => weights_c a n c xs W (h.below (w' := W) hB))
  have mm := h.max
  have ee := h.le
  have hE1 : (wtsE xs n == 0) = false := by rw [beq_eq_false_iff_ne]; exact hE
  clear hE h
  go_enter Try.func10, Try.ntmps10
  go_wp2_with fail
  refine (CW.out _ (bal (Below.refl _ _) _)).mono ?_
  rintro e w' ⟨rfl, rfl⟩
  go_wp2_with fail
  exact bodyPost_ret (v := .tuple #[.agg #[.int .i64 0, .slice none 0 0, .slice none 0 0], .int .i64 (wtsE xs n)]) (by simp [results, Try.results10, go_sem]) rfl ⟨rfl, bal (Below.refl _ _) _⟩

set_option maxHeartbeats 2000000 in
theorem acheck_c (g1 g2 n : Nat) (A : Int) (own : Nat → Int) (rest : Nat → Nat) (w : World) (h : AliasAt w g1 g2 n A own rest) :
    Calls Try.prog 32 #[aliasV g1 g2 n A] w fun e w' => e = .returned (.int .i64 0) ∧ Below w.heap.size w w' := by
  have Y1 := hidp h.y1
  have Y2 := hidp h.y2
  have BD := hidp h.bd
  have RT := hidp h.rt
  obtain ⟨n1, n2⟩ := h.n1
  obtain ⟨b1, b2⟩ := h.bA
  have nI : (1 : Int) ≤ (n : Int) := by omega
  have HH := hidp h
  clear h
  unfold aliasV
  go_enter Try.func32, Try.ntmps32
  go_wp2_with fail
  have c0 : (w.alloc (.cells #[.int .i64 A, .slice (some ⟨g1, 0, none⟩) n n, .slice (some ⟨g2, 0, none⟩) n n] 34)).cell? ⟨w.heap.size, 0, none⟩ = some (.int .i64 A) := by go_simp
  have c1 : (w.alloc (.cells #[.int .i64 A, .slice (some ⟨g1, 0, none⟩) n n, .slice (some ⟨g2, 0, none⟩) n n] 34)).cell? ⟨w.heap.size, 1, none⟩ = some (.slice (some ⟨g1, 0, none⟩) n n) := by go_simp
  have c2 : (w.alloc (.cells #[.int .i64 A, .slice (some ⟨g1, 0, none⟩) n n, .slice (some ⟨g2, 0, none⟩) n n] 34)).cell? ⟨w.heap.size, 2, none⟩ = some (.slice (some ⟨g2, 0, none⟩) n n) := by go_simp
  have hb0 : Below w.heap.size w (w.alloc (.cells #[.int .i64 A, .slice (some ⟨g1, 0, none⟩) n n, .slice (some ⟨g2, 0, none⟩) n n] 34)) := bal (Below.refl _ _) _
  have HBW := hidp (fun W hb => (bstep hb0 hb : Below w.heap.size w W))
  generalize (w.alloc (.cells #[.int .i64 A, .slice (some ⟨g1, 0, none⟩) n n, .slice (some ⟨g2, 0, none⟩) n n] 34)) = w1 at *
  have C0 := hidp c0
  have C1 := hidp c1
  have C2 := hidp c2
  clear c0 c1 c2 hb0
  go_loopw [38] (fun i wr => ∃ k : Nat, k ≤ n ∧ i = .int .i64 k ∧ Below w1.heap.size w1 wr) (fun i _ => n - (intOf i).toNat)
  case atStart => exact ⟨0, by omega, rfl, Below.refl _ _⟩
  case round =>
    obtain ⟨k, hk, rfl, hbl⟩ := hrel
    by_cases hlt : k < n
    · have c0 := ck hbl C0.out
      have c1 := ck hbl C1.out
      have c2 := ck hbl C2.out
      have hA := HH.out.below (HBW.out _ hbl)
      have y1 := hA.y1 k hlt
      have y2 := hA.y2 k hlt
      obtain ⟨d1, d2⟩ := hA.bd k hlt
      have d3 := hA.rt k hlt
      have d4 : ¬ own k < 0 := by omega
      have d5 : ¬ A < own k := by omega
      have d6 : ((rest k : Nat) : Int) < (n : Int) := by omega
      have d7 : (k : Int) < (n : Int) := by omega
      clear hA
      go_wp2_with fail
      go_quiet (fail)
      go_wp2
      go_roundw
      case rel => exact ⟨k + 1, by omega, by go_num, below_drewN hbl _⟩
      case measure => simp [intOf]; omega
    · obtain rfl : k = n := by omega
      go_wp2
      go_ret
      exact ⟨rfl, HBW.out _ hbl⟩

/-- Who is picked. -/
def apk (own : Nat → Int) (rest : Nat → Nat) (c p : Nat) : Nat := if (p : Int) < own c then c else rest c
/-- What is shared out when k columns were read. -/
def shF (own : Nat → Int) (rest : Nat → Nat) (A : Int) (k j : Nat) : Int := (if j < k then own j else 0) + Wk.sumT (fun i => if rest i = j then A - own i else 0) k
theorem shF_half (own : Nat → Int) (rest : Nat → Nat) (A : Int) (k j : Nat) : Wk.upd (shF own rest A k) k (shF own rest A k k + own k) j = (if j < k + 1 then own j else 0) + Wk.sumT (fun i => if rest i = j then A - own i else 0) k := by
  by_cases e : j = k
  · subst e
    rw [Wk.upd_at, if_pos (by omega)]
    unfold shF
    rw [if_neg (by omega)]
    omega
  · rw [Wk.upd_ne _ _ _ _ e]
    unfold shF
    by_cases e2 : j < k
    · rw [if_pos e2, if_pos (by omega)]
    · rw [if_neg e2, if_neg (by omega)]
theorem shF_step (own : Nat → Int) (rest : Nat → Nat) (A : Int) (k j : Nat) : Wk.upd (Wk.upd (shF own rest A k) k (shF own rest A k k + own k)) (rest k) (Wk.upd (shF own rest A k) k (shF own rest A k k + own k) (rest k) + (A - own k)) j = shF own rest A (k + 1) j := by
  by_cases e : j = rest k
  · subst e
    rw [Wk.upd_at, shF_half]
    unfold shF
    simp only [Wk.sumT]
    rw [if_pos trivial]
    omega
  · rw [Wk.upd_ne _ _ _ _ e, shF_half]
    unfold shF
    simp only [Wk.sumT]
    rw [if_neg (show ¬ rest k = j from fun h => e h.symm)]
    omega
theorem sumT_bd (f : Nat → Int) (M : Int) : ∀ k, (∀ i, i < k → 0 ≤ f i ∧ f i ≤ M) → 0 ≤ Wk.sumT f k ∧ Wk.sumT f k ≤ k * M
  | 0, _ => by simp [Wk.sumT]
  | k + 1, h => by
    have a := sumT_bd f M k (fun i hi => h i (by omega))
    have b := h k (by omega)
    simp only [Wk.sumT, Int.natCast_add, Int.add_mul]
    simp
    omega
theorem shF_bd (own : Nat → Int) (rest : Nat → Nat) (A : Int) (n k j : Nat) (hb : ∀ i, i < n → 0 ≤ own i ∧ own i ≤ A) (bA : A ≤ 40000000000000) (h0 : 0 ≤ A) (hk : k ≤ n) (hj : j < n) (hn : n ≤ 40) : 0 ≤ shF own rest A k j ∧ shF own rest A k j ≤ 1640000000000000 := by
  have a := sumT_bd (fun i => if rest i = j then A - own i else 0) 40000000000000 k (fun i hi => by
    have := hb i (by omega)
    show 0 ≤ (if rest i = j then A - own i else 0) ∧ (if rest i = j then A - own i else 0) ≤ 40000000000000
    split <;> omega)
  have b := hb j hj
  unfold shF
  split <;> omega

set_option maxHeartbeats 4000000 in
theorem ashares_c (g1 g2 n : Nat) (A : Int) (own : Nat → Int) (rest : Nat → Nat) (w : World) (h : AliasAt w g1 g2 n A own rest) :
    Calls Try.prog 11 #[aliasV g1 g2 n A] w fun e w' => ∃ g, e = .returned (.tuple #[.slice (some ⟨g, 0, none⟩) n n, .int .i64 0]) ∧ w'.ownsRow w.heap.size 3 1 (.slice (some ⟨g, 0, none⟩) n n) n (row (shF own rest A n) n) ∧ Below w.heap.size w w' := by
  obtain ⟨ib, hib, hz0, hz1, hz2⟩ := info_parts info_int
  have HH := hidp h
  obtain ⟨n1, n2⟩ := h.n1
  obtain ⟨b1, b2⟩ := h.bA
  have nI : (1 : Int) ≤ (n : Int) := by omega
  have CC := hidp (fun W (hb : Below w.heap.size w W) => acheck_c g1 g2 n A own rest W (h.below hb))
  clear h
  unfold aliasV at *
  go_enter Try.func11, Try.ntmps11
  go_wp2_with fail
  have hb1 : Below w.heap.size w (w.alloc (.cells #[.int .i64 A, .slice (some ⟨g1, 0, none⟩) n n, .slice (some ⟨g2, 0, none⟩) n n] 34)) := bal (Below.refl _ _) _
  refine (CC.out _ hb1).mono ?_
  rintro e wa ⟨rfl, hba⟩
  have c0 : wa.cell? ⟨w.heap.size, 0, none⟩ = some (.int .i64 A) := ck hba (by go_simp)
  have c1 : wa.cell? ⟨w.heap.size, 1, none⟩ = some (.slice (some ⟨g1, 0, none⟩) n n) := ck hba (by go_simp)
  have c2 : wa.cell? ⟨w.heap.size, 2, none⟩ = some (.slice (some ⟨g2, 0, none⟩) n n) := ck hba (by go_simp)
  have hb2 := bstep hb1 hba
  have hsa : w.heap.size + 1 ≤ wa.heap.size := by have := hba.size; simp at this; omega
  have C0 := hidp c0
  have C1 := hidp c1
  have C2 := hidp c2
  have HB2 := hidp hb2
  clear hb1 hba hb2 CC
  go_wp2_with (at_make; refine wpList_make_full wa rfl _ _ 22 rfl wa.heap.size 3 ib (.int .i64 0) 1 Try.underlying22 hib hz0 hz1 .i64 .i64 n n n rfl rfl rfl rfl (by rw [hz2]; omega) (by unfold maxLen; omega) (Nat.le_refl _) ?_; intro wb how hgr; have hbb := below_new hgr; have d0 := ck hbb C0.out; have d1 := ck hbb C1.out; have d2 := ck hbb C2.out)
  have hbb : Below wa.heap.size wa wb := below_new hgr
  have HC := hidp (And.intro (ck hbb C0.out) (And.intro (ck hbb C1.out) (ck hbb C2.out)))
  have HBW := hidp (bstep HB2.out hbb)
  have e0 : (madeCells (Value.int .i64 0).cells (n * 1)).toList = row (shF own rest A 0) n := by
    show (madeCells #[Value.int .i64 0] (n * 1)).toList = _
    rw [made_tab]
    exact tab_congr _ _ _ (fun i _ => by simp [shF, Wk.sumT])
  rw [e0] at how
  have hg1 := hgr.size
  have SB := hidp (fun k j => shF_bd own rest A n k j HH.out.bd b2 (by omega))
  have W0 := hidp hbb
  have G1 : g1 < w.heap.size := lt_of_cell (HH.out.y1 0 (by omega))
  have G2 : g2 < w.heap.size := lt_of_cell (HH.out.y2 0 (by omega))
  have HA := hidp (HH.out.below HB2.out)
  have HBA := HB2
  clear e0 hgr hbb C0 C1 C2 HB2
  obtain ⟨g, hg⟩ : ∃ g, g = wa.heap.size := ⟨_, rfl⟩
  rw [← hg] at how hsa W0
  rw [← hg]
  have HG := hidp hg
  clear hg
  go_loopw [20] (fun i wr => ∃ k : Nat, k ≤ n ∧ i = .int .i64 k ∧ wr.ownsRow g 3 1 (.slice (some ⟨g, 0, none⟩) n n) n (row (shF own rest A k) n) ∧ Below g wa wr) (fun i _ => n - (intOf i).toNat)
  case atStart => exact ⟨0, by omega, rfl, how, W0.out⟩
  case round =>
    obtain ⟨k, hk, rfl, ho, hbl⟩ := hrel
    by_cases hlt : k < n
    · have q0 : wr.cell? ⟨w.heap.size, 0, none⟩ = some (.int .i64 A) := (hbl.cell (p := ⟨w.heap.size, 0, none⟩) (by show w.heap.size < g; omega)).trans c0
      have q1 : wr.cell? ⟨w.heap.size, 1, none⟩ = some (.slice (some ⟨g1, 0, none⟩) n n) := (hbl.cell (p := ⟨w.heap.size, 1, none⟩) (by show w.heap.size < g; omega)).trans c1
      have q2 : wr.cell? ⟨w.heap.size, 2, none⟩ = some (.slice (some ⟨g2, 0, none⟩) n n) := (hbl.cell (p := ⟨w.heap.size, 2, none⟩) (by show w.heap.size < g; omega)).trans c2
      have y1 : wr.cell? ⟨g1, k, none⟩ = some (.int .i64 (own k)) := (hbl.cell (p := ⟨g1, k, none⟩) (by show g1 < g; omega)).trans (HA.out.y1 k hlt)
      have y2 : wr.cell? ⟨g2, k, none⟩ = some (.int .i64 (rest k : Nat)) := (hbl.cell (p := ⟨g2, k, none⟩) (by show g2 < g; omega)).trans (HA.out.y2 k hlt)
      have x1 : wr.cell? ⟨g, k, none⟩ = some (.int .i64 (shF own rest A k k)) := by have := ho.cellAt k (by omega); unfold row at this; rw [tab_get _ _ _ hlt] at this; exact this
      have z1 : wr.frozen? ⟨g, k, none⟩ = false := ho.frozenAt k
      obtain ⟨v1, v2⟩ := SB.out k k hk hlt (by omega)
      obtain ⟨d1, d2⟩ := HA.out.bd k hlt
      have d3 := HA.out.rt k hlt
      have kI : (k : Int) < (n : Int) := by omega
      have rI : ((rest k : Nat) : Int) < (n : Int) := by omega
      go_upto_region 9 with fail
      have ho2 := own_store_tab ho k (.int .i64 (shF own rest A k k + own k))
      rw [← row_upd] at ho2
      have hb2 := hbl.setCell (p := ⟨g, k, none⟩) (Nat.le_refl _) (.int .i64 (shF own rest A k k + own k))
      have STEP := hidp (shF_step own rest A k)
      have HV := hidp (show 0 ≤ Wk.upd (shF own rest A k) k (shF own rest A k k + own k) (rest k) ∧ Wk.upd (shF own rest A k) k (shF own rest A k k + own k) (rest k) ≤ 1680000000000000 by
        by_cases e : rest k = k
        · rw [e, Wk.upd_at]; omega
        · rw [Wk.upd_ne _ _ _ _ e]; have := SB.out k (rest k) hk d3 (by omega); omega)
      generalize wr.setCell ⟨g, k, none⟩ (.int .i64 (shF own rest A k k + own k)) = W2 at *
      generalize Wk.upd (shF own rest A k) k (shF own rest A k k + own k) = F2 at *
      obtain ⟨v3, v4⟩ := HV.out
      clear q0 q1 q2 y1 y2 x1 z1 hbl ho v1 v2
      have q0 : W2.cell? ⟨w.heap.size, 0, none⟩ = some (.int .i64 A) := (hb2.cell (p := ⟨w.heap.size, 0, none⟩) (by show w.heap.size < g; omega)).trans c0
      have q2 : W2.cell? ⟨w.heap.size, 2, none⟩ = some (.slice (some ⟨g2, 0, none⟩) n n) := (hb2.cell (p := ⟨w.heap.size, 2, none⟩) (by show w.heap.size < g; omega)).trans c2
      have y2 : W2.cell? ⟨g2, k, none⟩ = some (.int .i64 (rest k : Nat)) := (hb2.cell (p := ⟨g2, k, none⟩) (by show g2 < g; omega)).trans (HA.out.y2 k hlt)
      have x1 : W2.cell? ⟨g, rest k, none⟩ = some (.int .i64 (F2 (rest k))) := by have := ho2.cellAt (rest k) (by omega); unfold row at this; rw [tab_get _ _ _ d3] at this; exact this
      have z1 : W2.frozen? ⟨g, rest k, none⟩ = false := ho2.frozenAt (rest k)
      go_still_tail 13, (by kernel_rfl)
      repeat still_step
      change wpList _ _ _ _ _ W2.drew
      have x2 : W2.drew.cell? ⟨g, rest k, none⟩ = some (.int .i64 (F2 (rest k))) := x1
      have z2 : W2.drew.frozen? ⟨g, rest k, none⟩ = false := z1
      go_wp2_with fail
      go_roundw
      case measure => simp [intOf]; omega
      case rel =>
        have ho3 := own_store_tab ho2 (rest k) (.int .i64 (F2 (rest k) + (A - own k)))
        rw [← row_upd] at ho3
        refine ⟨k + 1, by omega, by go_num, ?_, Below.drew (hb2.setCell (p := ⟨g, rest k, none⟩) (Nat.le_refl _) _)⟩
        rw [show row (shF own rest A (k + 1)) n = row (Wk.upd F2 (rest k) (F2 (rest k) + (A - own k))) n from tab_congr _ _ _ (fun j _ => by rw [STEP.out])]
        exact ho3.drew
    · obtain rfl : k = n := by omega
      go_wp2
      go_ret2
      exact ⟨g, rfl, owns_mono ho (by omega), bstep HBA.out (by rw [← HG.out]; exact hbl)⟩
end Go.Proofs.Ytfhmckmglkjbeaa
