/- Contracts of package bloom: Check, places, Put, Has and Join. -/
import Derived.Test.YtffocoflmbhknaaCloneB
import Derived.Test.YtffocoflmbhknaaCFunc
import Derived.Test.YtffocoflmbhknaaMix
import Derived.Test.YtffocoflmbhknaaPlc
import Derived.Test.YtffocoflmbhknaaMgKit
import Derived.Deep.QuietTactic
import Derived.BigQuiet
import Derived.WalkSmall
import Derived.Deep.DeepCutAuto
import Derived.StillTailTactics
namespace Go.Proofs.Ytffocoflmbhknaa
open Go.ChangeShapes Go.WideShapes Go.ChangeAt Go.RowKit
set_option maxRecDepth 20000
open MixMath

/-- What stands outside one block stays. -/
def Only (g : Nat) (W W' : World) : Prop := ∀ p : Addr, p.block ≠ g → W'.cell? p = W.cell? p ∧ W'.frozen? p = W.frozen? p
theorem Only.refl (g : Nat) (W : World) : Only g W W := fun _ _ => ⟨rfl, rfl⟩
theorem Only.setCell {g : Nat} {W W' : World} (h : Only g W W') (k : Nat) (v : Value) : Only g W (W'.setCell ⟨g, k, none⟩ v) := fun p hp =>
  ⟨by rw [World.cell?_setCell_far _ _ _ _ (fun e => hp e.symm)]; exact (h p hp).1, by rw [← (h p hp).2]; simp⟩
theorem Only.drewN {g : Nat} {W W' : World} (h : Only g W W') (q : Nat) : Only g W (W'.drewN q) := h
theorem Only.drew {g : Nat} {W W' : World} (h : Only g W W') : Only g W W'.drew := h
theorem Only.cell {g : Nat} {W W' : World} (h : Only g W W') {b i : Nat} {v : Value} (hv : W.cell? ⟨b, i, none⟩ = some v) (hb : b ≠ g) : W'.cell? ⟨b, i, none⟩ = some v := (h ⟨b, i, none⟩ hb).1.trans hv
theorem Only.fro {g : Nat} {W W' : World} (h : Only g W W') {b i : Nat} (hv : W.frozen? ⟨b, i, none⟩ = false) (hb : b ≠ g) : W'.frozen? ⟨b, i, none⟩ = false := (h ⟨b, i, none⟩ hb).2.trans hv

/-- The error that a filter's Check gives. -/
def fchk (sz wy : Int) (n : Nat) : Int := if sz < 1 then 1 else if 256 < sz then 1 else if wy < 1 then 1 else if 8 < wy then 1 else if (n : Int) = sz then 0 else 7
theorem fchk_bd (sz wy : Int) (n : Nat) : 0 ≤ fchk sz wy n ∧ fchk sz wy n ≤ 7 := by unfold fchk; repeat' split <;> omega
theorem fchk_zero (sz wy : Int) (n : Nat) (h : fchk sz wy n = 0) : 1 ≤ sz ∧ sz ≤ 256 ∧ 1 ≤ wy ∧ wy ≤ 8 ∧ (n : Int) = sz := by
  unfold fchk at h
  repeat' split at h
  all_goals omega
theorem fchk_ok (n k : Nat) (h1 : 1 ≤ n) (h2 : n ≤ 256) (h3 : 1 ≤ k) (h4 : k ≤ 8) : fchk (n : Nat) (k : Nat) n = 0 := by
  unfold fchk
  rw [if_neg (by omega), if_neg (by omega), if_neg (by omega), if_neg (by omega), if_pos rfl]
abbrev filtV (sz wy : Int) (a : Option Addr) (n c : Nat) : Value := .agg #[.int .i64 sz, .int .i64 wy, .slice a n c]

set_option maxHeartbeats 2000000 in
theorem bcheck_c (sz wy : Int) (a : Option Addr) (n c : Nat) (w : World) :
    Calls Try.prog 34 #[filtV sz wy a n c] w fun e w' => e = .returned (.int .i64 (fchk sz wy n)) ∧ Below w.heap.size w w' := by
  have hb0 : Below w.heap.size w (w.alloc (.cells #[.int .i64 sz, .int .i64 wy, .slice a n c] 24)) := bal (Below.refl _ _) _
  have HB0 := hidp hb0
  clear hb0
  unfold filtV
  by_cases h1 : sz < 1
  · have E := hidp (show fchk sz wy n = 1 by unfold fchk; rw [if_pos h1])
    go_enter Try.func34, Try.ntmps34
    go_wp2_with fail
    go_ret
    exact ⟨by rw [E.out]; rfl, HB0.out⟩
  by_cases h2 : 256 < sz
  · have E := hidp (show fchk sz wy n = 1 by unfold fchk; rw [if_neg h1, if_pos h2])
    go_enter Try.func34, Try.ntmps34
    go_wp2_with fail
    go_ret
    exact ⟨by rw [E.out]; rfl, HB0.out⟩
  by_cases h3 : wy < 1
  · have E := hidp (show fchk sz wy n = 1 by unfold fchk; rw [if_neg h1, if_neg h2, if_pos h3])
    go_enter Try.func34, Try.ntmps34
    go_wp2_with fail
    go_ret
    exact ⟨by rw [E.out]; rfl, HB0.out⟩
  by_cases h4 : 8 < wy
  · have E := hidp (show fchk sz wy n = 1 by unfold fchk; rw [if_neg h1, if_neg h2, if_neg h3, if_pos h4])
    go_enter Try.func34, Try.ntmps34
    go_wp2_with fail
    go_ret
    exact ⟨by rw [E.out]; rfl, HB0.out⟩
  by_cases h5 : (n : Int) = sz
  · have E := hidp (show fchk sz wy n = 0 by unfold fchk; rw [if_neg h1, if_neg h2, if_neg h3, if_neg h4, if_pos h5])
    have h5' : ((n : Int) != sz) = false := by rw [h5]; simp
    clear h5
    go_enter Try.func34, Try.ntmps34
    go_wp2_with fail
    go_ret
    exact ⟨by rw [E.out]; rfl, HB0.out⟩
  · have E := hidp (show fchk sz wy n = 7 by unfold fchk; rw [if_neg h1, if_neg h2, if_neg h3, if_neg h4, if_neg h5])
    have h5' : ((n : Int) != sz) = true := by simp [h5]
    clear h5
    go_enter Try.func34, Try.ntmps34
    go_wp2_with fail
    go_ret
    exact ⟨by rw [E.out]; rfl, HB0.out⟩

theorem next_st (s i : Nat) (W : World) : Calls Try.prog 47 #[.int .u64 (stN s i : Nat)] W fun e w' => e = .returned (.tuple #[.int .u64 (stN s (i + 1) : Nat), .int .u64 (mixN (stN s (i + 1)) : Nat)]) ∧ W = w' := by
  have h := next_c (stN s i) (stN_lt _ _) W
  rw [stN_step] at h
  exact h
set_option maxHeartbeats 4000000 in
theorem places_c (sz wy : Nat) (a : Option Addr) (n c : Nat) (key : Int) (w : World) (h1 : 1 ≤ sz) (h2 : sz ≤ 256) (h4 : wy ≤ 8) :
    Calls Try.prog 35 #[filtV sz wy a n c, .int .i64 key] w fun e w' => ∃ v, e = .returned v ∧ w'.ownsRow w.heap.size 3 1 v wy ((plcL sz key wy).map (Value.int .i64)) ∧ Below w.heap.size w w' := by
  have CN := hidp (fun i W => next_st (keyN key) i W)
  have K := hidp (keyN_cast key)
  have SZ := hidp (stN_zero (keyN key) (keyN_lt key))
  unfold filtV plcL
  go_enter Try.func35, Try.ntmps35
  go_wp2_with fail
  have hb0 : Below w.heap.size w (w.alloc (.cells #[.int .i64 (sz : Nat), .int .i64 (wy : Nat), .slice a n c] 24)) := bal (Below.refl _ _) _
  have hs0 : (w.alloc (.cells #[.int .i64 (sz : Nat), .int .i64 (wy : Nat), .slice a n c] 24)).heap.size = w.heap.size + 1 := by simp
  have c0 : (w.alloc (.cells #[.int .i64 (sz : Nat), .int .i64 (wy : Nat), .slice a n c] 24)).cell? ⟨w.heap.size, 0, none⟩ = some (.int .i64 (sz : Nat)) := by go_simp
  generalize (w.alloc (.cells #[.int .i64 (sz : Nat), .int .i64 (wy : Nat), .slice a n c] 24)) = w1 at *
  have C0 := hidp c0
  have HB := hidp hb0
  clear c0 hb0
  go_loopw [5, 6, 12] (fun v s i wr => ∃ k : Nat, k ≤ wy ∧ i = .int .i64 k ∧ s = .int .u64 (stN (keyN key) k : Nat) ∧ wr.ownsRow w1.heap.size 3 1 v k ((tab (fun i => ((plc sz key i : Nat) : Int)) k).map (Value.int .i64)) ∧ Below w1.heap.size w1 wr) (fun _ _ i _ => wy - (intOf i).toNat)
  case atStart => exact ⟨0, by omega, rfl, by rw [SZ.out, K.out], World.ownsRow_nil _ _ _ _, Below.refl _ _⟩
  case round =>
    obtain ⟨k, hk, rfl, rfl, hv, hbl⟩ := hrel
    by_cases hlt : k < wy
    · have q0 := ck hbl C0.out
      have X := mixN_lt (stN (keyN key) (k + 1))
      have CNk := fun W => hidp (CN.out k W)
      have XE : plc sz key k = mixN (stN (keyN key) (k + 1)) % sz := rfl
      generalize mixN (stN (keyN key) (k + 1)) = x at *
      have X2 : x % sz < sz := Nat.mod_lt _ (by omega)
      have WR := hidp (show wrap64 ((x : Int) % (sz : Int)) = ((plc sz key k : Nat) : Int) by
        rw [XE]
        have : ((x : Int) % (sz : Int)) = ((x % sz : Nat) : Int) := by omega
        rw [this]
        exact IntWalk.wrap64_in _ ⟨by omega, by omega⟩)
      have hsw : w1.heap.size ≤ wr.heap.size := hbl.size
      have hx63 : x < 18446744073709551616 := X
      clear XE X X2
      go_wp2_with (first | (go_at_call 47; refine (CNk _).out.mono ?_; rintro e w' ⟨rfl, rfl⟩) | (at_builtin; refine wpList_append_new rfl (.tmp 19) (.tmp 26) 53 rfl w1.heap.size 3 _ 1 8 info_int rfl (by decide) Try.underlying53 _ k _ rfl hv rfl (one_int _ _) rfl rfl (by omega) (by decide) hsw ?_; intro v1 x1 nv g1 d1))
      rw [WR.out] at nv
      go_roundw
      case measure => simp [intOf]; omega
      case rel => exact ⟨k + 1, by omega, by go_num, rfl, by rw [tab_snoc, List.map_append]; exact nv, append_step hv hbl (Nat.le_refl _) g1⟩
    · obtain rfl : k = wy := by omega
      go_wp2
      go_ret
      exact ⟨_, rfl, owns_mono hv (by omega), bstep HB.out hbl⟩
/-- Is j one of the first k places? -/
def hitP (P : Nat → Nat) : Nat → Nat → Bool
  | 0, _ => false
  | k + 1, j => hitP P k j || decide (P k = j)
theorem hit_iff (P : Nat → Nat) (k j : Nat) : hitP P k j = true ↔ ∃ i, i < k ∧ P i = j := by
  induction k with
  | zero => simp [hitP]
  | succ k ih =>
    simp only [hitP, Bool.or_eq_true, decide_eq_true_eq, ih]
    constructor
    · rintro (⟨i, h1, h2⟩ | h)
      · exact ⟨i, by omega, h2⟩
      · exact ⟨k, by omega, h⟩
    · rintro ⟨i, h1, h2⟩
      by_cases e : i = k
      · exact .inr (by rw [← e]; exact h2)
      · exact .inl ⟨i, by omega, h2⟩
theorem cell_off {W : World} {b b' i j : Nat} {v u : Value} (h : W.cell? ⟨b, i, none⟩ = some v) (hne : b ≠ b') : (W.setCell ⟨b', j, none⟩ u).cell? ⟨b, i, none⟩ = some v := by
  rw [World.cell?_setCell_far _ _ _ _ (fun e => hne e.symm)]; exact h
theorem map_tabB (xs : List Bool) (n : Nat) (h : xs.length = n) : xs.map Value.bool = tab (fun j => Value.bool (gb xs j)) n := by
  apply List.ext_getElem?
  intro i
  by_cases hi : i < n
  · rw [tab_get _ _ _ hi, List.getElem?_map, List.getElem?_eq_getElem (by omega)]
    simp [gb, List.getD_eq_getElem?_getD, List.getElem?_eq_getElem (show i < xs.length by omega)]
  · rw [List.getElem?_eq_none (by simp; omega), List.getElem?_eq_none (by rw [tab_len]; omega)]
theorem row_bool_upd (f : Nat → Bool) (n k : Nat) (v : Bool) : tab (fun j => if j = k then Value.bool v else Value.bool (f j)) n = tab (fun j => Value.bool (if j = k then v else f j)) n :=
  tab_congr _ _ _ (fun j _ => by split <;> rfl)

set_option maxHeartbeats 4000000 in
theorem bput_core (P : Nat → Nat) (sz wy : Nat) (a : Option Addr) (c : Nat) (bs : List Bool) (key : Int) (w : World) (h : BoolsAt w a sz c bs) (hP : ∀ i, P i < sz) (hCP : ∀ a' c' W, Calls Try.prog 35 #[filtV sz wy a' sz c', .int .i64 key] W fun e w' => ∃ v, e = .returned v ∧ w'.ownsRow W.heap.size 3 1 v wy ((tab (fun i => ((P i : Nat) : Int)) wy).map (Value.int .i64)) ∧ Below W.heap.size W w') (h1 : 1 ≤ sz) (h2 : sz ≤ 256) (h3 : 1 ≤ wy) (h4 : wy ≤ 8) :
    Calls Try.prog 9 #[filtV sz wy a sz c, .int .i64 key] w fun e w' => ∃ g cv, e = .returned (.tuple #[filtV sz wy (some ⟨g, 0, none⟩) sz cv, .int .i64 0])
      ∧ w'.ownsRow w.heap.size 4 1 (.slice (some ⟨g, 0, none⟩) sz cv) sz ((tab (fun j => gb bs j || hitP P wy j) sz).map Value.bool) ∧ Below w.heap.size w w' := by
  have H := hidp h
  have CK := hidp (fun W => bcheck_c (sz : Nat) (wy : Nat) a sz c W)
  have F0 := hidp (fchk_ok sz wy h1 h2 h3 h4)
  have CC := hidp (fun W hb => cloneb_c a sz c bs W (h.below (w' := W) hb) (by omega))
  have CP := hidp hCP
  have PL := hidp hP
  clear h hP hCP
  unfold filtV at *
  go_enter Try.func9, Try.ntmps9
  go_wp2_with fail
  have hb1 : Below w.heap.size w ((w.alloc (.cells #[.int .i64 (sz : Nat), .int .i64 (wy : Nat), .slice a sz c] 24)).alloc (.cells #[.int .i64 0, .int .i64 0, .slice none 0 0] 24)) := bal (bal (Below.refl _ _) _) _
  refine (CK.out _).mono ?_
  rintro e wa ⟨rfl, hba⟩
  rw [F0.out]
  have c0 : wa.cell? ⟨w.heap.size, 0, none⟩ = some (.int .i64 (sz : Nat)) := ck hba (by go_simp)
  have c1 : wa.cell? ⟨w.heap.size, 1, none⟩ = some (.int .i64 (wy : Nat)) := ck hba (by go_simp)
  have c2 : wa.cell? ⟨w.heap.size, 2, none⟩ = some (.slice a sz c) := ck hba (by go_simp)
  have r0 : wa.cell? ⟨w.heap.size + 1, 0, none⟩ = some (.int .i64 0) := ck hba (by go_simp)
  have r1 : wa.cell? ⟨w.heap.size + 1, 1, none⟩ = some (.int .i64 0) := ck hba (by go_simp)
  have r2 : wa.cell? ⟨w.heap.size + 1, 2, none⟩ = some (.slice none 0 0) := ck hba (by go_simp)
  have f0 : ∀ o, wa.frozen? ⟨w.heap.size, o, none⟩ = false := fun o => (hba.frozen (p := ⟨w.heap.size, o, none⟩) (by simp; omega)).trans (by go_simp)
  have f1 : ∀ o, wa.frozen? ⟨w.heap.size + 1, o, none⟩ = false := fun o => (hba.frozen (p := ⟨w.heap.size + 1, o, none⟩) (by simp)).trans (by go_simp)
  have hsa : w.heap.size + 2 ≤ wa.heap.size := by have := hba.size; simp at this; omega
  have hwa := bstep hb1 hba
  have F1 := hidp f1
  have FA := hidp f0
  clear hb1 hba f0 f1
  go_wp2_with fail
  refine (CC.out _ hwa).mono ?_
  rintro e wb ⟨v, rfl, hv, hbb⟩
  obtain ⟨g, cv, rfl, hg1, hg2, hg3, hg4⟩ := owns_addr hv h1
  have R := hidp (And.intro (ck hbb r0) (And.intro (ck hbb r1) (ck hbb r2)))
  have d0 := ck hbb c0
  have d1 := ck hbb c1
  have d2 := ck hbb c2
  have fb := (hbb.frozen (p := ⟨w.heap.size, 2, none⟩) (by show w.heap.size < wa.heap.size; omega)).trans (FA.out 2)
  have FB := hidp (fun o => (hbb.frozen (p := ⟨w.heap.size + 1, o, none⟩) (by show w.heap.size + 1 < wa.heap.size; omega)).trans (F1.out o))
  have hwb := bstep hwa hbb
  have hgP : ¬ w.heap.size = g := by omega
  have hgQ : ¬ w.heap.size + 1 = g := by omega
  have HV := hidp hv
  have hsb : wa.heap.size ≤ wb.heap.size := hbb.size
  clear c0 c1 c2 r0 r1 r2 hwa hbb hv F1 FA CC CK F0
  go_wp2_with fail
  have x0 : (wb.setCell ⟨w.heap.size, 2, none⟩ (.slice (some ⟨g, 0, none⟩) sz cv)).cell? ⟨w.heap.size, 0, none⟩ = some (.int .i64 (sz : Nat)) := by go_simp
  have x1 : (wb.setCell ⟨w.heap.size, 2, none⟩ (.slice (some ⟨g, 0, none⟩) sz cv)).cell? ⟨w.heap.size, 1, none⟩ = some (.int .i64 (wy : Nat)) := by go_simp
  have x2 : (wb.setCell ⟨w.heap.size, 2, none⟩ (.slice (some ⟨g, 0, none⟩) sz cv)).cell? ⟨w.heap.size, 2, none⟩ = some (.slice (some ⟨g, 0, none⟩) sz cv) := by go_simp
  have hR := R.out
  have y0 : (wb.setCell ⟨w.heap.size, 2, none⟩ (.slice (some ⟨g, 0, none⟩) sz cv)).cell? ⟨w.heap.size + 1, 0, none⟩ = some (.int .i64 0) := cell_off hR.1 (by omega)
  have y1 : (wb.setCell ⟨w.heap.size, 2, none⟩ (.slice (some ⟨g, 0, none⟩) sz cv)).cell? ⟨w.heap.size + 1, 1, none⟩ = some (.int .i64 0) := cell_off hR.2.1 (by omega)
  have y2 : (wb.setCell ⟨w.heap.size, 2, none⟩ (.slice (some ⟨g, 0, none⟩) sz cv)).cell? ⟨w.heap.size + 1, 2, none⟩ = some (.slice none 0 0) := cell_off hR.2.2 (by omega)
  have yf : ∀ o, (wb.setCell ⟨w.heap.size, 2, none⟩ (.slice (some ⟨g, 0, none⟩) sz cv)).frozen? ⟨w.heap.size + 1, o, none⟩ = false := fun o => by rw [← FB.out o]; simp
  have hv2 : (wb.setCell ⟨w.heap.size, 2, none⟩ (.slice (some ⟨g, 0, none⟩) sz cv)).ownsRow wa.heap.size 4 1 (.slice (some ⟨g, 0, none⟩) sz cv) sz (bs.map Value.bool) := ownsRow_setCell_below HV.out (a := ⟨w.heap.size, 2, none⟩) (by show w.heap.size < _; omega) _
  have hb2 : Below w.heap.size w (wb.setCell ⟨w.heap.size, 2, none⟩ (.slice (some ⟨g, 0, none⟩) sz cv)) := hwb.setCell (p := ⟨w.heap.size, 2, none⟩) (Nat.le_refl _) _
  have hs2 : wb.heap.size = (wb.setCell ⟨w.heap.size, 2, none⟩ (.slice (some ⟨g, 0, none⟩) sz cv)).heap.size := by simp
  have YF := hidp yf
  clear hR R FB HV hwb d0 d1 d2 fb yf
  generalize wb.setCell ⟨w.heap.size, 2, none⟩ (.slice (some ⟨g, 0, none⟩) sz cv) = w3 at *
  refine (CP.out _ _ _).mono ?_
  rintro e w4 ⟨v, rfl, hp, hb4⟩
  obtain ⟨gp, cp, rfl, hp1, hp2, hp3, hp4⟩ := owns_addr hp h3
  have hh4 : w4.heap[g]? = w3.heap[g]? := hb4.block g (by omega)
  have hv4 := owns_heap hv2 hh4
  have X0 := hidp (hb4.cell (p := ⟨w.heap.size, 0, none⟩) (by show w.heap.size < _; omega) |>.trans x0)
  have X1 := hidp (hb4.cell (p := ⟨w.heap.size, 1, none⟩) (by show w.heap.size < _; omega) |>.trans x1)
  have X2 := hidp (hb4.cell (p := ⟨w.heap.size, 2, none⟩) (by show w.heap.size < _; omega) |>.trans x2)
  have Y0 := hidp (hb4.cell (p := ⟨w.heap.size + 1, 0, none⟩) (by show w.heap.size + 1 < _; omega) |>.trans y0)
  have Y1 := hidp (hb4.cell (p := ⟨w.heap.size + 1, 1, none⟩) (by show w.heap.size + 1 < _; omega) |>.trans y1)
  have Y2 := hidp (hb4.cell (p := ⟨w.heap.size + 1, 2, none⟩) (by show w.heap.size + 1 < _; omega) |>.trans y2)
  have YG := hidp (fun o => (hb4.frozen (p := ⟨w.heap.size + 1, o, none⟩) (by show w.heap.size + 1 < _; omega)).trans (YF.out o))
  have hb5 : Below w.heap.size w w4 := bstep hb2 hb4
  have HPL := hidp (fun i (hi : i < wy) => show w4.cell? ⟨gp, i, none⟩ = some (.int .i64 (P i : Nat)) from by
    have := hp.cellAt i (by omega)
    rw [tab_map, tab_get _ _ _ hi] at this
    exact this)
  have hgg : gp ≠ g := by omega
  have hl := H.out.len
  have hv5 : w4.ownsRow wa.heap.size 4 1 (.slice (some ⟨g, 0, none⟩) sz cv) sz (tab (fun j => Value.bool (gb bs j || hitP P 0 j)) sz) := by
    rw [map_tabB bs sz hl] at hv4
    rw [show tab (fun j => Value.bool (gb bs j || hitP P 0 j)) sz = tab (fun j => Value.bool (gb bs j)) sz from tab_congr _ _ _ (fun j _ => by simp [hitP])]
    exact hv4
  clear x0 x1 x2 y0 y1 y2 hv2 hb2 hb4 hp hh4 hv4 CP YF H
  go_wp2_with fail
  go_loopw [23] (fun i wr => ∃ k : Nat, k ≤ wy ∧ i = .int .i64 k ∧ wr.ownsRow wa.heap.size 4 1 (.slice (some ⟨g, 0, none⟩) sz cv) sz (tab (fun j => Value.bool (gb bs j || hitP P k j)) sz) ∧ Only g w4 wr ∧ Below w.heap.size w wr) (fun i _ => wy - (intOf i).toNat)
  case atStart => exact ⟨0, by omega, rfl, hv5, Only.refl _ _, hb5⟩
  case round =>
    obtain ⟨k, hk, rfl, hv, ho, hbl⟩ := hrel
    have x2 := ho.cell X2.out hgP
    by_cases hlt : k < wy
    · have q1 := ho.cell (HPL.out k hlt) hgg
      have d1 := PL.out k
      have d2 : ((P k : Nat) : Int) < (sz : Int) := by omega
      have z1 := hv.frozenAt (P k)
      have q2 := hv.cellAt (P k) (by omega)
      rw [tab_get _ _ _ d1] at q2
      have ST := hidp (fun j => show (if j = P k then true else (gb bs j || hitP P k j)) = (gb bs j || hitP P (k + 1) j) from by
        by_cases e : j = P k
        · rw [if_pos e]; simp [hitP, e]
        · rw [if_neg e]; simp only [hitP]; rw [decide_eq_false (fun h => e h.symm), Bool.or_false])
      go_wp2_with fail
      go_roundw
      case measure => simp [intOf]; omega
      case rel =>
        refine ⟨k + 1, by omega, by go_num, ?_, ho.setCell _ _, hbl.setCell (p := ⟨g, P k, none⟩) (by show w.heap.size ≤ g; omega) _⟩
        have h2 := own_store_tab hv (P k) (.bool true)
        rw [row_bool_upd, tab_congr _ (fun j => Value.bool (gb bs j || hitP P (k + 1) j)) sz (fun j _ => by rw [ST.out])] at h2
        exact h2
    · obtain rfl : k = wy := by omega
      have x0 := ho.cell X0.out hgP
      have x1 := ho.cell X1.out hgP
      have y0 := ho.cell Y0.out hgQ
      have y1 := ho.cell Y1.out hgQ
      have y2 := ho.cell Y2.out hgQ
      have z0 := ho.fro (YG.out 0) hgQ
      have z1 := ho.fro (YG.out 1) hgQ
      have z2 := ho.fro (YG.out 2) hgQ
      go_wp2_with fail
      have t0 : (((wr.setCell ⟨w.heap.size + 1, 0, none⟩ (.int .i64 (sz : Nat))).setCell ⟨w.heap.size + 1, 1, none⟩ (.int .i64 (k : Nat))).setCell ⟨w.heap.size + 1, 2, none⟩ (.slice (some ⟨g, 0, none⟩) sz cv)).cell? ⟨w.heap.size + 1, 0, none⟩ = some (.int .i64 (sz : Nat)) := by go_simp
      have t1 : (((wr.setCell ⟨w.heap.size + 1, 0, none⟩ (.int .i64 (sz : Nat))).setCell ⟨w.heap.size + 1, 1, none⟩ (.int .i64 (k : Nat))).setCell ⟨w.heap.size + 1, 2, none⟩ (.slice (some ⟨g, 0, none⟩) sz cv)).cell? ⟨w.heap.size + 1, 1, none⟩ = some (.int .i64 (k : Nat)) := by go_simp
      have t2 : (((wr.setCell ⟨w.heap.size + 1, 0, none⟩ (.int .i64 (sz : Nat))).setCell ⟨w.heap.size + 1, 1, none⟩ (.int .i64 (k : Nat))).setCell ⟨w.heap.size + 1, 2, none⟩ (.slice (some ⟨g, 0, none⟩) sz cv)).cell? ⟨w.heap.size + 1, 2, none⟩ = some (.slice (some ⟨g, 0, none⟩) sz cv) := by go_simp
      have hb6 : Below w.heap.size w (((wr.setCell ⟨w.heap.size + 1, 0, none⟩ (.int .i64 (sz : Nat))).setCell ⟨w.heap.size + 1, 1, none⟩ (.int .i64 (k : Nat))).setCell ⟨w.heap.size + 1, 2, none⟩ (.slice (some ⟨g, 0, none⟩) sz cv)) := ((hbl.setCell (p := ⟨w.heap.size + 1, 0, none⟩) (by show w.heap.size ≤ w.heap.size + 1; omega) _).setCell (p := ⟨w.heap.size + 1, 1, none⟩) (by show w.heap.size ≤ w.heap.size + 1; omega) _).setCell (p := ⟨w.heap.size + 1, 2, none⟩) (by show w.heap.size ≤ w.heap.size + 1; omega) _
      have hv6 : (((wr.setCell ⟨w.heap.size + 1, 0, none⟩ (.int .i64 (sz : Nat))).setCell ⟨w.heap.size + 1, 1, none⟩ (.int .i64 (k : Nat))).setCell ⟨w.heap.size + 1, 2, none⟩ (.slice (some ⟨g, 0, none⟩) sz cv)).ownsRow wa.heap.size 4 1 (.slice (some ⟨g, 0, none⟩) sz cv) sz (tab (fun j => Value.bool (gb bs j || hitP P k j)) sz) := ownsRow_setCell_below (ownsRow_setCell_below (ownsRow_setCell_below hv (a := ⟨w.heap.size + 1, 0, none⟩) (by show w.heap.size + 1 < _; omega) _) (a := ⟨w.heap.size + 1, 1, none⟩) (by show w.heap.size + 1 < _; omega) _) (a := ⟨w.heap.size + 1, 2, none⟩) (by show w.heap.size + 1 < _; omega) _
      generalize (((wr.setCell ⟨w.heap.size + 1, 0, none⟩ (.int .i64 (sz : Nat))).setCell ⟨w.heap.size + 1, 1, none⟩ (.int .i64 (k : Nat))).setCell ⟨w.heap.size + 1, 2, none⟩ (.slice (some ⟨g, 0, none⟩) sz cv)) = w7 at *
      refine bodyPost_ret (v := .tuple #[.agg #[.int .i64 (sz : Nat), .int .i64 (k : Nat), .slice (some ⟨g, 0, none⟩) sz cv], .int .i64 0]) (by simp [results, Try.results9, go_sem, t0, t1, t2]) rfl ⟨g, cv, rfl, ?_, hb6⟩
      rw [tab_map]
      exact owns_mono hv6 (by omega)
theorem bput_c (sz wy : Nat) (a : Option Addr) (c : Nat) (bs : List Bool) (key : Int) (w : World) (h : BoolsAt w a sz c bs) (h1 : 1 ≤ sz) (h2 : sz ≤ 256) (h3 : 1 ≤ wy) (h4 : wy ≤ 8) :
    Calls Try.prog 9 #[filtV sz wy a sz c, .int .i64 key] w fun e w' => ∃ g cv, e = .returned (.tuple #[filtV sz wy (some ⟨g, 0, none⟩) sz cv, .int .i64 0])
      ∧ w'.ownsRow w.heap.size 4 1 (.slice (some ⟨g, 0, none⟩) sz cv) sz ((tab (fun j => gb bs j || hitP (plc sz key) wy j) sz).map Value.bool) ∧ Below w.heap.size w w' :=
  bput_core (plc sz key) sz wy a c bs key w h (fun i => plc_lt sz key i h1) (fun a' c' W => places_c sz wy a' sz c' key W h1 h2 h4) h1 h2 h3 h4
/-- Do the first k places all hold? -/
def allP (P : Nat → Nat) (f : Nat → Bool) (k : Nat) : Bool := decide (∀ i, i < k → f (P i) = true)
theorem has_all (P : Nat → Nat) (bs : List Bool) (k : Nat) : hasF (fun x => !gb bs x.toNat) (tab (fun i => ((P i : Nat) : Int)) k) k = !allP P (gb bs) k := by
  by_cases h : ∀ i, i < k → gb bs (P i) = true
  · rw [show allP P (gb bs) k = true from decide_eq_true h]
    exact hasF_false _ _ _ (fun i hi => by rw [tab_gi _ _ _ hi]; simp [h i hi])
  · rw [show allP P (gb bs) k = false from decide_eq_false h]
    refine hasF_true _ _ _ ?_
    simp only [Classical.not_forall] at h
    obtain ⟨i, hi, h⟩ := h
    exact ⟨i, hi, by rw [tab_gi _ _ _ hi]; simpa using h⟩
set_option maxHeartbeats 4000000 in
theorem bjoin_c (sz wy : Nat) (a a2 : Option Addr) (c c2 : Nat) (bs bs2 : List Bool) (w : World) (h : BoolsAt w a sz c bs) (h' : BoolsAt w a2 sz c2 bs2) (h1 : 1 ≤ sz) (h2 : sz ≤ 256) (h3 : 1 ≤ wy) (h4 : wy ≤ 8) :
    Calls Try.prog 10 #[filtV sz wy a sz c, filtV sz wy a2 sz c2] w fun e w' => ∃ g cv, e = .returned (.tuple #[filtV sz wy (some ⟨g, 0, none⟩) sz cv, .int .i64 0])
      ∧ w'.ownsRow w.heap.size 4 1 (.slice (some ⟨g, 0, none⟩) sz cv) sz ((tab (fun j => gb bs j || gb bs2 j) sz).map Value.bool) ∧ Below w.heap.size w w' := by
  have H := hidp h
  have H2 := hidp h'
  have CK := hidp (fun W => bcheck_c (sz : Nat) (wy : Nat) a sz c W)
  have CK2 := hidp (fun W => bcheck_c (sz : Nat) (wy : Nat) a2 sz c2 W)
  have F0 := hidp (fchk_ok sz wy h1 h2 h3 h4)
  have CC := hidp (fun W hb => cloneb_c a sz c bs W (h.below (w' := W) hb) (by omega))
  have mm := h'.max
  have ee := h'.le
  clear h h'
  unfold filtV at *
  go_enter Try.func10, Try.ntmps10
  go_wp2_with fail
  have hb1 : Below w.heap.size w (((w.alloc (.cells #[.int .i64 (sz : Nat), .int .i64 (wy : Nat), .slice a sz c] 24)).alloc (.cells #[.int .i64 (sz : Nat), .int .i64 (wy : Nat), .slice a2 sz c2] 24)).alloc (.cells #[.int .i64 0, .int .i64 0, .slice none 0 0] 24)) := bal (bal (bal (Below.refl _ _) _) _) _
  refine (CK.out _).mono ?_
  rintro e wa ⟨rfl, hba⟩
  rw [F0.out]
  have c0 : wa.cell? ⟨w.heap.size, 0, none⟩ = some (.int .i64 (sz : Nat)) := ck hba (by go_simp)
  have c1 : wa.cell? ⟨w.heap.size, 1, none⟩ = some (.int .i64 (wy : Nat)) := ck hba (by go_simp)
  have c2' : wa.cell? ⟨w.heap.size, 2, none⟩ = some (.slice a sz c) := ck hba (by go_simp)
  have g0 : wa.cell? ⟨w.heap.size + 1, 0, none⟩ = some (.int .i64 (sz : Nat)) := ck hba (by go_simp)
  have g1 : wa.cell? ⟨w.heap.size + 1, 1, none⟩ = some (.int .i64 (wy : Nat)) := ck hba (by go_simp)
  have g2 : wa.cell? ⟨w.heap.size + 1, 2, none⟩ = some (.slice a2 sz c2) := ck hba (by go_simp)
  have r0 : wa.cell? ⟨w.heap.size + 1 + 1, 0, none⟩ = some (.int .i64 0) := ck hba (by go_simp)
  have r1 : wa.cell? ⟨w.heap.size + 1 + 1, 1, none⟩ = some (.int .i64 0) := ck hba (by go_simp)
  have r2 : wa.cell? ⟨w.heap.size + 1 + 1, 2, none⟩ = some (.slice none 0 0) := ck hba (by go_simp)
  have f0 : ∀ o, wa.frozen? ⟨w.heap.size, o, none⟩ = false := fun o => (hba.frozen (p := ⟨w.heap.size, o, none⟩) (by simp; omega)).trans (by go_simp)
  have f1 : ∀ o, wa.frozen? ⟨w.heap.size + 1 + 1, o, none⟩ = false := fun o => (hba.frozen (p := ⟨w.heap.size + 1 + 1, o, none⟩) (by simp)).trans (by go_simp)
  have hsa : w.heap.size + 3 ≤ wa.heap.size := by have := hba.size; simp at this; omega
  have hwa := bstep hb1 hba
  have F1 := hidp f1
  have FA := hidp f0
  clear hb1 hba f0 f1
  go_wp2_with fail
  refine (CK2.out _).mono ?_
  rintro e wk ⟨rfl, hbk⟩
  rw [F0.out]
  have c0 := ck hbk c0
  have c1 := ck hbk c1
  have c2' := ck hbk c2'
  have g0 := ck hbk g0
  have g1 := ck hbk g1
  have g2 := ck hbk g2
  have r0 := ck hbk r0
  have r1 := ck hbk r1
  have r2 := ck hbk r2
  have F1 := hidp (fun o => (hbk.frozen (p := ⟨w.heap.size + 1 + 1, o, none⟩) (by show w.heap.size + 1 + 1 < wa.heap.size; omega)).trans (F1.out o))
  have FA := hidp (fun o => (hbk.frozen (p := ⟨w.heap.size, o, none⟩) (by show w.heap.size < wa.heap.size; omega)).trans (FA.out o))
  have hwk := bstep hwa hbk
  have hsk : wa.heap.size ≤ wk.heap.size := hbk.size
  clear hwa hbk
  have hnz : ((sz : Int) != (sz : Int)) = false := by simp
  have hny : ((wy : Int) != (wy : Int)) = false := by simp
  go_wp2_with fail
  refine (CC.out _ hwk).mono ?_
  rintro e wb ⟨v, rfl, hv, hbb⟩
  obtain ⟨g, cv, rfl, hg1, hg2, hg3, hg4⟩ := owns_addr hv h1
  have R := hidp (And.intro (ck hbb r0) (And.intro (ck hbb r1) (ck hbb r2)))
  have d0 := ck hbb c0
  have d1 := ck hbb c1
  have d2 := ck hbb c2'
  have e2 := ck hbb g2
  have fb := (hbb.frozen (p := ⟨w.heap.size, 2, none⟩) (by show w.heap.size < wk.heap.size; omega)).trans (FA.out 2)
  have FB := hidp (fun o => (hbb.frozen (p := ⟨w.heap.size + 1 + 1, o, none⟩) (by show w.heap.size + 1 + 1 < wk.heap.size; omega)).trans (F1.out o))
  have hwb := bstep hwk hbb
  have hgP : ¬ w.heap.size = g := by omega
  have hgQ : ¬ w.heap.size + 1 = g := by omega
  have hgR : ¬ w.heap.size + 1 + 1 = g := by omega
  have HV := hidp hv
  have hsb : wk.heap.size ≤ wb.heap.size := hbb.size
  clear c0 c1 c2' g0 g1 g2 r0 r1 r2 hwk hbb hv F1 FA CC CK CK2 F0
  have x0 : (wb.setCell ⟨w.heap.size, 2, none⟩ (.slice (some ⟨g, 0, none⟩) sz cv)).cell? ⟨w.heap.size, 0, none⟩ = some (.int .i64 (sz : Nat)) := by go_simp
  have x1 : (wb.setCell ⟨w.heap.size, 2, none⟩ (.slice (some ⟨g, 0, none⟩) sz cv)).cell? ⟨w.heap.size, 1, none⟩ = some (.int .i64 (wy : Nat)) := by go_simp
  have x2 : (wb.setCell ⟨w.heap.size, 2, none⟩ (.slice (some ⟨g, 0, none⟩) sz cv)).cell? ⟨w.heap.size, 2, none⟩ = some (.slice (some ⟨g, 0, none⟩) sz cv) := by go_simp
  have x3 : (wb.setCell ⟨w.heap.size, 2, none⟩ (.slice (some ⟨g, 0, none⟩) sz cv)).cell? ⟨w.heap.size + 1, 2, none⟩ = some (.slice a2 sz c2) := cell_off e2 (by omega)
  have hR := R.out
  have y0 : (wb.setCell ⟨w.heap.size, 2, none⟩ (.slice (some ⟨g, 0, none⟩) sz cv)).cell? ⟨w.heap.size + 1 + 1, 0, none⟩ = some (.int .i64 0) := cell_off hR.1 (by omega)
  have y1 : (wb.setCell ⟨w.heap.size, 2, none⟩ (.slice (some ⟨g, 0, none⟩) sz cv)).cell? ⟨w.heap.size + 1 + 1, 1, none⟩ = some (.int .i64 0) := cell_off hR.2.1 (by omega)
  have y2 : (wb.setCell ⟨w.heap.size, 2, none⟩ (.slice (some ⟨g, 0, none⟩) sz cv)).cell? ⟨w.heap.size + 1 + 1, 2, none⟩ = some (.slice none 0 0) := cell_off hR.2.2 (by omega)
  have yf : ∀ o, (wb.setCell ⟨w.heap.size, 2, none⟩ (.slice (some ⟨g, 0, none⟩) sz cv)).frozen? ⟨w.heap.size + 1 + 1, o, none⟩ = false := fun o => by rw [← FB.out o]; simp
  have hv2 : (wb.setCell ⟨w.heap.size, 2, none⟩ (.slice (some ⟨g, 0, none⟩) sz cv)).ownsRow wk.heap.size 4 1 (.slice (some ⟨g, 0, none⟩) sz cv) sz (bs.map Value.bool) := ownsRow_setCell_below HV.out (a := ⟨w.heap.size, 2, none⟩) (by show w.heap.size < _; omega) _
  have hb2 : Below w.heap.size w (wb.setCell ⟨w.heap.size, 2, none⟩ (.slice (some ⟨g, 0, none⟩) sz cv)) := hwb.setCell (p := ⟨w.heap.size, 2, none⟩) (Nat.le_refl _) _
  have YF := hidp yf
  have HV2 := hidp hv2
  clear hR R FB HV hwb yf hv2
  go_upto_region 10 with fail
  clear d0 d1 d2 e2 fb
  generalize (wb.setCell ⟨w.heap.size, 2, none⟩ (.slice (some ⟨g, 0, none⟩) sz cv)) = w3 at *
  have hl := H.out.len
  have hv5 : w3.ownsRow wk.heap.size 4 1 (.slice (some ⟨g, 0, none⟩) sz cv) sz (tab (fun j => Value.bool (if j < 0 then (gb bs j || gb bs2 j) else gb bs j)) sz) := by
    have := HV2.out
    rw [map_tabB bs sz hl] at this
    rw [tab_congr _ (fun j => Value.bool (gb bs j)) sz (fun j _ => by rw [if_neg (by omega)])]
    exact this
  obtain ⟨b2, o2, rfl, hlt2, hx2⟩ := H2.out.cells h1
  have HX := hidp hx2
  have X0 := hidp x0
  have X1 := hidp x1
  have X2 := hidp x2
  have X3 := hidp x3
  have Y0 := hidp y0
  have Y1 := hidp y1
  have Y2 := hidp y2
  have hgb : ¬ b2 = g := by omega
  clear y0 y1 y2 HV2 hx2 x0 x1
  go_wp2_with fail
  clear x2 x3
  go_loopw [42] (fun i wr => ∃ k : Nat, k ≤ sz ∧ i = .int .i64 k ∧ wr.ownsRow wk.heap.size 4 1 (.slice (some ⟨g, 0, none⟩) sz cv) sz (tab (fun j => Value.bool (if j < k then (gb bs j || gb bs2 j) else gb bs j)) sz) ∧ Only g w3 wr ∧ Below w.heap.size w wr) (fun i _ => sz - (intOf i).toNat)
  case atStart => exact ⟨0, by omega, rfl, hv5, Only.refl _ _, hb2⟩
  case round =>
    obtain ⟨k, hk, rfl, hv, ho, hbl⟩ := hrel
    have x2 := ho.cell X2.out hgP
    by_cases hlt : k < sz
    · have q1 := carry_cell ⟨hlt2, HX.out k hlt⟩ hbl
      have kI : (k : Int) < (sz : Int) := by omega
      have z1 := hv.frozenAt k
      have q2 := hv.cellAt k (by omega)
      rw [tab_get _ _ _ hlt, if_neg (by omega)] at q2
      have ST := hidp (fun (v : Bool) (hv : v = (gb bs k || gb bs2 k)) j => show (if j = k then v else (if j < k then (gb bs j || gb bs2 j) else gb bs j)) = (if j < k + 1 then (gb bs j || gb bs2 j) else gb bs j) from by
        by_cases e : j = k
        · rw [if_pos e, if_pos (by omega), e, hv]
        · rw [if_neg e]
          by_cases e2 : j < k
          · rw [if_pos e2, if_pos (by omega)]
          · rw [if_neg e2, if_neg (by omega)])
      go_wp2_with fail
      cases hq : gb bs k with
      | true =>
        rw [hq] at q2
        have HQ := hidp hq
        clear hq
        go_still_tail 11, (by kernel_rfl)
        repeat still_step
        change wpList _ _ _ _ _ wr.drew
        have q2' : wr.drew.cell? ⟨g, k, none⟩ = _ := q2
        have z1' : wr.drew.frozen? ⟨g, k, none⟩ = false := z1
        go_wp2_with fail
        go_roundw
        case measure => simp [intOf]; omega
        case rel =>
          refine ⟨k + 1, by omega, by go_num, ?_, (ho.setCell _ _).drew, Below.drew (hbl.setCell (p := ⟨g, k, none⟩) (by show w.heap.size ≤ g; omega) _)⟩
          have h2 := own_store_tab hv k (.bool (true))
          rw [row_bool_upd, tab_congr _ (fun j => Value.bool (if j < k + 1 then (gb bs j || gb bs2 j) else gb bs j)) sz (fun j _ => by rw [ST.out _ (by rw [HQ.out]; rfl)])] at h2
          exact h2.drew
      | false =>
        rw [hq] at q2
        have HQ := hidp hq
        clear hq
        go_still_tail 11, (by kernel_rfl)
        repeat still_step
        change wpList _ _ _ _ _ wr.drew
        have q2' : wr.drew.cell? ⟨g, k, none⟩ = _ := q2
        have z1' : wr.drew.frozen? ⟨g, k, none⟩ = false := z1
        go_wp2_with fail
        go_roundw
        case measure => simp [intOf]; omega
        case rel =>
          refine ⟨k + 1, by omega, by go_num, ?_, (ho.setCell _ _).drew, Below.drew (hbl.setCell (p := ⟨g, k, none⟩) (by show w.heap.size ≤ g; omega) _)⟩
          have h2 := own_store_tab hv k (.bool (gb bs2 k))
          rw [row_bool_upd, tab_congr _ (fun j => Value.bool (if j < k + 1 then (gb bs j || gb bs2 j) else gb bs j)) sz (fun j _ => by rw [ST.out _ (by rw [HQ.out]; rfl)])] at h2
          exact h2.drew
    · obtain rfl : k = sz := by omega
      have x0 := ho.cell X0.out hgP
      have x1 := ho.cell X1.out hgP
      have y0 := ho.cell Y0.out hgR
      have y1 := ho.cell Y1.out hgR
      have y2 := ho.cell Y2.out hgR
      have z0 := ho.fro (YF.out 0) hgR
      have z1 := ho.fro (YF.out 1) hgR
      have z2 := ho.fro (YF.out 2) hgR
      go_wp2_with fail
      have t0 : (((wr.setCell ⟨w.heap.size + 1 + 1, 0, none⟩ (.int .i64 (k : Nat))).setCell ⟨w.heap.size + 1 + 1, 1, none⟩ (.int .i64 (wy : Nat))).setCell ⟨w.heap.size + 1 + 1, 2, none⟩ (.slice (some ⟨g, 0, none⟩) k cv)).cell? ⟨w.heap.size + 1 + 1, 0, none⟩ = some (.int .i64 (k : Nat)) := by go_simp
      have t1 : (((wr.setCell ⟨w.heap.size + 1 + 1, 0, none⟩ (.int .i64 (k : Nat))).setCell ⟨w.heap.size + 1 + 1, 1, none⟩ (.int .i64 (wy : Nat))).setCell ⟨w.heap.size + 1 + 1, 2, none⟩ (.slice (some ⟨g, 0, none⟩) k cv)).cell? ⟨w.heap.size + 1 + 1, 1, none⟩ = some (.int .i64 (wy : Nat)) := by go_simp
      have t2 : (((wr.setCell ⟨w.heap.size + 1 + 1, 0, none⟩ (.int .i64 (k : Nat))).setCell ⟨w.heap.size + 1 + 1, 1, none⟩ (.int .i64 (wy : Nat))).setCell ⟨w.heap.size + 1 + 1, 2, none⟩ (.slice (some ⟨g, 0, none⟩) k cv)).cell? ⟨w.heap.size + 1 + 1, 2, none⟩ = some (.slice (some ⟨g, 0, none⟩) k cv) := by go_simp
      have hb6 : Below w.heap.size w (((wr.setCell ⟨w.heap.size + 1 + 1, 0, none⟩ (.int .i64 (k : Nat))).setCell ⟨w.heap.size + 1 + 1, 1, none⟩ (.int .i64 (wy : Nat))).setCell ⟨w.heap.size + 1 + 1, 2, none⟩ (.slice (some ⟨g, 0, none⟩) k cv)) := ((hbl.setCell (p := ⟨w.heap.size + 1 + 1, 0, none⟩) (by show w.heap.size ≤ w.heap.size + 1 + 1; omega) _).setCell (p := ⟨w.heap.size + 1 + 1, 1, none⟩) (by show w.heap.size ≤ w.heap.size + 1 + 1; omega) _).setCell (p := ⟨w.heap.size + 1 + 1, 2, none⟩) (by show w.heap.size ≤ w.heap.size + 1 + 1; omega) _
      have hv6 : (((wr.setCell ⟨w.heap.size + 1 + 1, 0, none⟩ (.int .i64 (k : Nat))).setCell ⟨w.heap.size + 1 + 1, 1, none⟩ (.int .i64 (wy : Nat))).setCell ⟨w.heap.size + 1 + 1, 2, none⟩ (.slice (some ⟨g, 0, none⟩) k cv)).ownsRow wk.heap.size 4 1 (.slice (some ⟨g, 0, none⟩) k cv) k (tab (fun j => Value.bool (if j < k then (gb bs j || gb bs2 j) else gb bs j)) k) := ownsRow_setCell_below (ownsRow_setCell_below (ownsRow_setCell_below hv (a := ⟨w.heap.size + 1 + 1, 0, none⟩) (by show w.heap.size + 1 + 1 < _; omega) _) (a := ⟨w.heap.size + 1 + 1, 1, none⟩) (by show w.heap.size + 1 + 1 < _; omega) _) (a := ⟨w.heap.size + 1 + 1, 2, none⟩) (by show w.heap.size + 1 + 1 < _; omega) _
      generalize (((wr.setCell ⟨w.heap.size + 1 + 1, 0, none⟩ (.int .i64 (k : Nat))).setCell ⟨w.heap.size + 1 + 1, 1, none⟩ (.int .i64 (wy : Nat))).setCell ⟨w.heap.size + 1 + 1, 2, none⟩ (.slice (some ⟨g, 0, none⟩) k cv)) = w7 at *
      refine bodyPost_ret (v := .tuple #[.agg #[.int .i64 (k : Nat), .int .i64 (wy : Nat), .slice (some ⟨g, 0, none⟩) k cv], .int .i64 0]) (by simp [results, Try.results10, go_sem, t0, t1, t2]) rfl ⟨g, cv, rfl, ?_, hb6⟩
      rw [tab_map, tab_congr (fun j => Value.bool (gb bs j || gb bs2 j)) (fun j => Value.bool (if j < k then (gb bs j || gb bs2 j) else gb bs j)) k (fun j hj => by rw [if_pos hj])]
      exact owns_mono hv6 (by omega)
end Go.Proofs.Ytffocoflmbhknaa
