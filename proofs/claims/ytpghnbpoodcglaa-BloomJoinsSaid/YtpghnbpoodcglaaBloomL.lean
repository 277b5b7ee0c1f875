/- Contracts of the laws' own helpers on filters: empty and put; and of bloom.Put and Join where they give an error. -/
import Derived.Test.YtpghnbpoodcglaaBloom
import Derived.Lib.MinMax
import Derived.Deep.RegionWith
import Derived.Deep.OwnRows
namespace Go.Proofs.Ytpghnbpoodcglaa
open Go.ChangeShapes Go.WideShapes Go.ChangeAt Go.RowKit
set_option maxRecDepth 20000

def esz (size : Int) : Nat := 1 + wn size 256
def ewy (ways : Int) : Nat := 1 + wn ways 8
theorem esz_bd (s : Int) : 1 ≤ esz s ∧ esz s ≤ 256 := by have := wn_lt s 256 (by omega); unfold esz; omega
theorem ewy_bd (s : Int) : 1 ≤ ewy s ∧ ewy s ≤ 8 := by have := wn_lt s 8 (by omega); unfold ewy; omega
theorem own_madeB (w : World) (B H : Nat) (n : Nat) (hH : w.heap.size = H) (hB : B ≤ H) (hn : n ≤ 1000) : (w.alloc (.cells (madeCells #[.bool false] n) 4)).ownsRow B 4 1 (.slice (some ⟨H, 0, none⟩) n n) n (tab (fun _ => Value.bool false) n) := by
  subst hH
  refine ⟨by rw [tab_len, Nat.mul_one], .inr ⟨w.heap.size, n, madeCells #[.bool false] n, rfl, hB, heap_alloc_new w _, Nat.le_refl _, by unfold maxLen; omega, by rw [size_madeCells]; simp, ?_⟩⟩
  have h := made_tab (.bool false) n
  rw [Nat.mul_one] at h
  rw [h, List.take_of_length_le (by rw [tab_len]; omega)]

set_option maxHeartbeats 4000000 in
theorem empty_c (size ways : Int) (w : World) :
    Calls Try.prog 22 #[.int .i64 size, .int .i64 ways] w fun e w' => ∃ g, e = .returned (filtV (esz size) (ewy ways) (some ⟨g, 0, none⟩) (esz size) (esz size))
      ∧ w'.ownsRow w.heap.size 4 1 (.slice (some ⟨g, 0, none⟩) (esz size) (esz size)) (esz size) ((tab (fun _ => false) (esz size)).map Value.bool) ∧ Below w.heap.size w w' := by
  have C1 := hidp (fun W => withinN_c size 256 (by omega) (by omega) W)
  have C2 := hidp (fun W => withinN_c ways 8 (by omega) (by omega) W)
  have b1 := wn_lt size 256 (by omega)
  have b2 := wn_lt ways 8 (by omega)
  unfold esz ewy filtV
  generalize wn size 256 = s at *
  generalize wn ways 8 = y at *
  obtain ⟨n, hn⟩ : ∃ n, n = 1 + s := ⟨_, rfl⟩
  have hn' : (1 : Int) + (s : Int) = (n : Int) := by omega
  rw [← hn]
  have n1 : 1 ≤ n ∧ n ≤ 256 := by omega
  clear hn
  obtain ⟨m, hm⟩ : ∃ m, m = 1 + y := ⟨_, rfl⟩
  have WY := hidp (show IntKind.i64.wrap (1 + (y : Int)) = (m : Int) by rw [IntWalk.i64_in _ (by constructor <;> omega)]; omega)
  rw [← hm]
  clear hm
  have hmk : ∀ W : World, (Instr.makeSlice 33 (.int .i64 (n : Int)) (.int .i64 (n : Int))).run Try.prog W = .ok (.slice (some ⟨W.heap.size, 0, none⟩) n n) (W.alloc (.cells (madeCells #[.bool false] n) 4)) := fun W => run_make_row' 33 4 _ _ Try.underlying33 info_bool rfl _ _ n (by omega) (by omega) W
  go_enter Try.func22, Try.ntmps22
  go_wp2_with fail
  refine (C1.out _).mono ?_
  rintro e w' ⟨rfl, rfl⟩
  go_wp2_with fail
  have t0 : ((w.alloc (.cells #[.int .i64 (n : Nat), .int .i64 (m : Nat), .slice (some ⟨w.heap.size + 1, 0, none⟩) n n] 35)).alloc (.cells (madeCells #[.bool false] n) 4)).drew.cell? ⟨w.heap.size, 0, none⟩ = some (.int .i64 (n : Nat)) := by go_simp
  have t1 : ((w.alloc (.cells #[.int .i64 (n : Nat), .int .i64 (m : Nat), .slice (some ⟨w.heap.size + 1, 0, none⟩) n n] 35)).alloc (.cells (madeCells #[.bool false] n) 4)).drew.cell? ⟨w.heap.size, 1, none⟩ = some (.int .i64 (m : Nat)) := by go_simp
  have t2 : ((w.alloc (.cells #[.int .i64 (n : Nat), .int .i64 (m : Nat), .slice (some ⟨w.heap.size + 1, 0, none⟩) n n] 35)).alloc (.cells (madeCells #[.bool false] n) 4)).drew.cell? ⟨w.heap.size, 2, none⟩ = some (.slice (some ⟨w.heap.size + 1, 0, none⟩) n n) := by go_simp
  have hv := World.ownsRow.drew (own_madeB (w.alloc (.cells #[.int .i64 (n : Nat), .int .i64 (m : Nat), .slice (some ⟨w.heap.size + 1, 0, none⟩) n n] 35)) w.heap.size (w.heap.size + 1) n (by simp) (by omega) (by omega))
  have hb : Below w.heap.size w ((w.alloc (.cells #[.int .i64 (n : Nat), .int .i64 (m : Nat), .slice (some ⟨w.heap.size + 1, 0, none⟩) n n] 35)).alloc (.cells (madeCells #[.bool false] n) 4)).drew := Below.drew (((Below.refl _ _).alloc (Nat.le_refl _) _).alloc (by simp) _)
  go_region_with (go_at_call 16; go_loud (refine (C2.out _).mono ?_; rintro e w' ⟨rfl, rfl⟩))
  all_goals go_wp2
  all_goals rw [WY.out]
  all_goals generalize ((w.alloc (.cells #[.int .i64 (n : Nat), .int .i64 (m : Nat), .slice (some ⟨w.heap.size + 1, 0, none⟩) n n] 35)).alloc (.cells (madeCells #[.bool false] n) 4)).drew = w7 at *
  all_goals refine bodyPost_ret (v := .agg #[.int .i64 (n : Nat), .int .i64 (m : Nat), .slice (some ⟨w.heap.size + 1, 0, none⟩) n n]) (by simp [results, Try.results22, go_sem, t0, t1, t2]) rfl ⟨w.heap.size + 1, rfl, ?_, hb⟩
  all_goals rw [tab_map]
  all_goals exact hv
/-- The bits when the first k keys were put. -/
def pf (sz wy : Nat) (f : Nat → Bool) (xs : List Int) : Nat → Nat → Bool
  | 0, j => f j
  | k + 1, j => pf sz wy f xs k j || hitP (plc sz (gi xs k)) wy j
theorem pf_iff (sz wy : Nat) (f : Nat → Bool) (xs : List Int) (k j : Nat) : pf sz wy f xs k j = true ↔ f j = true ∨ ∃ i, i < k ∧ hitP (plc sz (gi xs i)) wy j = true := by
  induction k with
  | zero => simp [pf]
  | succ k ih =>
    simp only [pf, Bool.or_eq_true, ih]
    constructor
    · rintro ((h | ⟨i, h1, h2⟩) | h)
      · exact .inl h
      · exact .inr ⟨i, by omega, h2⟩
      · exact .inr ⟨k, by omega, h⟩
    · rintro (h | ⟨i, h1, h2⟩)
      · exact .inl (.inl h)
      · by_cases e : i = k
        · exact .inr (by rw [← e]; exact h2)
        · exact .inl (.inr ⟨i, by omega, h2⟩)
theorem tab_gbs (bs : List Bool) (n : Nat) (h : bs.length = n) : tab (gb bs) n = bs := by
  apply List.ext_getElem?
  intro i
  by_cases hi : i < n
  · rw [tab_get _ _ _ hi, List.getElem?_eq_getElem (by omega)]
    simp [gb, List.getD_eq_getElem?_getD, List.getElem?_eq_getElem (show i < bs.length by omega)]
  · rw [List.getElem?_eq_none (by rw [tab_len]; omega), List.getElem?_eq_none (by omega)]
/-- What stands in memory while keys are put. -/
structure PutS (P sz wy : Nat) (g : Option Addr) (cv : Nat) (W : World) : Prop where
  lt : P + 1 < W.heap.size
  c0 : W.cell? ⟨P, 0, none⟩ = some (.int .i64 (sz : Nat))
  c1 : W.cell? ⟨P, 1, none⟩ = some (.int .i64 (wy : Nat))
  c2 : W.cell? ⟨P, 2, none⟩ = some (.slice g sz cv)
  r0 : ∃ v, W.cell? ⟨P + 1, 0, none⟩ = some v
  r1 : ∃ v, W.cell? ⟨P + 1, 1, none⟩ = some v
  r2 : ∃ v, W.cell? ⟨P + 1, 2, none⟩ = some v
  fp : ∀ o, W.frozen? ⟨P, o, none⟩ = false
  fr : ∀ o, W.frozen? ⟨P + 1, o, none⟩ = false
theorem PutS.below {P sz wy : Nat} {g : Option Addr} {cv : Nat} {W W' : World} (h : PutS P sz wy g cv W) (hb : Below W.heap.size W W') : PutS P sz wy g cv W' := by
  obtain ⟨lt, c0, c1, c2, ⟨v0, r0⟩, ⟨v1, r1⟩, ⟨v2, r2⟩, fp, fr⟩ := h
  exact ⟨Nat.lt_of_lt_of_le lt hb.size, ck hb c0, ck hb c1, ck hb c2, ⟨v0, ck hb r0⟩, ⟨v1, ck hb r1⟩, ⟨v2, ck hb r2⟩, fun o => (hb.frozen (p := ⟨P, o, none⟩) (by show P < _; omega)).trans (fp o), fun o => (hb.frozen (p := ⟨P + 1, o, none⟩) lt).trans (fr o)⟩
theorem PutS.set {P sz wy : Nat} {g : Option Addr} {cv : Nat} {W : World} (h : PutS P sz wy g cv W) (g' : Option Addr) (cv' : Nat) : PutS P sz wy g' cv' (((W.setCell ⟨P, 0, none⟩ (.int .i64 (sz : Nat))).setCell ⟨P, 1, none⟩ (.int .i64 (wy : Nat))).setCell ⟨P, 2, none⟩ (.slice g' sz cv')) := by
  obtain ⟨lt, c0, c1, c2, ⟨v0, r0⟩, ⟨v1, r1⟩, ⟨v2, r2⟩, fp, fr⟩ := h
  exact ⟨by simpa using lt, by go_simp, by go_simp, by go_simp, ⟨v0, cell_off (cell_off (cell_off r0 (by omega)) (by omega)) (by omega)⟩, ⟨v1, cell_off (cell_off (cell_off r1 (by omega)) (by omega)) (by omega)⟩, ⟨v2, cell_off (cell_off (cell_off r2 (by omega)) (by omega)) (by omega)⟩, fun o => by rw [← fp o]; simp, fun o => by rw [← fr o]; simp⟩
theorem BoolsAt.setCell {W : World} {a : Option Addr} {n c : Nat} {bs : List Bool} (h : BoolsAt W a n c bs) (P k : Nat) (u : Value) (hne : ∀ b o, a = some ⟨b, o, none⟩ → b ≠ P) : BoolsAt (W.setCell ⟨P, k, none⟩ u) a n c bs := by
  refine ⟨h.len, h.le, h.max, fun hn => ?_⟩
  obtain ⟨b, o, rfl, hb, hc⟩ := h.cells hn
  exact ⟨b, o, rfl, by simpa using hb, fun i hi => cell_off (hc i hi) (hne b o rfl)⟩

set_option maxHeartbeats 4000000 in
theorem bputl_c (sz wy : Nat) (a : Option Addr) (c : Nat) (bs : List Bool) (al : Option Addr) (n cl : Nat) (xs : List Int) (w : World) (h : BoolsAt w a sz c bs) (hx : IntsAt w al n cl xs) (h1 : 1 ≤ sz) (h2 : sz ≤ 256) (h3 : 1 ≤ wy) (h4 : wy ≤ 8) :
    Calls Try.prog 21 #[filtV sz wy a sz c, .slice al n cl] w fun e w' => ∃ g cv, e = .returned (.tuple #[filtV sz wy g sz cv, .bool true])
      ∧ BoolsAt w' g sz cv (tab (pf sz wy (gb bs) xs (min n 100)) sz) ∧ Below w.heap.size w w' ∧ (g = a ∨ ∃ b, g = some ⟨b, 0, none⟩ ∧ w.heap.size ≤ b) := by
  have CP := hidp (fun a c bs key W hb => bput_c sz wy a c bs key W hb h1 h2 h3 h4)
  have H := hidp h
  obtain ⟨b, o, hz, hx'⟩ := hx.split
  have hz' : Hid (n = 0) ∨ al = some ⟨b, o, none⟩ := hz.imp_left hidp
  have HX := hidp hx'
  have mm := hx.max
  have ee := hx.le
  obtain ⟨N, hN⟩ : ∃ N : Nat, N = min n 100 := ⟨_, rfl⟩
  have hN1 : N ≤ 100 := by omega
  have hN2 : N ≤ n := by omega
  have hmin : min (n : Int) 100 = (N : Int) := by omega
  rw [← hN]
  clear hx hx' hz h hN
  unfold filtV at *
  go_enter Try.func21, Try.ntmps21
  go_wp2_with fail
  have P0 : PutS w.heap.size sz wy a c ((w.alloc (.cells #[.int .i64 (sz : Nat), .int .i64 (wy : Nat), .slice a sz c] 35)).alloc (.cells #[.int .i64 0, .int .i64 0, .slice none 0 0] 35)) :=
    ⟨by simp, by go_simp, by go_simp, by go_simp, ⟨.int .i64 0, by go_simp⟩, ⟨.int .i64 0, by go_simp⟩, ⟨.slice none 0 0, by go_simp⟩, fun o => by go_simp, fun o => by go_simp⟩
  have hb0 : Below w.heap.size w ((w.alloc (.cells #[.int .i64 (sz : Nat), .int .i64 (wy : Nat), .slice a sz c] 35)).alloc (.cells #[.int .i64 0, .int .i64 0, .slice none 0 0] 35)) := bal (bal (Below.refl _ _) _) _
  have hl := H.out.len
  have hB0 : BoolsAt ((w.alloc (.cells #[.int .i64 (sz : Nat), .int .i64 (wy : Nat), .slice a sz c] 35)).alloc (.cells #[.int .i64 0, .int .i64 0, .slice none 0 0] 35)) a sz c (tab (pf sz wy (gb bs) xs 0) sz) := by
    have := H.out.below hb0
    rw [show tab (pf sz wy (gb bs) xs 0) sz = bs from tab_gbs bs sz hl]
    exact this
  have hne0 : ∀ b o, a = some ⟨b, o, none⟩ → b ≠ w.heap.size ∧ b ≠ w.heap.size + 1 := by
    obtain ⟨b, o, ha, hlt, _⟩ := H.out.cells h1
    intro b' o' h'
    rw [ha] at h'
    simp only [Option.some.injEq, Addr.mk.injEq] at h'
    omega
  have PP := hidp P0
  have HB0 := hidp hB0
  have HNE := hidp hne0
  have HBB := hidp hb0
  clear P0 hB0 hne0 hb0 hl
  generalize ((w.alloc (.cells #[.int .i64 (sz : Nat), .int .i64 (wy : Nat), .slice a sz c] 35)).alloc (.cells #[.int .i64 0, .int .i64 0, .slice none 0 0] 35)) = w1 at *
  go_loopw [16] (fun i wr => ∃ (k : Nat) (g : Option Addr) (cv : Nat), k ≤ N ∧ i = .int .i64 k ∧ Hid (PutS w.heap.size sz wy g cv wr) ∧ Hid (BoolsAt wr g sz cv (tab (pf sz wy (gb bs) xs k) sz)) ∧ Hid (∀ b o, g = some ⟨b, o, none⟩ → b ≠ w.heap.size ∧ b ≠ w.heap.size + 1) ∧ Hid (g = a ∨ ∃ b, g = some ⟨b, 0, none⟩ ∧ w.heap.size ≤ b) ∧ Below w.heap.size w wr) (fun i _ => N - (intOf i).toNat)
  case atStart => exact ⟨0, a, c, by omega, rfl, PP, HB0, HNE, hidp (.inl rfl), HBB.out⟩
  case round =>
    clear PP HB0 HNE HBB
    obtain ⟨k, g, cv, hk, rfl, PP, HB, HNE, FRE, hbl⟩ := hrel
    obtain ⟨plt, c0, c1, c2, ⟨v0, r0⟩, ⟨v1, r1⟩, ⟨v2, r2⟩, fp, fr⟩ := PP.out
    by_cases hlt : k < N
    · obtain rfl : al = some ⟨b, o, none⟩ := hz'.resolve_left (fun e => by have := e.out; omega)
      have q := carry_cell (HX.out k (by omega)) hbl
      have kI : (k : Int) < (N : Int) := by omega
      clear r0 r1 r2 fp fr
      go_wp2_with fail
      refine (CP.out _ _ _ _ _ HB.out).mono ?_
      rintro e wx ⟨g', cv', rfl, hv, hbx⟩
      have hPx : PutS w.heap.size sz wy g cv (wx.alloc (.cells #[.int .i64 (sz : Nat), .int .i64 (wy : Nat), .slice (some ⟨g', 0, none⟩) sz cv'] 35)) := PP.out.below (hbx.alloc (by have := hbx.size; omega) _)
      have PS := hidp (hPx.set (some ⟨g', 0, none⟩) cv')
      obtain ⟨plt', c0', c1', c2', _, _, _, fp', _⟩ := hPx
      have e0 := fp' 0
      have e1 := fp' 1
      have e2 := fp' 2
      obtain ⟨ag, cg, hve, hbo⟩ := owns_bools hv
      simp only [Value.slice.injEq] at hve
      obtain ⟨hve1, _, rfl⟩ := hve
      subst hve1
      have hgx : wr.heap.size ≤ g' := by
        have := hv.lt g' (by simp [Value.ownBlock])
        exact this.1
      have HBo := hidp hbo
      have FRE2 := hidp (show (some (⟨g', 0, none⟩ : Addr)) = a ∨ ∃ b, (some (⟨g', 0, none⟩ : Addr)) = some ⟨b, 0, none⟩ ∧ w.heap.size ≤ b from .inr ⟨g', rfl, by have := hbl.size; omega⟩)
      have hbw : Below w.heap.size w (wx.alloc (.cells #[.int .i64 (sz : Nat), .int .i64 (wy : Nat), .slice (some ⟨g', 0, none⟩) sz cv'] 35)) := bal (bstep hbl hbx) _
      clear fp' c0 c1 c2 hv hbx
      go_wp2_with fail
      go_roundw
      case measure => simp [intOf]; omega
      case rel =>
        refine ⟨k + 1, some ⟨g', 0, none⟩, cv', by omega, by go_num, PS, hidp ?_, hidp (fun b' o' h' => by simp only [Option.some.injEq, Addr.mk.injEq] at h'; omega), FRE2, ((hbw.setCell (p := ⟨w.heap.size, 0, none⟩) (Nat.le_refl _) _).setCell (p := ⟨w.heap.size, 1, none⟩) (Nat.le_refl _) _).setCell (p := ⟨w.heap.size, 2, none⟩) (Nat.le_refl _) _⟩
        have hq : ∀ b' o', some (⟨g', 0, none⟩ : Addr) = some ⟨b', o', none⟩ → b' ≠ w.heap.size := fun b' o' h' => by simp only [Option.some.injEq, Addr.mk.injEq] at h'; omega
        have := (((HBo.out.alloc (.cells #[.int .i64 (sz : Nat), .int .i64 (wy : Nat), .slice (some ⟨g', 0, none⟩) sz cv'] 35)).setCell w.heap.size 0 (.int .i64 (sz : Nat)) hq).setCell w.heap.size 1 (.int .i64 (wy : Nat)) hq).setCell w.heap.size 2 (.slice (some ⟨g', 0, none⟩) sz cv') hq
        rw [tab_congr _ (pf sz wy (gb bs) xs (k + 1)) sz (fun j hj => by rw [tab_gb _ _ _ hj]; rfl)] at this
        exact this
    · obtain rfl : k = N := by omega
      have z0 := fr 0
      have z1 := fr 1
      have z2 := fr 2
      have t0 : (((wr.setCell ⟨w.heap.size + 1, 0, none⟩ (.int .i64 (sz : Nat))).setCell ⟨w.heap.size + 1, 1, none⟩ (.int .i64 (wy : Nat))).setCell ⟨w.heap.size + 1, 2, none⟩ (.slice g sz cv)).cell? ⟨w.heap.size + 1, 0, none⟩ = some (.int .i64 (sz : Nat)) := by go_simp
      have t1 : (((wr.setCell ⟨w.heap.size + 1, 0, none⟩ (.int .i64 (sz : Nat))).setCell ⟨w.heap.size + 1, 1, none⟩ (.int .i64 (wy : Nat))).setCell ⟨w.heap.size + 1, 2, none⟩ (.slice g sz cv)).cell? ⟨w.heap.size + 1, 1, none⟩ = some (.int .i64 (wy : Nat)) := by go_simp
      have t2 : (((wr.setCell ⟨w.heap.size + 1, 0, none⟩ (.int .i64 (sz : Nat))).setCell ⟨w.heap.size + 1, 1, none⟩ (.int .i64 (wy : Nat))).setCell ⟨w.heap.size + 1, 2, none⟩ (.slice g sz cv)).cell? ⟨w.heap.size + 1, 2, none⟩ = some (.slice g sz cv) := by go_simp
      have hb6 : Below w.heap.size w (((wr.setCell ⟨w.heap.size + 1, 0, none⟩ (.int .i64 (sz : Nat))).setCell ⟨w.heap.size + 1, 1, none⟩ (.int .i64 (wy : Nat))).setCell ⟨w.heap.size + 1, 2, none⟩ (.slice g sz cv)) := ((hbl.setCell (p := ⟨w.heap.size + 1, 0, none⟩) (by show w.heap.size ≤ w.heap.size + 1; omega) _).setCell (p := ⟨w.heap.size + 1, 1, none⟩) (by show w.heap.size ≤ w.heap.size + 1; omega) _).setCell (p := ⟨w.heap.size + 1, 2, none⟩) (by show w.heap.size ≤ w.heap.size + 1; omega) _
      have hq : ∀ b' o', g = some (⟨b', o', none⟩ : Addr) → b' ≠ w.heap.size + 1 := fun b' o' h' => (HNE.out b' o' h').2
      have HB6 := hidp (((HB.out.setCell (w.heap.size + 1) 0 (.int .i64 (sz : Nat)) hq).setCell (w.heap.size + 1) 1 (.int .i64 (wy : Nat)) hq).setCell (w.heap.size + 1) 2 (.slice g sz cv) hq)
      clear fp fr hq
      go_wp2_with fail
      generalize (((wr.setCell ⟨w.heap.size + 1, 0, none⟩ (.int .i64 (sz : Nat))).setCell ⟨w.heap.size + 1, 1, none⟩ (.int .i64 (wy : Nat))).setCell ⟨w.heap.size + 1, 2, none⟩ (.slice g sz cv)) = w7 at *
      exact bodyPost_ret (v := .tuple #[.agg #[.int .i64 (sz : Nat), .int .i64 (wy : Nat), .slice g sz cv], .bool true]) (by simp [results, Try.results21, go_sem, t0, t1, t2]) rfl ⟨g, cv, rfl, HB6.out, hb6, FRE.out⟩
end Go.Proofs.Ytpghnbpoodcglaa
