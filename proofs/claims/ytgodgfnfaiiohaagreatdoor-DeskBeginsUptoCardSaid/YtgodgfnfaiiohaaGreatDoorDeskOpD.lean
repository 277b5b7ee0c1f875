/- alias.Make at whatever comes: exactly what it answers. -/
import Derived.Test.YtgodgfnfaiiohaaGreatDoorMgAliasUse
namespace Go.Proofs.YtgodgfnfaiiohaaGreatDoor
open Go.ChangeShapes Go.WideShapes Go.ChangeAt Go.RowKit
set_option maxRecDepth 20000
set_option linter.unusedVariables false
structure WkSt where
  own : Nat → Int
  left : Nat → Int
  rest : Nat → Nat
  low : List Nat
  high : List Nat
def wkStep (A : Int) (s : WkSt) : WkSt :=
  match s.low.getLast?, s.high.getLast? with
  | some i, some q => if s.left q - (A - s.left i) < A then ⟨Wk.upd s.own i (s.left i), Wk.upd s.left q (s.left q - (A - s.left i)), Wk.upd s.rest i q, s.low.dropLast ++ [q], s.high.dropLast⟩ else ⟨Wk.upd s.own i (s.left i), Wk.upd s.left q (s.left q - (A - s.left i)), Wk.upd s.rest i q, s.low.dropLast, s.high⟩
  | _, _ => s
theorem wkStep_two (A : Int) (own left : Nat → Int) (rest : Nat → Nat) (L H : List Nat) (i q : Nat) : wkStep A ⟨own, left, rest, L ++ [i], H ++ [q]⟩ = if left q - (A - left i) < A then ⟨Wk.upd own i (left i), Wk.upd left q (left q - (A - left i)), Wk.upd rest i q, L ++ [q], H⟩ else ⟨Wk.upd own i (left i), Wk.upd left q (left q - (A - left i)), Wk.upd rest i q, L, H ++ [q]⟩ := by
  simp [wkStep]
def wkI (A : Int) : Nat → WkSt → WkSt
  | 0, s => s
  | m + 1, s => wkStep A (wkI A m s)
/-- Where Walker's method ends. -/
def wkEnd (A : Int) (W : Nat → Int) (n : Nat) : WkSt := wkI A n ⟨fun _ => A, W, fun i => i, Wk.loF A W n, Wk.hiF A W n⟩
theorem wkI_end (A : Int) (S0 : WkSt) (m : Nat) : ∀ k, m ≤ k → ∀ {own left : Nat → Int} {rest : Nat → Nat} {H : List Nat}, wkI A m S0 = ⟨own, left, rest, [], H⟩ → wkI A k S0 = ⟨own, left, rest, [], H⟩
  | 0, hk, own, left, rest, H, h => by obtain rfl : m = 0 := by omega
                                       exact h
  | k + 1, hk, own, left, rest, H, h => by
    by_cases e : m = k + 1
    · subst e; exact h
    · show wkStep A (wkI A k S0) = _
      rw [wkI_end A S0 m k (by omega) h]
      rfl
theorem wkI_lo (A : Int) (S0 : WkSt) (k : Nat) {own left : Nat → Int} {rest : Nat → Nat} {L H : List Nat} {i q : Nat} (h : (L ++ [i]).length + (H ++ [q]).length ≤ k ∧ wkI A (k - ((L ++ [i]).length + (H ++ [q]).length)) S0 = ⟨own, left, rest, L ++ [i], H ++ [q]⟩) (hv : left q - (A - left i) < A) :
    (L ++ [q]).length + H.length ≤ k ∧ wkI A (k - ((L ++ [q]).length + H.length)) S0 = ⟨Wk.upd own i (left i), Wk.upd left q (left q - (A - left i)), Wk.upd rest i q, L ++ [q], H⟩ := by
  obtain ⟨h1, h2⟩ := h
  simp only [List.length_append, List.length_cons, List.length_nil] at h1 h2 ⊢
  refine ⟨by omega, ?_⟩
  rw [show k - (L.length + (0 + 1) + H.length) = k - (L.length + (0 + 1) + (H.length + (0 + 1))) + 1 by omega]
  show wkStep A (wkI A _ S0) = _
  rw [h2, wkStep_two, if_pos hv]
theorem wkI_hi (A : Int) (S0 : WkSt) (k : Nat) {own left : Nat → Int} {rest : Nat → Nat} {L H : List Nat} {i q : Nat} (h : (L ++ [i]).length + (H ++ [q]).length ≤ k ∧ wkI A (k - ((L ++ [i]).length + (H ++ [q]).length)) S0 = ⟨own, left, rest, L ++ [i], H ++ [q]⟩) (hv : ¬ left q - (A - left i) < A) :
    L.length + (H ++ [q]).length ≤ k ∧ wkI A (k - (L.length + (H ++ [q]).length)) S0 = ⟨Wk.upd own i (left i), Wk.upd left q (left q - (A - left i)), Wk.upd rest i q, L, H ++ [q]⟩ := by
  obtain ⟨h1, h2⟩ := h
  simp only [List.length_append, List.length_cons, List.length_nil] at h1 h2 ⊢
  refine ⟨by omega, ?_⟩
  rw [show k - (L.length + (H.length + (0 + 1))) = k - (L.length + (0 + 1) + (H.length + (0 + 1))) + 1 by omega]
  show wkStep A (wkI A _ S0) = _
  rw [h2, wkStep_two, if_neg hv]
set_option maxHeartbeats 8000000 in
theorem make_cy (a : Option Addr) (n c : Nat) (xs : List Int) (w : World) (h : IntsAt w a n c xs) (hE : wtsE xs n = 0) :
    Calls Tryz.prog 40 #[.slice a n c] w fun e w' => ∃ (g1 g2 : Nat) (own : Nat → Int) (rest : Nat → Nat), e = .returned (.tuple #[.agg #[.int .i64 (sumK xs n), .slice (some ⟨g1, 0, none⟩) n n, .slice (some ⟨g2, 0, none⟩) n n], .int .i64 0])
      ∧ Wk.Fin n (sumK xs n) (ws xs n) own rest ∧ (own = (wkEnd (sumK xs n) (ws xs n) n).own ∧ rest = (wkEnd (sumK xs n) (ws xs n) n).rest) ∧ w'.ownsRow w.heap.size 3 1 (.slice (some ⟨g1, 0, none⟩) n n) n (row own n) ∧ w'.ownsRow w.heap.size 3 1 (.slice (some ⟨g2, 0, none⟩) n n) n (row (fun j => (rest j : Nat)) n) ∧ Below w.heap.size w w' ∧ g1 ≠ g2 := by
  have CW := hidp (fun W hB => weights_c a n c xs W (h.below (w' := W) hB))
  obtain ⟨hn40, hok, hpos⟩ := wtsE_zero xs n hE
  obtain ⟨s1, s2⟩ := sumK_ok xs n hok
  have eV : wtsV xs n = sumK xs n := by unfold wtsV; rw [if_pos hE]
  rw [hE, eV] at CW
  have hmk : ∀ W : World, (Instr.makeSlice 37 (.int .i64 (n : Int)) (.int .i64 (n : Int))).run Tryz.prog W = .ok (.slice (some ⟨W.heap.size, 0, none⟩) n n) (W.alloc (.cells (madeCells #[.int .i64 0] n) 3)) := fun W => run_make_row' 37 3 _ _ Tryz.underlying37 info_int rfl _ _ n (by omega) (by omega) W
  have H := hidp h
  have OK := hidp hok
  have hn1 : 1 ≤ n := by
    rcases Nat.eq_zero_or_pos n with e | e
    · subst e; simp [sumK] at hpos
    · exact e
  clear eV h hok
  obtain ⟨A, hA⟩ : ∃ A, A = sumK xs n := ⟨_, rfl⟩
  rw [← hA] at CW s1 s2 hpos ⊢
  have HA := hidp hA
  clear hA hE
  go_enter Tryz.func40, Tryz.ntmps40
  go_wp2_with fail
  refine (CW.out _ (bal (Below.refl _ _) _)).mono ?_
  rintro e w' ⟨rfl, rfl⟩
  go_upto_region 4 with fail
  go_cut [6] (fun s6 wx => ∃ (p g1 g2 : Nat), s6 = .pointer (some ⟨p, 0, none⟩) ∧ w.heap.size < p ∧ p < wx.heap.size ∧ w.heap.size < g1 ∧ g1 < wx.heap.size ∧ w.heap.size < g2 ∧ g2 < wx.heap.size ∧ p ≠ g1 ∧ p ≠ g2 ∧ g1 ≠ g2 ∧
    wx.cell? ⟨p, 0, none⟩ = some (.int .i64 A) ∧ wx.cell? ⟨p, 1, none⟩ = some (.slice (some ⟨g1, 0, none⟩) n n) ∧ wx.cell? ⟨p, 2, none⟩ = some (.slice (some ⟨g2, 0, none⟩) n n) ∧ 
    wx.ownsRow (w.heap.size + 1) 3 1 (.slice (some ⟨g1, 0, none⟩) n n) n (tab (fun _ => Value.int .i64 0) n) ∧ wx.ownsRow (w.heap.size + 1) 3 1 (.slice (some ⟨g2, 0, none⟩) n n) n (tab (fun _ => Value.int .i64 0) n) ∧ Below (w.heap.size + 1) (w.alloc (.cells #[.int .i64 0, .slice none 0 0, .slice none 0 0] 83)) wx)
  case first =>
    go_region
    all_goals go_wp2
    all_goals go_meet
    · exact ⟨w.heap.size + 1 + 1 + 1, w.heap.size + 1, w.heap.size + 1 + 1, rfl, by omega, by simp, by omega, by simp, by omega, by simp, by omega, by omega, by omega, by go_simp, by go_simp, by go_simp, World.ownsRow.alloc (World.ownsRow.alloc (own_made _ _ _ _ n _ (by simp) (by omega) (by omega)) _) _, World.ownsRow.alloc (own_made _ _ _ _ n _ (by simp) (by omega) (by omega)) _, Below.drew ((((Below.refl _ _).alloc (by simp) _).alloc (by simp) _).alloc (by simp) _)⟩
    · exact ⟨w.heap.size + 1 + 1, w.heap.size + 1, w.heap.size + 1 + 1 + 1, rfl, by omega, by simp, by omega, by simp, by omega, by simp, by omega, by omega, by omega, by go_simp, by go_simp, by go_simp, World.ownsRow.alloc (World.ownsRow.alloc (own_made _ _ _ _ n _ (by simp) (by omega) (by omega)) _) _, own_made _ _ _ _ n _ (by simp) (by omega) (by omega), Below.drew ((((Below.refl _ _).alloc (by simp) _).alloc (by simp) _).alloc (by simp) _)⟩
    · exact ⟨w.heap.size + 1 + 1 + 1, w.heap.size + 1 + 1, w.heap.size + 1, rfl, by omega, by simp, by omega, by simp, by omega, by simp, by omega, by omega, by omega, by go_simp, by go_simp, by go_simp, World.ownsRow.alloc (own_made _ _ _ _ n _ (by simp) (by omega) (by omega)) _, World.ownsRow.alloc (World.ownsRow.alloc (own_made _ _ _ _ n _ (by simp) (by omega) (by omega)) _) _, Below.drew ((((Below.refl _ _).alloc (by simp) _).alloc (by simp) _).alloc (by simp) _)⟩
    · exact ⟨w.heap.size + 1 + 1, w.heap.size + 1 + 1 + 1, w.heap.size + 1, rfl, by omega, by simp, by omega, by simp, by omega, by simp, by omega, by omega, by omega, by go_simp, by go_simp, by go_simp, own_made _ _ _ _ n _ (by simp) (by omega) (by omega), World.ownsRow.alloc (World.ownsRow.alloc (own_made _ _ _ _ n _ (by simp) (by omega) (by omega)) _) _, Below.drew ((((Below.refl _ _).alloc (by simp) _).alloc (by simp) _).alloc (by simp) _)⟩
    · exact ⟨w.heap.size + 1, w.heap.size + 1 + 1, w.heap.size + 1 + 1 + 1, rfl, by omega, by simp, by omega, by simp, by omega, by simp, by omega, by omega, by omega, by go_simp, by go_simp, by go_simp, World.ownsRow.alloc (own_made _ _ _ _ n _ (by simp) (by omega) (by omega)) _, own_made _ _ _ _ n _ (by simp) (by omega) (by omega), Below.drew ((((Below.refl _ _).alloc (by simp) _).alloc (by simp) _).alloc (by simp) _)⟩
    · exact ⟨w.heap.size + 1, w.heap.size + 1 + 1 + 1, w.heap.size + 1 + 1, rfl, by omega, by simp, by omega, by simp, by omega, by simp, by omega, by omega, by omega, by go_simp, by go_simp, by go_simp, own_made _ _ _ _ n _ (by simp) (by omega) (by omega), World.ownsRow.alloc (own_made _ _ _ _ n _ (by simp) (by omega) (by omega)) _, Below.drew ((((Below.refl _ _).alloc (by simp) _).alloc (by simp) _).alloc (by simp) _)⟩
  case rest =>
    obtain ⟨p, g1, g2, rfl, p1, p2, a1, a2, b1, b2, e1, e2, e3, k0, k1, k2, r1, r2, hbl⟩ := hcut
    have hsz := hbl.size
    simp at hsz
    have hwb0 : Below w.heap.size w (w.alloc (.cells #[.int .i64 0, .slice none 0 0, .slice none 0 0] 83)) := bal (Below.refl _ _) _
    have hws : (w.alloc (.cells #[.int .i64 0, .slice none 0 0, .slice none 0 0] 83)).heap.size = w.heap.size + 1 := by simp
    have R0 : (w.alloc (.cells #[.int .i64 0, .slice none 0 0, .slice none 0 0] 83)).cell? ⟨w.heap.size, 0, none⟩ = some (.int .i64 0) := by go_simp
    have R1 : (w.alloc (.cells #[.int .i64 0, .slice none 0 0, .slice none 0 0] 83)).cell? ⟨w.heap.size, 1, none⟩ = some (.slice none 0 0) := by go_simp
    have R2 : (w.alloc (.cells #[.int .i64 0, .slice none 0 0, .slice none 0 0] 83)).cell? ⟨w.heap.size, 2, none⟩ = some (.slice none 0 0) := by go_simp
    have R3 : ∀ o, (w.alloc (.cells #[.int .i64 0, .slice none 0 0, .slice none 0 0] 83)).frozen? ⟨w.heap.size, o, none⟩ = false := fun o => by go_simp
    generalize (w.alloc (.cells #[.int .i64 0, .slice none 0 0, .slice none 0 0] 83)) = w1 at *
    have RR := hidp (And.intro R0 (And.intro R1 (And.intro R2 R3)))
    have HBW := hidp (fun W (h : Below (w.heap.size + 1) w1 W) => hwb0.trans (h.mono (by omega)))
    have HWS := hidp hws
    clear R0 R1 R2 R3 hwb0 hws
    have hb0 := hbl
    obtain ⟨g3, hg3⟩ : ∃ g3, g3 = wc.heap.size := ⟨_, rfl⟩
    have M0 : Mk (w.heap.size + 1) p g1 g2 g3 n A (fun _ => 0) (fun _ => 0) (fun _ => 0) (wc.alloc (.cells (madeCells #[.int .i64 0] n) 3)) :=
      ⟨ca k0 _, ca k1 _, ca k2 _, r1.alloc _, r2.alloc _, own_made _ _ _ _ n _ hg3.symm (by omega) (by omega), e1, e2, by omega, e3, by omega, by omega⟩
    have HM := hidp M0
    have hb1 : Below (w.heap.size + 1) w1 (wc.alloc (.cells (madeCells #[.int .i64 0] n) 3)) := hb0.alloc (by omega) _
    obtain ⟨b, o, hz, hx⟩ := H.out.split
    have hz' : Hid (n = 0) ∨ a = some ⟨b, o, none⟩ := hz.imp_left hidp
    have HX := hidp hx
    have mm := H.out.max
    have ee := H.out.le
    clear k0 k1 k2 r1 r2 M0 hx hz hbl CW
    go_wp2_with fail
    rw [← hg3]
    have hs1 : (wc.alloc (.cells (madeCells #[.int .i64 0] n) 3)).heap.size = g3 + 1 := by simp [hg3]
    generalize wc.alloc (.cells (madeCells #[.int .i64 0] n) 3) = wb at *
    have a3 : g1 < g3 := by omega
    have b3 : g2 < g3 := by omega
    have p3 : p < g3 := by omega
    have q3 : w.heap.size < g3 := by omega
    clear hmk hg3 hb0
    have HPR := hidp (fun k (hk : k < n) => prod_bd (gi xs k) n hn40 (okN_at xs n OK.out k hk).1 (okN_at xs n OK.out k hk).2)
    have FS := fun k => hidp (Wk.F_len A (ws xs n) k)
    go_loopg [8, 9, 36] n (fun gg lo hi i wr => ∃ k : Nat, k ≤ n ∧ n - k ≤ gg ∧ i = .int .i64 k ∧
      Hid (∃ own left rest, Mk (w.heap.size + 1) p g1 g2 g3 n A own left rest wr ∧ ∀ j, j < k → own j = A ∧ left j = ws xs n j ∧ rest j = j) ∧
      Hid (wr.ownsRow (g3 + 1) 3 1 lo (Wk.loF A (ws xs n) k).length (vn (Wk.loF A (ws xs n) k))) ∧ Hid (wr.ownsRow (g3 + 1) 3 1 hi (Wk.hiF A (ws xs n) k).length (vn (Wk.hiF A (ws xs n) k))) ∧ Apart lo hi ∧ Below (w.heap.size + 1) w1 wr ∧ g3 + 1 ≤ wr.heap.size)
    case atStart => exact ⟨0, by omega, by omega, rfl, hidp ⟨_, _, _, HM.out, fun j hj => by omega⟩, hidp (World.ownsRow_nil _ _ _ _), hidp (World.ownsRow_nil _ _ _ _), .inl rfl, hb1, by omega⟩
    case round =>
      obtain ⟨k, hk, hgg, rfl, hmk, hlo, hhi, hap, hbl, hsz2⟩ := hrel
      by_cases hlt : k < n
      · obtain rfl : a = some ⟨b, o, none⟩ := hz'.resolve_left (fun e => by have := e.out; omega)
        have q := carry_cell (HX.out k hlt) (HBW.out _ hbl)
        obtain ⟨own, left, rest, hm, hj⟩ := hmk.out
        obtain ⟨x1, x2⟩ := HPR.out k hlt
        have c1 : wr.cell? ⟨p, 1, none⟩ = some (.slice (some ⟨g1, 0, none⟩) n n) := hm.c1
        have c2 : wr.cell? ⟨p, 2, none⟩ = some (.slice (some ⟨g2, 0, none⟩) n n) := hm.c2
        have y1 : wr.cell? ⟨g1, k, none⟩ = some (.int .i64 (own k)) := by have := hm.o1.cellAt k (by omega); unfold row at this; rw [tab_get _ _ _ hlt] at this; exact this
        have y2 : wr.cell? ⟨g2, k, none⟩ = some (.int .i64 (rest k : Nat)) := by have := hm.o2.cellAt k (by omega); unfold row at this; rw [tab_get _ _ _ hlt] at this; exact this
        have y3 : wr.cell? ⟨g3, k, none⟩ = some (.int .i64 (left k)) := by have := hm.o3.cellAt k (by omega); unfold row at this; rw [tab_get _ _ _ hlt] at this; exact this
        have z1 : wr.frozen? ⟨g1, k, none⟩ = false := hm.o1.frozenAt k
        have z2 : wr.frozen? ⟨g2, k, none⟩ = false := hm.o2.frozenAt k
        have z3 : wr.frozen? ⟨g3, k, none⟩ = false := hm.o3.frozenAt k
        have d4 := hm.d4
        have d5 := hm.d5
        have d6 := hm.d6
        have hM2 := hidp (((hm.store3 k (gi xs k * n)).store1 k A).store2 k k)
        have hJ := hidp hj
        have d1 : ¬ g1 = p := fun e => hm.d1 e.symm
        have d2 : ¬ g2 = p := fun e => hm.d2 e.symm
        have d3 : ¬ g3 = p := fun e => hm.d3 e.symm
        have d4' : ¬ g2 = g1 := fun e => d4 e.symm
        have d5' : ¬ g3 = g1 := fun e => d5 e.symm
        have d6' : ¬ g3 = g2 := fun e => d6 e.symm
        have kI : (k : Int) < (n : Int) := by omega
        have WR := hidp (IntWalk.i64_in (gi xs k * n) (by constructor <;> omega))
        clear hm hj hmk
        go_wp2_with fail
        go_region_held3 (fun w' => w'.cell? ⟨p, 1, none⟩ = some (.slice (some ⟨g1, 0, none⟩) n n) ∧ w'.cell? ⟨p, 2, none⟩ = some (.slice (some ⟨g2, 0, none⟩) n n)) (go_keep) (fail)
        rw [WR.out]
        have hL2 : ∀ v m l, wr.ownsRow (g3 + 1) 3 1 v m l → ((((wr.setCell ⟨g3, k, none⟩ (.int .i64 (gi xs k * n))).setCell ⟨g1, k, none⟩ (.int .i64 A)).setCell ⟨g2, k, none⟩ (.int .i64 (k : Nat))).drew).ownsRow (g3 + 1) 3 1 v m l := fun v m l h =>
          ownsRow_setCell_below (ownsRow_setCell_below (ownsRow_setCell_below h (a := ⟨g3, k, none⟩) (by show g3 < g3 + 1; omega) _) (a := ⟨g1, k, none⟩) (by show g1 < g3 + 1; omega) _) (a := ⟨g2, k, none⟩) (by show g2 < g3 + 1; omega) _
        have hlo2 := hidp (hL2 _ _ _ hlo.out)
        have hhi2 := hidp (hL2 _ _ _ hhi.out)
        have hb2 : Below (w.heap.size + 1) w1 ((((wr.setCell ⟨g3, k, none⟩ (.int .i64 (gi xs k * n))).setCell ⟨g1, k, none⟩ (.int .i64 A)).setCell ⟨g2, k, none⟩ (.int .i64 (k : Nat))).drew) :=
          Below.drew (((hbl.setCell (p := ⟨g3, k, none⟩) (by show w.heap.size + 1 ≤ g3; omega) _).setCell (p := ⟨g1, k, none⟩) (by show w.heap.size + 1 ≤ g1; omega) _).setCell (p := ⟨g2, k, none⟩) (by show w.heap.size + 1 ≤ g2; omega) _)
        have hs2 : g3 + 1 ≤ ((((wr.setCell ⟨g3, k, none⟩ (.int .i64 (gi xs k * n))).setCell ⟨g1, k, none⟩ (.int .i64 A)).setCell ⟨g2, k, none⟩ (.int .i64 (k : Nat))).drew).heap.size := by simp; omega
        have hM3 := hidp (hM2.out.drew)
        have hq := hM3.out.o3.cellAt k (by omega)
        unfold row at hq
        rw [tab_get _ _ _ hlt, Wk.upd_at] at hq
        have q2 : (((wr.setCell ⟨g3, k, none⟩ (.int .i64 (gi xs k * n))).setCell ⟨g1, k, none⟩ (.int .i64 A)).setCell ⟨g2, k, none⟩ (.int .i64 (k : Nat))).drew.cell? ⟨g3, k, none⟩ = some (.int .i64 (gi xs k * n)) := hq
        clear c1 c2 y1 y2 y3 z1 z2 z3 q hlo hhi hbl hsz2 hL2 hM2 hq
        generalize (((wr.setCell ⟨g3, k, none⟩ (.int .i64 (gi xs k * n))).setCell ⟨g1, k, none⟩ (.int .i64 A)).setCell ⟨g2, k, none⟩ (.int .i64 (k : Nat))).drew = W2 at *
        have hNew := hidp (show ∀ j, j < k + 1 → Wk.upd own k A j = A ∧ Wk.upd left k (gi xs k * n) j = ws xs n j ∧ Wk.upd rest k k j = j from fun j hj => by
          by_cases e : j = k
          · subst e; rw [Wk.upd_at, Wk.upd_at, Wk.upd_at]; exact ⟨rfl, rfl, rfl⟩
          · rw [Wk.upd_ne _ _ _ _ e, Wk.upd_ne _ _ _ _ e, Wk.upd_ne _ _ _ _ e]; exact hJ.out j (by omega))
        have hne0 : ∀ v m l, W2.ownsRow (g3 + 1) 3 1 v m l → v.ownBlock ≠ some p ∧ v.ownBlock ≠ some g1 ∧ v.ownBlock ≠ some g2 ∧ v.ownBlock ≠ some g3 := fun v m l h =>
          ⟨fun e => by have := (h.lt _ e).1; omega, fun e => by have := (h.lt _ e).1; omega, fun e => by have := (h.lt _ e).1; omega, fun e => by have := (h.lt _ e).1; omega⟩
        have hlen := (FS k).out
        by_cases hwA : gi xs k * (n : Int) < A
        · have F1 := hidp (Wk.loF_step A (ws xs n) k hwA)
          obtain ⟨n0, n1, n2, n3⟩ := hne0 _ _ _ hlo2.out
          clear hne0
          go_wp2_with (at_builtin; go_loud (refine wpList_append_new rfl (.tmp 64) (.tmp 66) 37 rfl (g3 + 1) 3 _ 1 8 info_int rfl (by decide) Tryz.underlying37 _ _ _ rfl hlo2.out rfl (one_int _ _) rfl rfl (by omega) (by decide) hs2 ?_; intro v0 x0 nv g0 d0))
          go_roundg (n - (k + 1))
          case measure => omega
          case rel =>
            exact ⟨k + 1, by omega, by omega, by go_num, hidp ⟨_, _, _, hM3.out.grown g0 n0 n1 n2 n3, hNew.out⟩, hidp (by rw [F1.out.1, List.length_append]; unfold vn; rw [List.map_append]; exact nv), hidp (by rw [F1.out.2]; exact hhi2.out.kept g0 hap.symm), hap.grown hhi2.out d0,
              append_step (owns_mono hlo2.out (by omega)) hb2 (Nat.le_of_eq HWS.out.symm) g0, by have := g0.size; omega⟩
        · have F1 := hidp (Wk.hiF_step A (ws xs n) k hwA)
          obtain ⟨n0, n1, n2, n3⟩ := hne0 _ _ _ hhi2.out
          clear hne0
          go_wp2_with (at_builtin; go_loud (refine wpList_append_new rfl (.tmp 68) (.tmp 70) 37 rfl (g3 + 1) 3 _ 1 8 info_int rfl (by decide) Tryz.underlying37 _ _ _ rfl hhi2.out rfl (one_int _ _) rfl rfl (by omega) (by decide) hs2 ?_; intro v0 x0 nv g0 d0))
          go_roundg (n - (k + 1))
          case measure => omega
          case rel =>
            exact ⟨k + 1, by omega, by omega, by go_num, hidp ⟨_, _, _, hM3.out.grown g0 n0 n1 n2 n3, hNew.out⟩, hidp (by rw [F1.out.1]; exact hlo2.out.kept g0 hap), hidp (by rw [F1.out.2, List.length_append]; unfold vn; rw [List.map_append]; exact nv), (hap.symm.grown hlo2.out d0).symm,
              append_step (owns_mono hhi2.out (by omega)) hb2 (Nat.le_of_eq HWS.out.symm) g0, by have := g0.size; omega⟩
      · obtain rfl : k = n := by omega
        obtain ⟨own, left, rest, hm, hj⟩ := hmk.out
        have hM := hidp (hm.congr (own' := fun _ => A) (left' := ws xs k) (rest' := fun i => i) (fun j hj' => (hj j hj').1) (fun j hj' => (hj j hj').2.1) (fun j hj' => (hj j hj').2.2))
        have hI := hidp (Wk.Inv.init k A (ws xs k) (fun i hi => (HPR.out i hi).1) (by rw [sumT_ws, ← HA.out]))
        have hlen := (FS k).out
        obtain ⟨S0, hS0⟩ : ∃ S0, S0 = (⟨fun _ => A, ws xs k, fun i => i, Wk.loF A (ws xs k) k, Wk.hiF A (ws xs k) k⟩ : WkSt) := ⟨_, rfl⟩
        have HEND := hidp (show wkEnd A (ws xs k) k = wkI A k S0 by rw [hS0]; rfl)
        clear hm hj hmk HM
        generalize Wk.loF A (ws xs k) k = L0 at *
        generalize Wk.hiF A (ws xs k) k = H0 at *
        have HS0 := hidp hS0
        clear hS0
        clear FS hgg
        go_wp2_with fail
        have hA4 : A ≤ 40000000000000 := by omega
        go_loopg [8, 9] k (fun gg lo hi wr => ∃ (L Hh : List Nat) (own left : Nat → Int) (rest : Nat → Nat), L.length + Hh.length ≤ gg ∧ L.length + Hh.length ≤ 40 ∧ Hid (L.length + Hh.length ≤ k ∧ wkI A (k - (L.length + Hh.length)) S0 = ⟨own, left, rest, L, Hh⟩) ∧ Hid (Wk.Inv k A (ws xs k) own left rest L Hh) ∧ Hid (Mk (w.heap.size + 1) p g1 g2 g3 k A own left rest wr) ∧
          Hid (wr.ownsRow (g3 + 1) 3 1 lo L.length (vn L)) ∧ Hid (wr.ownsRow (g3 + 1) 3 1 hi Hh.length (vn Hh)) ∧ Apart lo hi ∧ Below (w.heap.size + 1) w1 wr ∧ g3 + 1 ≤ wr.heap.size)
        case atStart => exact ⟨L0, H0, _, _, _, by omega, by omega, hidp ⟨by omega, by rw [hlen, Nat.sub_self]; exact HS0.out⟩, hI, hM, hlo, hhi, hap, hbl, hsz2⟩
        case round =>
          clear hI hM hlo hhi hap hbl hsz2 hlen
          obtain ⟨L, Hh, own, left, rest, hgg, h40, hE, hI, hM, hlo, hhi, hap, hbl, hsz2⟩ := hrel
          by_cases hL : L = []
          · subst hL
            obtain ⟨hm2, hMk⟩ := hidp2 hM
            obtain ⟨al, cl, rfl, _, _⟩ := owns_form hlo.out
            have c0 := hm2.c0
            have c1 := hm2.c1
            have c2 := hm2.c2
            have hF := hidp (hI.out.fin hpos)
            have hE2 := hidp (show own = (wkEnd A (ws xs k) k).own ∧ rest = (wkEnd A (ws xs k) k).rest by
              have h2 := wkI_end A S0 _ k (by omega) hE.out.2
              rw [HEND.out, h2]
              exact ⟨rfl, rfl⟩)
            obtain ⟨R0, R1, R2, R3⟩ := RR.out
            have r0 : wr.cell? ⟨w.heap.size, 0, none⟩ = some (.int .i64 0) := (hbl.cell (p := ⟨w.heap.size, 0, none⟩) (by show w.heap.size < _; omega)).trans R0
            have r1 : wr.cell? ⟨w.heap.size, 1, none⟩ = some (.slice none 0 0) := (hbl.cell (p := ⟨w.heap.size, 1, none⟩) (by show w.heap.size < _; omega)).trans R1
            have r2 : wr.cell? ⟨w.heap.size, 2, none⟩ = some (.slice none 0 0) := (hbl.cell (p := ⟨w.heap.size, 2, none⟩) (by show w.heap.size < _; omega)).trans R2
            have f0 : wr.frozen? ⟨w.heap.size, 0, none⟩ = false := (hbl.frozen (p := ⟨w.heap.size, 0, none⟩) (by show w.heap.size < _; omega)).trans (R3 0)
            have f1 : wr.frozen? ⟨w.heap.size, 1, none⟩ = false := (hbl.frozen (p := ⟨w.heap.size, 1, none⟩) (by show w.heap.size < _; omega)).trans (R3 1)
            have f2 : wr.frozen? ⟨w.heap.size, 2, none⟩ = false := (hbl.frozen (p := ⟨w.heap.size, 2, none⟩) (by show w.heap.size < _; omega)).trans (R3 2)
            have hpw : ¬ p = w.heap.size := by omega
            have hwp : ¬ w.heap.size = p := by omega
            clear hm2 hM hI hlo hhi hE R0 R1 R2 R3
            go_wp2_with fail
            have hbw := HBW.out _ hbl
            have hr : ∀ v m l, wr.ownsRow (w.heap.size + 1) 3 1 v m l → (((wr.setCell ⟨w.heap.size, 0, none⟩ (.int .i64 A)).setCell ⟨w.heap.size, 1, none⟩ (.slice (some ⟨g1, 0, none⟩) k k)).setCell ⟨w.heap.size, 2, none⟩ (.slice (some ⟨g2, 0, none⟩) k k)).ownsRow w.heap.size 3 1 v m l := fun v m l h =>
              owns_mono (ownsRow_setCell_below (ownsRow_setCell_below (ownsRow_setCell_below h (a := ⟨w.heap.size, 0, none⟩) (by show w.heap.size < _; omega) _) (a := ⟨w.heap.size, 1, none⟩) (by show w.heap.size < _; omega) _) (a := ⟨w.heap.size, 2, none⟩) (by show w.heap.size < _; omega) _) (by omega)
            have t0 : (((wr.setCell ⟨w.heap.size, 0, none⟩ (.int .i64 A)).setCell ⟨w.heap.size, 1, none⟩ (.slice (some ⟨g1, 0, none⟩) k k)).setCell ⟨w.heap.size, 2, none⟩ (.slice (some ⟨g2, 0, none⟩) k k)).cell? ⟨w.heap.size, 0, none⟩ = some (.int .i64 A) := by go_simp
            have t1 : (((wr.setCell ⟨w.heap.size, 0, none⟩ (.int .i64 A)).setCell ⟨w.heap.size, 1, none⟩ (.slice (some ⟨g1, 0, none⟩) k k)).setCell ⟨w.heap.size, 2, none⟩ (.slice (some ⟨g2, 0, none⟩) k k)).cell? ⟨w.heap.size, 1, none⟩ = some (.slice (some ⟨g1, 0, none⟩) k k) := by go_simp
            have t2 : (((wr.setCell ⟨w.heap.size, 0, none⟩ (.int .i64 A)).setCell ⟨w.heap.size, 1, none⟩ (.slice (some ⟨g1, 0, none⟩) k k)).setCell ⟨w.heap.size, 2, none⟩ (.slice (some ⟨g2, 0, none⟩) k k)).cell? ⟨w.heap.size, 2, none⟩ = some (.slice (some ⟨g2, 0, none⟩) k k) := by go_simp
            refine bodyPost_ret (v := .tuple #[.agg #[.int .i64 A, .slice (some ⟨g1, 0, none⟩) k k, .slice (some ⟨g2, 0, none⟩) k k], .int .i64 0]) (by simp [results, Tryz.results40, go_sem, t0, t1, t2]) rfl ?_
            exact ⟨g1, g2, own, rest, rfl, hF.out, hE2.out, hr _ _ _ hMk.out.o1, hr _ _ _ hMk.out.o2, ((hbw.setCell (p := ⟨w.heap.size, 0, none⟩) (Nat.le_refl _) _).setCell (p := ⟨w.heap.size, 1, none⟩) (Nat.le_refl _) _).setCell (p := ⟨w.heap.size, 2, none⟩) (Nat.le_refl _) _, hMk.out.d4⟩
          · obtain ⟨L', i, rfl⟩ : ∃ L' i, L = L' ++ [i] := ⟨L.dropLast, L.getLast hL, (List.dropLast_concat_getLast hL).symm⟩
            have hHn := hI.out.high_ne hL
            obtain ⟨H', q, rfl⟩ : ∃ H' q, Hh = H' ++ [q] := ⟨Hh.dropLast, Hh.getLast hHn, (List.dropLast_concat_getLast hHn).symm⟩
            clear hL hHn
            obtain ⟨i1, i2, i3, i4⟩ := hI.out.lo i (by simp)
            obtain ⟨q1, q2, q3, q4⟩ := hI.out.hi q (by simp)
            have hin : i < k := hI.out.lt i (by simp)
            have hqn : q < k := hI.out.lt q (by simp)
            have hcq := hI.out.cur_le q (.inr (by simp))
            have hpq := (HPR.out q hqn).2
            have hiq : ¬ i = q := fun e => by
              have nd := hI.out.nd
              rw [List.nodup_append] at nd
              exact nd.2.2 i (by simp) q (by simp) e
            have hqi : ¬ q = i := fun e => hiq e.symm
            have hlq : left q ≤ 40000000000000 := Int.le_trans hcq hpq
            have ST := hidp hI.out.step
            obtain ⟨m, hm⟩ : ∃ m, m = L'.length := ⟨_, rfl⟩
            obtain ⟨u, hu⟩ : ∃ u, u = H'.length := ⟨_, rfl⟩
            have lo2 := hlo.out
            have hi2 := hhi.out
            rw [List.length_append, List.length_singleton, ← hm] at lo2 hgg h40
            rw [List.length_append, List.length_singleton, ← hu] at hi2 hgg h40
            obtain ⟨gl, cl, hle, gl1, gl2, gl3, gl4⟩ := owns_addr lo2 (by omega)
            subst hle
            obtain ⟨gh, ch, hhe, gh1, gh2, gh3, gh4⟩ := owns_addr hi2 (by omega)
            subst hhe
            have ql := lo2.cellAt m (by omega)
            have qh := hi2.cellAt u (by omega)
            have el : (vn (L' ++ [i]))[m]? = some (Value.int .i64 (i : Nat)) := by unfold vn; rw [List.map_append, List.getElem?_append_right (by simp [hm]), List.length_map, hm]; simp
            have eh : (vn (H' ++ [q]))[u]? = some (Value.int .i64 (q : Nat)) := by unfold vn; rw [List.map_append, List.getElem?_append_right (by simp [hu]), List.length_map, hu]; simp
            rw [el] at ql
            rw [eh] at qh
            obtain ⟨hm2, hMk⟩ := hidp2 hM
            have c1 := hm2.c1
            have c2 := hm2.c2
            have y1 : wr.cell? ⟨g1, i, none⟩ = some (.int .i64 (own i)) := by have := hm2.o1.cellAt i (by omega); unfold row at this; rw [tab_get _ _ _ hin] at this; exact this
            have y2 : wr.cell? ⟨g2, i, none⟩ = some (.int .i64 (rest i : Nat)) := by have := hm2.o2.cellAt i (by omega); unfold row at this; rw [tab_get _ _ _ hin] at this; exact this
            have y3 : wr.cell? ⟨g3, i, none⟩ = some (.int .i64 (left i)) := by have := hm2.o3.cellAt i (by omega); unfold row at this; rw [tab_get _ _ _ hin] at this; exact this
            have y4 : wr.cell? ⟨g3, q, none⟩ = some (.int .i64 (left q)) := by have := hm2.o3.cellAt q (by omega); unfold row at this; rw [tab_get _ _ _ hqn] at this; exact this
            have z1 : wr.frozen? ⟨g1, i, none⟩ = false := hm2.o1.frozenAt i
            have z2 : wr.frozen? ⟨g2, i, none⟩ = false := hm2.o2.frozenAt i
            have z3 : wr.frozen? ⟨g3, q, none⟩ = false := hm2.o3.frozenAt q
            have d1 : ¬ g1 = p := fun e => hm2.d1 e.symm
            have d2 : ¬ g2 = p := fun e => hm2.d2 e.symm
            have d3 : ¬ g3 = p := fun e => hm2.d3 e.symm
            have d4 := hm2.d4
            have d5 := hm2.d5
            have d6 := hm2.d6
            have d4' : ¬ g2 = g1 := fun e => d4 e.symm
            have d5' : ¬ g3 = g1 := fun e => d5 e.symm
            have d6' : ¬ g3 = g2 := fun e => d6 e.symm
            have iI : (i : Int) < (k : Int) := by omega
            have qI : (q : Int) < (k : Int) := by omega
            have kA : k ≤ 1000 := by omega
            have hM2 := hidp (((hMk.out.store1 i (left i)).store2 i q).drew)
            have LO := hidp lo2
            have HI := hidp hi2
            have HGG := hidp hgg
            have HMM := hidp hm
            have HUU := hidp hu
            clear hm2 hMk hM lo2 hi2 el eh hlo hhi i3 i4 q2 q3 q4 hm hu
            go_wp2_with fail
            go_region_held3 (fun w' => w'.cell? ⟨p, 1, none⟩ = some (.slice (some ⟨g1, 0, none⟩) k k) ∧ w'.cell? ⟨p, 2, none⟩ = some (.slice (some ⟨g2, 0, none⟩) k k) ∧ w'.cell? ⟨g3, i, none⟩ = some (.int .i64 (left i))) (go_keep) (fail)
            have hL2 : ∀ v m l, wr.ownsRow (g3 + 1) 3 1 v m l → (((wr.setCell ⟨g1, i, none⟩ (.int .i64 (left i))).setCell ⟨g2, i, none⟩ (.int .i64 (q : Nat))).drew).ownsRow (g3 + 1) 3 1 v m l := fun v m l h =>
              ownsRow_setCell_below (ownsRow_setCell_below h (a := ⟨g1, i, none⟩) (by show g1 < g3 + 1; omega) _) (a := ⟨g2, i, none⟩) (by show g2 < g3 + 1; omega) _
            have hlo2 := hidp (own_pop (by have := hL2 _ _ _ LO.out; rw [vn_snoc] at this; exact this))
            have hhi2 := hidp (hL2 _ _ _ HI.out)
            have hb2 : Below (w.heap.size + 1) w1 (((wr.setCell ⟨g1, i, none⟩ (.int .i64 (left i))).setCell ⟨g2, i, none⟩ (.int .i64 (q : Nat))).drew) :=
              Below.drew ((hbl.setCell (p := ⟨g1, i, none⟩) (by show w.heap.size + 1 ≤ g1; omega) _).setCell (p := ⟨g2, i, none⟩) (by show w.heap.size + 1 ≤ g2; omega) _)
            have hs2 : g3 + 1 ≤ (((wr.setCell ⟨g1, i, none⟩ (.int .i64 (left i))).setCell ⟨g2, i, none⟩ (.int .i64 (q : Nat))).drew).heap.size := by simp; omega
            clear hbl hsz2 LO HI hL2 c1 c2 y1 y2 y3 y4 z1 z2 z3 ql qh gl3 gl4
            generalize (((wr.setCell ⟨g1, i, none⟩ (.int .i64 (left i))).setCell ⟨g2, i, none⟩ (.int .i64 (q : Nat))).drew) = W2 at *
            have y4 : W2.cell? ⟨g3, q, none⟩ = some (.int .i64 (left q)) := by have := hM2.out.o3.cellAt q (by omega); unfold row at this; rw [tab_get _ _ _ hqn] at this; exact this
            have y3 : W2.cell? ⟨g3, i, none⟩ = some (.int .i64 (left i)) := by have := hM2.out.o3.cellAt i (by omega); unfold row at this; rw [tab_get _ _ _ hin] at this; exact this
            have z3 : W2.frozen? ⟨g3, q, none⟩ = false := hM2.out.o3.frozenAt q
            have HEX := hidp hE.out
            clear hI hE
            have WR := hidp (show IntKind.i64.wrap (left q - IntKind.i64.wrap (A - left i)) = left q - (A - left i) by rw [IntWalk.i64_in (A - left i) (by constructor <;> omega), IntWalk.i64_in _ (by constructor <;> omega)])
            go_wp2_with fail
            go_still_tail 11, (by kernel_rfl)
            repeat still_step
            change wpList _ _ _ _ _ W2.drew
            have hM3 := hidp ((hM2.out.store3 q (left q - (A - left i))).drew)
            have hlo3 := hidp (World.ownsRow.drew (ownsRow_setCell_below hlo2.out (a := ⟨g3, q, none⟩) (by show g3 < g3 + 1; omega) (.int .i64 (left q - (A - left i)))))
            have hhi3 := hidp (World.ownsRow.drew (ownsRow_setCell_below hhi2.out (a := ⟨g3, q, none⟩) (by show g3 < g3 + 1; omega) (.int .i64 (left q - (A - left i)))))
            have hb3 : Below (w.heap.size + 1) w1 (W2.setCell ⟨g3, q, none⟩ (.int .i64 (left q - (A - left i)))).drew := Below.drew (hb2.setCell (p := ⟨g3, q, none⟩) (by show w.heap.size + 1 ≤ g3; omega) _)
            have hs3 : g3 + 1 ≤ (W2.setCell ⟨g3, q, none⟩ (.int .i64 (left q - (A - left i)))).drew.heap.size := by simp; omega
            go_upto_region 21 with fail
            clear hlo2 hhi2 hb2 hs2 y3 y4 z3 hM2
            generalize (W2.setCell ⟨g3, q, none⟩ (.int .i64 (left q - (A - left i)))).drew = W3 at *
            have y5 : W3.cell? ⟨g3, q, none⟩ = some (.int .i64 (left q - (A - left i))) := by have := hM3.out.o3.cellAt q (by omega); unfold row at this; rw [tab_get _ _ _ hqn, Wk.upd_at] at this; exact this
            have hne0 : ∀ v m l, W3.ownsRow (g3 + 1) 3 1 v m l → v.ownBlock ≠ some p ∧ v.ownBlock ≠ some g1 ∧ v.ownBlock ≠ some g2 ∧ v.ownBlock ≠ some g3 := fun v m l h =>
              ⟨fun e => by have := (h.lt _ e).1; omega, fun e => by have := (h.lt _ e).1; omega, fun e => by have := (h.lt _ e).1; omega, fun e => by have := (h.lt _ e).1; omega⟩
            by_cases hlt2 : left q - (A - left i) < A
            · have hI2 := hidp (ST.out.1 hlt2)
              have hhi4 := hidp (own_pop (by have := hhi3.out; rw [vn_snoc] at this; exact this))
              have hap4 : Apart (Value.slice (some ⟨gl, 0, none⟩) m cl) (Value.slice (some ⟨gh, 0, none⟩) u ch) := hap
              obtain ⟨n0, n1, n2, n3⟩ := hne0 _ _ _ hlo3.out
              have HAP := hidp hap4
              clear hne0 hhi3 hap hap4 ST
              go_wp2_with (at_builtin; go_loud (refine wpList_append_new rfl (.tmp 129) (.tmp 131) 37 rfl (g3 + 1) 3 _ 1 8 info_int rfl (by decide) Tryz.underlying37 _ _ _ rfl hlo3.out rfl (one_int _ _) rfl rfl (by omega) (by decide) hs3 ?_; intro v0 x0 nv g0 d0))
              go_roundg (m + 1 + u)
              case measure => omega
              case rel =>
                exact ⟨L' ++ [q], H', _, _, _, by simp [← HMM.out, ← HUU.out], by simp [← HMM.out, ← HUU.out]; omega, hidp (wkI_lo A S0 k HEX.out hlt2), hI2, hidp (hM3.out.grown g0 n0 n1 n2 n3), hidp (by rw [vn_snoc, List.length_append, ← HMM.out]; exact nv), hidp (by rw [← HUU.out]; exact hhi4.out.kept g0 HAP.out.symm), HAP.out.grown hhi4.out d0,
                  append_step (owns_mono hlo3.out (by omega)) hb3 (Nat.le_of_eq HWS.out.symm) g0, by have := g0.size; omega⟩
            · have hI2 := hidp (ST.out.2 (by omega))
              have HAP := hidp hap
              clear hne0 hap ST
              go_wp2_with fail
              go_roundg (m + u + 1)
              case measure => omega
              case rel =>
                exact ⟨L', H' ++ [q], _, _, _, by simp [← HMM.out, ← HUU.out]; omega, by simp [← HMM.out, ← HUU.out]; omega, hidp (wkI_hi A S0 k HEX.out (Int.not_lt.2 (by omega))), hI2, hM3, hidp (by rw [← HMM.out]; exact hlo3.out), hidp (by rw [List.length_append, ← HUU.out]; exact hhi3.out), HAP.out, hb3, hs3⟩
end Go.Proofs.YtgodgfnfaiiohaaGreatDoor
