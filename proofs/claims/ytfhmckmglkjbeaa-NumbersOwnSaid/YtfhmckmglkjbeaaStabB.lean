/- Contract of slices.insertionSortCmpFunc at integers, at the closure that share.Fair hands in. -/
import Derived.Test.YtfhmckmglkjbeaaStabA
namespace Go.Proofs.Ytfhmckmglkjbeaa
open Go.ChangeShapes Go.WideShapes Go.ChangeAt Go.RowKit
open Stab
set_option maxRecDepth 20000
/-- The number at a place. -/
def lvF (ls : List Int) (x : Int) : Int := gi ls x.toNat
/-- The comparison, with places that are integers. -/
theorem cmpi_c (x y : Int) (g P : Nat) (al : Option Addr) (nl cl : Nat) (ls : List Int) (W : World) (h : Cx W g P al nl cl ls) (hx : 0 ≤ x ∧ x < nl) (hy : 0 ≤ y ∧ y < nl) :
    Calls Try.prog 43 #[.int .i64 x, .int .i64 y, .pointer (some ⟨P, 0, none⟩)] W fun e w' => e = .returned (.int .i64 (lvF ls x - lvF ls y)) ∧ ∃ q, w' = W.drewN q := by
  obtain ⟨x', rfl⟩ : ∃ x' : Nat, x = (x' : Int) := ⟨x.toNat, by omega⟩
  obtain ⟨y', rfl⟩ : ∃ y' : Nat, y = (y' : Int) := ⟨y.toNat, by omega⟩
  exact cmp_c x' y' g P al nl cl ls W h (by omega) (by omega)
theorem Cx.drewN {W : World} {g P : Nat} {al : Option Addr} {nl cl : Nat} {ls : List Int} (h : Cx W g P al nl cl ls) (q : Nat) : Cx (W.drewN q) g P al nl cl ls := h.grown (gr_drewN (gr_refl _ _) q)
theorem perm_in {f h : Nat → Int} {a b : Nat} (hp : Perm f h a b) (hf : ∀ i, a ≤ i → i < b → f i = i) (i : Nat) (h1 : a ≤ i) (h2 : i < b) : (a : Int) ≤ h i ∧ h i < b := by
  obtain ⟨j, j1, j2, e⟩ := hp.get i h1 h2
  rw [e, hf j j1 j2]; omega
set_option maxHeartbeats 8000000 in
theorem insort_c (B g n P a b : Nat) (al : Option Addr) (cl : Nat) (ls : List Int) (f : Nat → Int) (W : World) (hd : DS W B g n f) (hc : Cx W g P al n cl ls) (hab : a ≤ b) (hbn : b ≤ n) (hn : n ≤ 40) (hf : ∀ i, a ≤ i → i < b → f i = i) :
    Calls Try.prog 61 #[.slice (some ⟨g, 0, none⟩) n n, .int .i64 (a : Nat), .int .i64 (b : Nat), cmpV P] W fun e w' => e = .returned (.tuple #[]) ∧ (∃ f', Perm f f' a b ∧ Srt (key (lvF ls)) f' a b ∧ DS w' B g n f') ∧ W.grownBy w' (some g) := by
  have D0 := hidp hd
  have C0 := hidp hc
  have HF := hidp hf
  unfold cmpV
  clear hd hc hf
  go_enter Try.func61, Try.ntmps61
  go_wp2_with fail
  go_loopg [8] (b - a) (fun gg s8 wr => ∃ (i : Nat) (h : Nat → Int), a < i ∧ (i ≤ b ∨ i = a + 1) ∧ b - i ≤ gg ∧ s8 = .int .i64 i ∧ Hid (i ≤ b → Perm f h a i) ∧ Hid (i ≤ b → Srt (key (lvF ls)) h a i) ∧ Hid (b < i → h = f) ∧ Hid (DS wr B g n h) ∧ Hid (W.grownBy wr (some g)))
  case atStart => exact ⟨a + 1, f, by omega, .inr rfl, by omega, v_int (by omega), hidp (fun _ => Perm.refl _ _ _), hidp (fun _ x y h1 h2 h3 => by rw [show x = y by omega]; exact Int.le_refl _), hidp (fun _ => rfl), D0, gr_refl _ _⟩
  case round =>
    clear D0
    obtain ⟨i, h, hai, hib, hgg, rfl, HP, HS, HE, D, G⟩ := hrel
    by_cases hlt : i < b
    · have HP2 := hidp (HP.out (by omega))
      have HS2 := hidp (HS.out (by omega))
      have HR := hidp (fun x (h1 : a ≤ x) (h2 : x < i) => perm_in HP2.out (fun k k1 k2 => HF.out k k1 (by omega)) x h1 h2)
      have HI := hidp (show h i = i from (HP2.out.out i (.inr (Nat.le_refl _))).trans (HF.out i (by omega) hlt))
      have LF := hidp (show Lft h a i (i + 1) from fun x y x1 x2 y1 y2 => by
        obtain ⟨r1, r2⟩ := HR.out x x1 x2
        rw [show y = i by omega, HI.out]; omega)
      have D1 := hidp (show DS wr B g n (shr h i i) by rw [shr_zero]; exact D.out)
      clear HP HS HE D
      go_wp2_with fail
      go_loopg [9] (i - a) (fun gg s9 wy => ∃ j : Nat, a ≤ j ∧ j ≤ i ∧ j - a ≤ gg ∧ s9 = .int .i64 j ∧ Hid (∀ x, j ≤ x → x < i → lvF ls (h i) < lvF ls (h x)) ∧ Hid (DS wy B g n (shr h j i)) ∧ Hid (W.grownBy wy (some g)))
      case atStart => exact ⟨i, by omega, by omega, by omega, rfl, hidp (fun x h1 h2 => by omega), D1, G⟩
      case round =>
        clear D1 G
        obtain ⟨j, haj, hji, hgj, rfl, HB, D, G⟩ := hrel
        have CC := hidp (C0.out.grown G.out)
        by_cases hj : a < j
        · have hj' : (a : Int) < (j : Int) := by omega
          obtain ⟨jm, hjm⟩ : ∃ jm, jm = j - 1 := ⟨_, rfl⟩
          have hjj : jm + 1 = j := by omega
          have r0 := HR.out jm (by omega) (by omega)
          have c1 := D.out.cell j (by omega)
          have c2 := D.out.cell jm (by omega)
          have e1 : shr h j i j = h i := by unfold shr; rw [if_pos rfl]
          have e2 : shr h j i jm = h jm := by unfold shr; rw [if_neg (by omega), if_neg (by omega)]
          rw [e1] at c1
          rw [e2] at c2
          have CQ := hidp (fun q => cmpi_c (h i) (h jm) g P al n cl ls (wr.drewN q) (CC.out.drewN q) (by rw [HI.out]; omega) (by omega))
          have vb1 : 0 ≤ lvF ls (h i) ∧ lvF ls (h i) ≤ 1000000000000 := C0.out.bd _ (gi_mem ls _ (by rw [C0.out.i.len, HI.out]; omega))
          have vb2 : 0 ≤ lvF ls (h jm) ∧ lvF ls (h jm) ≤ 1000000000000 := C0.out.bd _ (gi_mem ls _ (by rw [C0.out.i.len]; omega))
          have p0 : (j : Int) - 1 = (jm : Int) := by omega
          have p1 : (j : Int) < (n : Int) := by omega
          have p2 : (jm : Int) < (n : Int) := by omega
          by_cases hcmp : lvF ls (h i) < lvF ls (h jm)
          · have hcI : lvF ls (h i) - lvF ls (h jm) < 0 := by omega
            have HB2 := hidp (show ∀ x, jm ≤ x → x < i → lvF ls (h i) < lvF ls (h x) from fun x h1 h2 => by
              by_cases e : x = jm
              · rw [e]; exact hcmp
              · exact HB.out x (by omega) h2)
            have f1 := D.out.fro j
            have f2 := D.out.fro jm
            have SW := D.out.swap j jm (by omega)
            have E3 := shr_step h jm i (by omega)
            rw [hjj] at E3
            rw [e1, e2, E3] at SW
            have SW2 := hidp SW
            have GG := hidp (fun x y u v => gr_set (gr_set G.out x u) y v)
            generalize lvF ls (h i) = vx at *
            generalize lvF ls (h jm) = vy at *
            generalize h i = hx at *
            generalize h jm = hy at *
            have HJJ := hidp hjj
            have HJM := hidp hjm
            clear hcmp e1 e2 E3 SW hj hjj hjm
            go_wp2_with fail
            go_quiet ((go_at_call 43; exact Calls.quiet_of (CQ.out _)))
            have d1 : (wr.drewN nq).cell? ⟨g, j, none⟩ = some (.int .i64 hx) := c1
            have d2 : (wr.drewN nq).cell? ⟨g, jm, none⟩ = some (.int .i64 hy) := c2
            have d3 : (wr.drewN nq).frozen? ⟨g, j, none⟩ = false := f1
            have d4 : (wr.drewN nq).frozen? ⟨g, jm, none⟩ = false := f2
            have SW3 := hidp (And.intro (show DS (((wr.drewN nq).setCell ⟨g, j, none⟩ (.int .i64 hy)).setCell ⟨g, jm, none⟩ (.int .i64 hx)) B g n (shr h jm i) from SW2.out.1) (show DS (((wr.drewN nq).setCell ⟨g, jm, none⟩ (.int .i64 hx)).setCell ⟨g, j, none⟩ (.int .i64 hy)) B g n (shr h jm i) from SW2.out.2))
            have GG3 := hidp (fun x y u v => gr_drew (gr_set (gr_set (gr_drewN G.out nq) x u) y v))
            clear c1 c2 f1 f2 SW2 GG CQ D G CC
            generalize wr.drewN nq = wq at *
            go_wp2_with fail
            go_region
            all_goals go_wp2
            all_goals go_roundg (jm - a)
            all_goals first
              | exact ⟨jm, by have := HJJ.out; omega, by have := HJJ.out; omega, by omega, rfl, HB2, hidp (by first | exact SW3.out.1 | exact SW3.out.2), hidp (GG3.out _ _ _ _)⟩
              | (have := HJJ.out; omega)
          · have hcI : ¬ lvF ls (h i) - lvF ls (h jm) < 0 := by omega
            have PP := hidp (HP2.out.wider (Nat.le_refl a) (show i ≤ i + 1 by omega) |>.trans (shr_perm h a j i (i + 1) haj hji (by omega)))
            have SS := hidp (ins_right (lvF ls) h a j i HS2.out LF.out haj hji (fun _ => by rw [show j - 1 = jm by omega]; exact hcmp) HB.out)
            generalize lvF ls (h i) = vx at *
            generalize lvF ls (h jm) = vy at *
            generalize h i = hx at *
            generalize h jm = hy at *
            clear hcmp e1 e2 hj hjj hjm
            go_wp2_with fail
            go_quiet ((go_at_call 43; exact Calls.quiet_of (CQ.out _)))
            have D5 := hidp (show DS (wr.drewN nq) B g n (shr h j i) from D.out)
            have G5 := hidp (gr_drewN G.out nq)
            clear c1 c2
            generalize wr.drewN nq = wq at *
            go_wp2_with fail
            go_roundg (b - (i + 1))
            case measure => omega
            case rel => exact ⟨i + 1, _, by omega, .inl (by omega), by omega, by go_num, hidp (fun _ => PP.out), hidp (fun _ => SS.out), hidp (fun h => by omega), D5, G5⟩
        · obtain rfl : j = a := by omega
          have hj' : ¬ (j : Int) < (j : Int) := by omega
          have PP := hidp (HP2.out.wider (Nat.le_refl j) (show i ≤ i + 1 by omega) |>.trans (shr_perm h j j i (i + 1) (Nat.le_refl _) hji (by omega)))
          have SS := hidp (ins_right (lvF ls) h j j i HS2.out LF.out (Nat.le_refl _) hji (fun h => by omega) HB.out)
          go_wp2_with fail
          go_quiet (fail)
          have D5 := hidp (show DS (wr.drewN nq) B g n (shr h j i) from D.out)
          have G5 := hidp (gr_drewN G.out nq)
          generalize wr.drewN nq = wq at *
          go_wp2_with fail
          go_roundg (b - (i + 1))
          case measure => omega
          case rel => exact ⟨i + 1, _, by omega, .inl (by omega), by omega, by go_num, hidp (fun _ => PP.out), hidp (fun _ => SS.out), hidp (fun h => by omega), D5, G5⟩
    · have hfin : ∃ f', Perm f f' a b ∧ Srt (key (lvF ls)) f' a b ∧ DS wr B g n f' := by
        by_cases e : i ≤ b
        · obtain rfl : i = b := by omega
          exact ⟨h, HP.out (Nat.le_refl _), HS.out (Nat.le_refl _), D.out⟩
        · have e2 := HE.out (by omega)
          refine ⟨h, by rw [e2]; exact Perm.refl _ _ _, fun x y h1 h2 h3 => by omega, D.out⟩
      have HFI := hidp hfin
      have hlt' : ¬ (i : Int) < (b : Int) := by omega
      clear hfin
      go_wp2_with fail
      go_end0
      exact ⟨rfl, HFI.out, G.out⟩
end Go.Proofs.Ytfhmckmglkjbeaa
