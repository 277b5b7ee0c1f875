/- Contract of slices.symMergeCmpFunc at integers: the two small cases. -/
import Derived.Test.YtfhmckmglkjbeaaStabB
namespace Go.Proofs.Ytfhmckmglkjbeaa
open Go.ChangeShapes Go.WideShapes Go.ChangeAt Go.RowKit
open Stab
set_option maxRecDepth 20000
/-- What a merge is handed. -/
structure Mg (W : World) (B g n P : Nat) (al : Option Addr) (cl : Nat) (ls : List Int) (f : Nat → Int) (a m b : Nat) : Prop where
  d : DS W B g n f
  c : Cx W g P al n cl ls
  am : a < m
  mb : m < b
  bn : b ≤ n
  n40 : n ≤ 40
  rg : ∀ i, a ≤ i → i < b → 0 ≤ f i ∧ f i < n
  lf : Lft f a m b
  s1 : Srt (key (lvF ls)) f a m
  s2 : Srt (key (lvF ls)) f m b
/-- What a merge leaves. -/
def Mgd (W w' : World) (B g n : Nat) (ls : List Int) (f : Nat → Int) (a b : Nat) : Prop := (∃ f', Perm f f' a b ∧ Srt (key (lvF ls)) f' a b ∧ DS w' B g n f') ∧ W.grownBy w' (some g)
theorem lvb {W : World} {g P : Nat} {al : Option Addr} {n cl : Nat} {ls : List Int} (h : Cx W g P al n cl ls) (x : Int) (hx : 0 ≤ x ∧ x < n) : 0 ≤ lvF ls x ∧ lvF ls x ≤ 1000000000000 := h.bd _ (gi_mem ls _ (by rw [h.i.len]; omega))
set_option maxHeartbeats 8000000 in
theorem sym1_c (B g n P a b : Nat) (al : Option Addr) (cl : Nat) (ls : List Int) (f : Nat → Int) (W : World) (h : Mg W B g n P al cl ls f a (a + 1) b) :
    Calls Try.prog 62 #[.slice (some ⟨g, 0, none⟩) n n, .int .i64 (a : Nat), .int .i64 ((a + 1 : Nat) : Int), .int .i64 (b : Nat), cmpV P] W fun e w' => e = .returned (.tuple #[]) ∧ Mgd W w' B g n ls f a b := by
  have H := hidp h
  have hmb := h.mb
  have hbn := h.bn
  have hn := h.n40
  have DN := hidp (fun x (h1 : a + 1 ≤ x) (h2 : x < b) (hp : lvF ls (f x) < lvF ls (f a)) y (h3 : a + 1 ≤ y) (h4 : y ≤ x) => show lvF ls (f y) < lvF ls (f a) by
    obtain ⟨c1, c2, c3⟩ := H.out.lf a x (Nat.le_refl _) (by omega) h1 h2
    obtain ⟨d1, d2, d3⟩ := H.out.lf a y (Nat.le_refl _) (by omega) h3 (by omega)
    have e1 := (key_lt (lvF ls) _ _ c1 c2 c3).1 hp
    have e2 := H.out.s2 y x h3 h4 h2
    exact (key_lt (lvF ls) _ _ d1 d2 d3).2 (by omega))
  have D0 := hidp h.d
  have FIN := hidp (fun i (h1 : a + 1 ≤ i) (h2 : i ≤ b) (hA : ∀ x, a + 1 ≤ x → x < i → lvF ls (f x) < lvF ls (f a)) (hB : i < b → ¬ lvF ls (f i) < lvF ls (f a)) => And.intro (shl_perm f a i b (by omega) h2) (ins_left (lvF ls) f a i b H.out.s2 H.out.lf h1 h2 hA hB))
  have e1 : ((a + 1 : Nat) : Int) - (a : Int) = 1 := by omega
  have ra := H.out.rg a (Nat.le_refl _) (by omega)
  have va := lvb H.out.c (f a) ra
  have CA := hidp (H.out.d.cell a (by omega))
  obtain ⟨m, hm⟩ : ∃ m, m = a + 1 := ⟨_, rfl⟩
  rw [← hm] at e1 hmb ⊢
  have HM := hidp hm
  have hma : a < m := by omega
  unfold cmpV
  clear h hm
  go_enter Try.func62, Try.ntmps62
  go_wp2_with fail
  go_loopg [10, 11] b (fun gg s10 s11 wr => ∃ i j : Nat, s10 = .int .i64 i ∧ s11 = .int .i64 j ∧ m ≤ i ∧ i ≤ j ∧ j ≤ b ∧ j - i ≤ gg ∧ Hid (∀ x, m ≤ x → x < i → lvF ls (f x) < lvF ls (f a)) ∧ Hid (j < b → lvF ls (f a) ≤ lvF ls (f j)) ∧ Hid (DS wr B g n f) ∧ Hid (W.grownBy wr (some g)))
  case atStart => exact ⟨m, b, rfl, rfl, Nat.le_refl _, by omega, Nat.le_refl _, by omega, hidp (fun x h1 h2 => by omega), hidp (fun h => by omega), D0, gr_refl _ _⟩
  case round =>
    clear D0
    obtain ⟨i, j, rfl, rfl, hmi, hij, hjb, hgg, HA, HB, D, G⟩ := hrel
    by_cases hlt : i < j
    · obtain ⟨k, hk⟩ : ∃ k, k = (i + j) / 2 := ⟨_, rfl⟩
      have hk1 : i ≤ k ∧ k < j := by omega
      have pk2 : ((i : Int) + (j : Int)) / 2 = (k : Int) := by omega
      have rk := H.out.rg k (by omega) (by omega)
      have vk := lvb H.out.c (f k) rk
      have c1 := D.out.cell k (by omega)
      have c2 := D.out.cell a (by omega)
      have CQ := hidp (fun q => cmpi_c (f k) (f a) g P al n cl ls (wr.drewN q) ((H.out.c.grown G.out).drewN q) rk ra)
      have p1 : (k : Int) < (n : Int) := by omega
      have p2 : (a : Int) < (n : Int) := by omega
      by_cases hcmp : lvF ls (f k) < lvF ls (f a)
      · have hcI : lvF ls (f k) - lvF ls (f a) < 0 := by omega
        have HA2 := hidp (show ∀ x, m ≤ x → x < k + 1 → lvF ls (f x) < lvF ls (f a) from fun x h1 h2 => DN.out k (by have := HM.out; omega) (by omega) hcmp x (by have := HM.out; omega) (by omega))
        generalize lvF ls (f k) = vx at *
        generalize lvF ls (f a) = vy at *
        generalize f k = fk at *
        generalize f a = fa at *
        clear hcmp hk
        go_wp2_with fail
        go_quiet ((go_at_call 43; exact Calls.quiet_of (CQ.out _)))
        have D5 := hidp (D.out.drewN nq)
        have G5 := hidp (gr_drewN G.out nq)
        clear c1 c2
        generalize wr.drewN nq = wq at *
        go_wp2_with fail
        go_roundg (j - (k + 1))
        case measure => omega
        case rel => exact ⟨k + 1, j, by go_num, rfl, by omega, by omega, hjb, by omega, HA2, HB, D5, G5⟩
      · have hcI : ¬ lvF ls (f k) - lvF ls (f a) < 0 := by omega
        have HB2 := hidp (show ∀ x, x = k → x < b → lvF ls (f a) ≤ lvF ls (f x) from fun x hx _ => by rw [hx]; omega)
        generalize lvF ls (f k) = vx at *
        generalize lvF ls (f a) = vy at *
        generalize f k = fk at *
        generalize f a = fa at *
        clear hcmp hk
        go_wp2_with fail
        go_quiet ((go_at_call 43; exact Calls.quiet_of (CQ.out _)))
        have D5 := hidp (D.out.drewN nq)
        have G5 := hidp (gr_drewN G.out nq)
        clear c1 c2
        generalize wr.drewN nq = wq at *
        go_wp2_with fail
        go_roundg (k - i)
        case measure => omega
        case rel => exact ⟨i, k, rfl, rfl, hmi, by omega, by omega, by omega, HA, hidp (HB2.out k rfl), D5, G5⟩
    · obtain rfl : i = j := by omega
      obtain ⟨F1, F2⟩ := FIN.out i (by have := HM.out; omega) hjb (fun x h1 h2 => HA.out x (by have := HM.out; omega) h2) (fun h => by have := HB.out h; omega)
      have HF1 := hidp F1
      have HF2 := hidp F2
      have D1 := hidp (show DS wr B g n (shl f a (a + 1)) by rw [shl_zero]; exact D.out)
      obtain ⟨i1, hi1⟩ : ∃ i1, i1 = i - 1 := ⟨_, rfl⟩
      have pi1 : (i : Int) - 1 = (i1 : Int) := by omega
      clear HA HB DN FIN F1 F2 D
      go_wp2_with fail
      go_loopg [13] i (fun gg s13 wy => ∃ k : Nat, a ≤ k ∧ k < i ∧ i - k ≤ gg ∧ s13 = .int .i64 k ∧ Hid (DS wy B g n (shl f a (k + 1))) ∧ Hid (W.grownBy wy (some g)))
      case atStart => exact ⟨a, Nat.le_refl _, by omega, by omega, rfl, D1, G⟩
      case round =>
        clear D1 G
        obtain ⟨k, hak, hki, hgk, rfl, D, G⟩ := hrel
        by_cases hlk : k + 1 < i
        · obtain ⟨x, hx⟩ : ∃ x, x = k + 1 := ⟨_, rfl⟩
          have p0 : (k : Int) + 1 = (x : Int) := by omega
          have p1 : (k : Int) < (n : Int) := by omega
          have p2 : (x : Int) < (n : Int) := by omega
          have pl : (k : Int) < (i1 : Int) := by omega
          have c1 := D.out.cell k (by omega)
          have c2 := D.out.cell x (by omega)
          have f1 := D.out.fro k
          have f2 := D.out.fro x
          have SW := D.out.swap k x (by omega)
          have E := shl_step f a k hak
          rw [← hx] at E c1 c2 SW
          rw [E] at SW
          have SW2 := hidp SW
          have GG := hidp (fun x y u v => gr_drew (gr_set (gr_set G.out x u) y v))
          have HX := hidp hx
          clear SW E hx hlk
          generalize shl f a x k = v1 at *
          generalize shl f a x x = v2 at *
          go_wp2_with fail
          go_region
          all_goals go_wp2
          all_goals go_roundg (i - x)
          all_goals first
            | exact ⟨x, by have := HX.out; omega, by omega, by omega, by go_num, hidp (by rw [show x + 1 = k + 2 by have := HX.out; omega]; first | exact SW2.out.1 | exact SW2.out.2), hidp (GG.out _ _ _ _)⟩
            | (have := HX.out; omega)
        · have D2 := hidp (show DS wr B g n (shl f a i) by rw [show i = k + 1 by omega]; exact D.out)
          have pl : ¬ (k : Int) < (i1 : Int) := by omega
          clear D
          go_wp2_with fail
          exact bodyPost_ret (results_none rfl _ _ _) rfl ⟨rfl, ⟨_, HF1.out, HF2.out, D2.out⟩, G.out⟩
set_option maxHeartbeats 8000000 in
theorem sym2_c (B g n P a m : Nat) (al : Option Addr) (cl : Nat) (ls : List Int) (f : Nat → Int) (W : World) (h : Mg W B g n P al cl ls f a m (m + 1)) (h1 : a + 1 < m) :
    Calls Try.prog 62 #[.slice (some ⟨g, 0, none⟩) n n, .int .i64 (a : Nat), .int .i64 (m : Nat), .int .i64 ((m + 1 : Nat) : Int), cmpV P] W fun e w' => e = .returned (.tuple #[]) ∧ Mgd W w' B g n ls f a (m + 1) := by
  have H := hidp h
  have hbn := h.bn
  have hn := h.n40
  have UP := hidp (fun x (h1 : a ≤ x) (h2 : x < m) (hp : lvF ls (f m) < lvF ls (f x)) y (h3 : x ≤ y) (h4 : y < m) => show lvF ls (f m) < lvF ls (f y) by
    obtain ⟨c1, c2, c3⟩ := H.out.lf x m h1 h2 (Nat.le_refl _) (by omega)
    obtain ⟨d1, d2, d3⟩ := H.out.lf y m (by omega) h4 (Nat.le_refl _) (by omega)
    have e1 := (key_lt (lvF ls) _ _ c1 c2 c3).1 hp
    have e2 := H.out.s1 x y h1 h3 h4
    exact (key_lt (lvF ls) _ _ d1 d2 d3).2 (by omega))
  have D0 := hidp h.d
  have FIN := hidp (fun i (h1 : a ≤ i) (h2 : i ≤ m) (hA : a < i → ¬ lvF ls (f m) < lvF ls (f (i - 1))) (hB : ∀ x, i ≤ x → x < m → lvF ls (f m) < lvF ls (f x)) => And.intro (shr_perm f a i m (m + 1) h1 h2 (by omega)) (ins_right (lvF ls) f a i m H.out.s1 H.out.lf h1 h2 hA hB))
  obtain ⟨b, hb⟩ : ∃ b, b = m + 1 := ⟨_, rfl⟩
  have e1 : (b : Int) - (m : Int) = 1 := by omega
  have e0 : (((m : Int) - (a : Int)) == 1) = false := by rw [beq_eq_false_iff_ne]; omega
  have e0' : ¬ ((m : Int) - (a : Int)) = 1 := by omega
  have rm := H.out.rg m (by omega) (by omega)
  have vm := lvb H.out.c (f m) rm
  rw [← hb] at FIN hbn ⊢
  have HB := hidp hb
  have hma : a < m := by omega
  have hmb : m < b := by omega
  unfold cmpV
  clear h hb
  go_enter Try.func62, Try.ntmps62
  go_wp2_with fail
  go_loopg [14, 15] m (fun gg s14 s15 wr => ∃ i j : Nat, s14 = .int .i64 i ∧ s15 = .int .i64 j ∧ a ≤ i ∧ i ≤ j ∧ j ≤ m ∧ j - i ≤ gg ∧ Hid (∀ x, x + 1 = i → a ≤ x → lvF ls (f x) ≤ lvF ls (f m)) ∧ Hid (∀ x, j ≤ x → x < m → lvF ls (f m) < lvF ls (f x)) ∧ Hid (DS wr B g n f) ∧ Hid (W.grownBy wr (some g)))
  case atStart => exact ⟨a, m, rfl, rfl, Nat.le_refl _, by omega, Nat.le_refl _, by omega, hidp (fun x h1 h2 => by omega), hidp (fun x h1 h2 => by omega), D0, gr_refl _ _⟩
  case round =>
    clear D0
    obtain ⟨i, j, rfl, rfl, hmi, hij, hjb, hgg, HA, HC, D, G⟩ := hrel
    by_cases hlt : i < j
    · obtain ⟨k, hk⟩ : ∃ k, k = (i + j) / 2 := ⟨_, rfl⟩
      have hk1 : i ≤ k ∧ k < j := by omega
      have pk2 : ((i : Int) + (j : Int)) / 2 = (k : Int) := by omega
      have rk := H.out.rg k (by omega) (by have := HB.out; omega)
      have vk := lvb H.out.c (f k) rk
      have c1 := D.out.cell k (by omega)
      have c2 := D.out.cell m (by omega)
      have CQ := hidp (fun q => cmpi_c (f m) (f k) g P al n cl ls (wr.drewN q) ((H.out.c.grown G.out).drewN q) rm rk)
      have p1 : (k : Int) < (n : Int) := by omega
      have p2 : (m : Int) < (n : Int) := by omega
      by_cases hcmp : lvF ls (f m) < lvF ls (f k)
      · have hcI : lvF ls (f m) - lvF ls (f k) < 0 := by omega
        have HC2 := hidp (show ∀ x, k ≤ x → x < m → lvF ls (f m) < lvF ls (f x) from fun x h1 h2 => UP.out k (by omega) (by omega) hcmp x h1 h2)
        generalize lvF ls (f k) = vx at *
        generalize lvF ls (f m) = vy at *
        generalize f k = fk at *
        generalize f m = fa at *
        clear hcmp hk
        go_wp2_with fail
        go_quiet ((go_at_call 43; exact Calls.quiet_of (CQ.out _)))
        have D5 := hidp (D.out.drewN nq)
        have G5 := hidp (gr_drewN G.out nq)
        clear c1 c2
        generalize wr.drewN nq = wq at *
        go_wp2_with fail
        go_roundg (k - i)
        case measure => omega
        case rel => exact ⟨i, k, rfl, rfl, hmi, by omega, by omega, by omega, HA, HC2, D5, G5⟩
      · have hcI : ¬ lvF ls (f m) - lvF ls (f k) < 0 := by omega
        have hcB : decide (lvF ls (f m) - lvF ls (f k) < 0) = false := decide_eq_false hcI
        have HA2 := hidp (show ∀ x, x = k → lvF ls (f x) ≤ lvF ls (f m) from fun x hx => by rw [hx]; omega)
        generalize lvF ls (f k) = vx at *
        generalize lvF ls (f m) = vy at *
        generalize f k = fk at *
        generalize f m = fa at *
        clear hcmp hk
        go_wp2_with fail
        go_quiet ((go_at_call 43; exact Calls.quiet_of (CQ.out _)))
        have D5 := hidp (D.out.drewN nq)
        have G5 := hidp (gr_drewN G.out nq)
        clear c1 c2
        generalize wr.drewN nq = wq at *
        go_wp2_with fail
        go_roundg (j - (k + 1))
        case measure => omega
        case rel => exact ⟨k + 1, j, by go_num, rfl, by omega, by omega, hjb, by omega, hidp (fun x h1 h2 => HA2.out x (by omega)), HC, D5, G5⟩
    · obtain rfl : i = j := by omega
      obtain ⟨F1, F2⟩ := FIN.out i hmi hjb (fun h => by have := HA.out (i - 1) (by omega) (by omega); omega) HC.out
      have HF1 := hidp F1
      have HF2 := hidp F2
      have D1 := hidp (show DS wr B g n (shr f m m) by rw [shr_zero]; exact D.out)
      clear HA HC UP FIN F1 F2 D
      go_wp2_with fail
      go_loopg [17] m (fun gg s17 wy => ∃ k : Nat, i ≤ k ∧ k ≤ m ∧ k - i ≤ gg ∧ s17 = .int .i64 k ∧ Hid (DS wy B g n (shr f k m)) ∧ Hid (W.grownBy wy (some g)))
      case atStart => exact ⟨m, by omega, Nat.le_refl _, by omega, rfl, D1, G⟩
      case round =>
        clear D1 G
        obtain ⟨k, hik, hkm, hgk, rfl, D, G⟩ := hrel
        by_cases hlk : i < k
        · obtain ⟨x, hx⟩ : ∃ x, x = k - 1 := ⟨_, rfl⟩
          have p0 : (k : Int) - 1 = (x : Int) := by omega
          have p1 : (k : Int) < (n : Int) := by omega
          have p2 : (x : Int) < (n : Int) := by omega
          have hkx : k = x + 1 := by omega
          have c1 := D.out.cell k (by omega)
          have c2 := D.out.cell x (by omega)
          have f1 := D.out.fro k
          have f2 := D.out.fro x
          have SW := D.out.swap k x (by omega)
          have E := shr_step f x m (by omega)
          rw [← hkx] at E
          rw [E] at SW
          have SW2 := hidp SW
          have GG := hidp (fun x y u v => gr_drew (gr_set (gr_set G.out x u) y v))
          have HX := hidp hx
          have pl : (i : Int) < (k : Int) := by omega
          clear SW E hx hlk hkx
          generalize shr f k m k = v1 at *
          generalize shr f k m x = v2 at *
          go_wp2_with fail
          go_region
          all_goals go_wp2
          all_goals go_roundg (x - i)
          all_goals first
            | exact ⟨x, by have := HX.out; omega, by omega, by omega, rfl, hidp (by first | exact SW2.out.1 | exact SW2.out.2), hidp (GG.out _ _ _ _)⟩
            | (have := HX.out; omega)
        · have D2 := hidp (show DS wr B g n (shr f i m) by rw [show i = k by omega]; exact D.out)
          have pl : ¬ (i : Int) < (k : Int) := by omega
          clear D
          go_wp2_with fail
          exact bodyPost_ret (results_none rfl _ _ _) rfl ⟨rfl, ⟨_, HF1.out, HF2.out, D2.out⟩, G.out⟩
end Go.Proofs.Ytfhmckmglkjbeaa
