/- Contract of slices.symMergeCmpFunc at integers. -/
import Derived.Test.YtgodgfnfaiiohaaGreatDoorMgStabC
import Derived.Deep.DeepCutAuto
namespace Go.Proofs.YtgodgfnfaiiohaaGreatDoor
open Go.ChangeShapes Go.WideShapes Go.ChangeAt Go.RowKit
open Stab
set_option maxRecDepth 20000
theorem mg_rg {f f' : Nat → Int} {a b n : Nat} (hp : Perm f f' a b) (h : ∀ i, a ≤ i → i < b → 0 ≤ f i ∧ f i < n) : ∀ i, a ≤ i → i < b → 0 ≤ f' i ∧ f' i < n := fun i h1 h2 => by
  obtain ⟨j, j1, j2, e⟩ := hp.get i h1 h2
  rw [e]; exact h j j1 j2
set_option maxRecDepth 100000 in
set_option maxHeartbeats 16000000 in
theorem sym3_c (B g n P a m b : Nat) (al : Option Addr) (cl : Nat) (ls : List Int) (f : Nat → Int) (W : World) (h : Mg W B g n P al cl ls f a m b) (h1 : a + 1 < m) (h2 : m + 1 < b)
    (IH : ∀ (a' m' b' : Nat) (f' : Nat → Int) (W' : World), b' - a' < b - a → Mg W' B g n P al cl ls f' a' m' b' →
      Calls Tryz.prog 172 #[.slice (some ⟨g, 0, none⟩) n n, .int .i64 (a' : Nat), .int .i64 (m' : Nat), .int .i64 (b' : Nat), cmpV P] W' fun e w' => e = .returned (.tuple #[]) ∧ Mgd W' w' B g n ls f' a' b') :
    Calls Tryz.prog 172 #[.slice (some ⟨g, 0, none⟩) n n, .int .i64 (a : Nat), .int .i64 (m : Nat), .int .i64 (b : Nat), cmpV P] W fun e w' => e = .returned (.tuple #[]) ∧ Mgd W w' B g n ls f a b := by
  have H := hidp h
  have hbn := h.bn
  have hn := h.n40
  have D0 := hidp h.d
  have HIH := hidp IH
  have hma : a < m := by omega
  have hmb : m < b := by omega
  have e0 : (((m : Int) - (a : Int)) == 1) = false := by rw [beq_eq_false_iff_ne]; omega
  have e0' : ¬ ((m : Int) - (a : Int)) = 1 := by omega
  have e1 : (((b : Int) - (m : Int)) == 1) = false := by rw [beq_eq_false_iff_ne]; omega
  have e1' : ¬ ((b : Int) - (m : Int)) = 1 := by omega
  obtain ⟨mid, hmid⟩ : ∃ mid, mid = (a + b) / 2 := ⟨_, rfl⟩
  have pmid : ((a : Int) + (b : Int)) / 2 = (mid : Int) := by omega
  have hm1 : a < mid ∧ mid < b ∧ 2 * mid ≤ a + b ∧ a + b ≤ 2 * mid + 1 := by omega
  obtain ⟨nn, hnn⟩ : ∃ nn, nn = mid + m := ⟨_, rfl⟩
  have pnn : (mid : Int) + (m : Int) = (nn : Int) := by omega
  obtain ⟨pp, hpp⟩ : ∃ pp, pp = nn - 1 := ⟨_, rfl⟩
  have ppp : (nn : Int) - 1 = (pp : Int) := by omega
  obtain ⟨s0, r0, hs⟩ : ∃ s0 r0, (mid < m ∧ s0 + b = nn ∧ r0 = mid) ∨ (m ≤ mid ∧ s0 = a ∧ r0 = m) := by
    by_cases c : mid < m
    · exact ⟨nn - b, mid, .inl ⟨c, by omega, rfl⟩⟩
    · exact ⟨a, m, .inr ⟨by omega, rfl, rfl⟩⟩
  have hsr : a ≤ s0 ∧ s0 < r0 ∧ r0 ≤ m ∧ r0 ≤ mid := by omega
  have SPL := hidp (fun s (h3 : s0 ≤ s) (h4 : s ≤ r0) => split (lvF ls) f a m b mid s s0 r0 H.out.am H.out.mb H.out.s1 H.out.s2 H.out.lf hm1.1 hm1.2.1 hm1.2.2 (by rw [← hnn]; exact hs) h3 h4)
  rw [← hnn] at SPL
  have HPP := hidp hpp
  have HNN := hidp hnn
  have HS := hidp hs
  have QB := hidp (fun c (x1 : s0 ≤ c) (x2 : c < r0) => show m ≤ nn - 1 - c ∧ nn - 1 - c < b ∧ a ≤ c ∧ c < m by omega)
  unfold cmpV at *
  clear h IH hmid hs hnn hpp
  go_enter Tryz.func172, Tryz.ntmps172
  rcases HS.out with ⟨c1, c2, c3⟩ | ⟨c1, c2, c3⟩
  · have ci : (mid : Int) < (m : Int) := by omega
    have ps0 : (nn : Int) - (b : Int) = (s0 : Int) := by omega
    have C3 := hidp c3
    have hm0 : mid = r0 := by omega
    subst hm0
    clear c1 c2 c3
    go_wp2_with fail
    go_loopg [20, 21] b (fun gg s20 s21 wr => ∃ s r : Nat, s20 = .int .i64 s ∧ s21 = .int .i64 r ∧ s0 ≤ s ∧ s ≤ r ∧ r ≤ mid ∧ r - s ≤ gg ∧ Hid (∀ x, x + 1 = s → s0 ≤ x → lvF ls (f x) ≤ lvF ls (f (nn - 1 - x))) ∧ Hid (r < mid → lvF ls (f (nn - 1 - r)) < lvF ls (f r)) ∧ Hid (DS wr B g n f) ∧ Hid (W.grownBy wr (some g)))
    case atStart => exact ⟨s0, mid, rfl, rfl, Nat.le_refl _, by omega, Nat.le_refl _, by omega, hidp (fun x h1 h2 => by omega), hidp (fun h => by omega), D0, gr_refl _ _⟩
    case round =>
      clear D0
      obtain ⟨s, r, rfl, rfl, hs1, hs2, hs3, hgg, HA, HC, D, G⟩ := hrel
      by_cases hlt : s < r
      · obtain ⟨k, hk⟩ : ∃ k, k = (s + r) / 2 := ⟨_, rfl⟩
        have hk1 : s ≤ k ∧ k < r := by omega
        have pk2 : ((s : Int) + (r : Int)) / 2 = (k : Int) := by omega
        obtain ⟨qb1, qb2, qb3, qb4⟩ := QB.out k (by omega) (by omega)
        obtain ⟨q, hq⟩ : ∃ q, q = nn - 1 - k := ⟨_, rfl⟩
        rw [← hq] at qb1 qb2
        have pq : (pp : Int) - (k : Int) = (q : Int) := by have := HPP.out; omega
        have rk := H.out.rg k (by omega) (by omega)
        have rq := H.out.rg q (by omega) (by omega)
        have vk := lvb H.out.c (f k) rk
        have vq := lvb H.out.c (f q) rq
        have c1 := D.out.cell k (by omega)
        have c2 := D.out.cell q (by omega)
        have CQ := hidp (fun z => cmpi_c (f q) (f k) g P al n cl ls (wr.drewN z) ((H.out.c.grown G.out).drewN z) rq rk)
        have p1 : (k : Int) < (n : Int) := by omega
        have p2 : (q : Int) < (n : Int) := by omega
        by_cases hcmp : lvF ls (f q) < lvF ls (f k)
        · have hcI : lvF ls (f q) - lvF ls (f k) < 0 := by omega
          have HC2 := hidp (show ∀ x, x = k → x < mid → lvF ls (f (nn - 1 - x)) < lvF ls (f x) from fun x hx _ => by rw [hx, ← hq]; exact hcmp)
          have HQ := hidp hq
          generalize lvF ls (f k) = vx at *
          generalize lvF ls (f q) = vy at *
          generalize f k = fk at *
          generalize f q = fq at *
          clear hcmp hk hq
          go_wp2_with fail
          go_quiet ((go_at_call 103; exact Calls.quiet_of (CQ.out _)))
          have D5 := hidp (D.out.drewN nq)
          have G5 := hidp (gr_drewN G.out nq)
          clear c1 c2
          generalize wr.drewN nq = wq at *
          go_wp2_with fail
          go_roundg (k - s)
          case measure => omega
          case rel => exact ⟨s, k, rfl, rfl, hs1, by omega, by omega, by omega, HA, hidp (HC2.out k rfl), D5, G5⟩
        · have hcI : ¬ lvF ls (f q) - lvF ls (f k) < 0 := by omega
          have hcB : decide (lvF ls (f q) - lvF ls (f k) < 0) = false := decide_eq_false hcI
          have HA2 := hidp (show ∀ x, x = k → lvF ls (f x) ≤ lvF ls (f (nn - 1 - x)) from fun x hx => by rw [hx, ← hq]; omega)
          have HQ := hidp hq
          generalize lvF ls (f k) = vx at *
          generalize lvF ls (f q) = vy at *
          generalize f k = fk at *
          generalize f q = fq at *
          clear hcmp hk hq
          go_wp2_with fail
          go_quiet ((go_at_call 103; exact Calls.quiet_of (CQ.out _)))
          have D5 := hidp (D.out.drewN nq)
          have G5 := hidp (gr_drewN G.out nq)
          clear c1 c2
          generalize wr.drewN nq = wq at *
          go_wp2_with fail
          go_roundg (r - (k + 1))
          case measure => omega
          case rel => exact ⟨k + 1, r, by go_num, rfl, by omega, by omega, hs3, by omega, hidp (fun x h1 h2 => HA2.out x (by omega)), HC, D5, G5⟩
      · obtain rfl : s = r := by omega
        obtain ⟨z1, z2, z3, z4, z5, z6, SP⟩ := SPL.out s hs1 hs3 (fun h => HC.out h) (fun h => by have := HA.out (s - 1) (by omega) (by omega); omega)
        obtain ⟨e, he⟩ : ∃ e, e = nn - s := ⟨_, rfl⟩
        rw [← he] at z4 z5 z6 SP
        have pe : (nn : Int) - (s : Int) = (e : Int) := by omega
        have RP := hidp (rot_perm f s m e z3 z4)
        obtain ⟨h0, hh0⟩ : ∃ h0, h0 = rot f s m e := ⟨_, rfl⟩
        rw [← hh0] at SP RP
        have SPH := hidp SP
        have RP2 := hidp (RP.out.wider z1 z6)
        have HH0 := hidp hh0
        have CR := hidp (fun (h1 : s < m) (h2 : m < e) => rot_c B g n P s m e f wr D.out h1 h2 (by omega) hn)
        have CID := hidp (fun (h : ¬ (s < m ∧ m < e)) => show h0 = f by
          rw [hh0]
          by_cases c : s = m
          · rw [c]; exact rot_id1 f m e
          · rw [show e = m by omega]; exact rot_id2 f s m)
        clear hh0 SP HA HC SPL he
        by_cases hrot : s < m ∧ m < e
        · obtain ⟨hr1, hr2⟩ := hrot
          have hr1' : (s : Int) < (m : Int) := by omega
          have hr2' : (m : Int) < (e : Int) := by omega
          have CR2 := CR.out hr1 hr2
          rw [← HH0.out] at CR2
          have CR3 := hidp CR2
          clear CR2 CR CID
          unfold cmpV at CR3
          go_wp2_with fail
          refine CR3.out.mono ?_
          rintro _ w2 ⟨rfl, hD, hG⟩
          have D2 := hidp hD
          have G2 := hidp (G.out.trans hG)
          clear hD hG D G CR3
          -- the two halves
          by_cases hl : a < s ∧ s < mid
          · obtain ⟨hl1, hl2⟩ := hl
            have hl1' : (a : Int) < (s : Int) := by omega
            have hl2' : (s : Int) < (mid : Int) := by omega
            have C1 := hidp (fun w3 (D3 : DS w3 B g n h0) (G3 : W.grownBy w3 (some g)) => HIH.out a s mid h0 w3 (by omega) ⟨D3, H.out.c.grown G3, hl1, hl2, by omega, hn, fun i i1 i2 => mg_rg RP2.out H.out.rg i i1 (by omega), SPH.out.l1, SPH.out.s1, SPH.out.s2⟩)
            go_wp2_with fail
            refine (C1.out _ D2.out G2.out).mono ?_
            rintro _ w4 ⟨rfl, ⟨f1, P1, S1, D3⟩, G3⟩
            have HP1 := hidp P1
            have HS1 := hidp S1
            have D4 := hidp D3
            have G4 := hidp (G2.out.trans G3)
            clear P1 S1 D3 G3 D2 G2 C1
            by_cases hq : mid < e ∧ e < b
            · obtain ⟨hq1, hq2⟩ := hq
              have hq1' : (mid : Int) < (e : Int) := by omega
              have hq2' : (e : Int) < (b : Int) := by omega
              have C2 := hidp (fun w3 (D3 : DS w3 B g n f1) (G3 : W.grownBy w3 (some g)) => HIH.out mid e b f1 w3 (by omega) ⟨D3, H.out.c.grown G3, hq1, hq2, hbn, hn, fun i i1 i2 => mg_rg (RP2.out.trans (HP1.out.wider (Nat.le_refl _) (by omega))) H.out.rg i (by omega) i2, fun i j i1 i2 j1 j2 => by rw [HP1.out.out i (.inr i1), HP1.out.out j (.inr (by omega))]; exact SPH.out.l2 i j i1 i2 j1 j2, fun i j i1 ij j2 => by rw [HP1.out.out i (.inr i1), HP1.out.out j (.inr (by omega))]; exact SPH.out.s3 i j i1 ij j2, fun i j i1 ij j2 => by rw [HP1.out.out i (.inr (by omega)), HP1.out.out j (.inr (by omega))]; exact SPH.out.s4 i j i1 ij j2⟩)
              go_wp2_with fail
              all_goals
                refine (C2.out _ D4.out G4.out).mono ?_
                rintro _ w6 ⟨rfl, ⟨f2, P2, S2, D5⟩, G5⟩
                have R := hidp (show Mgd W w6 B g n ls f a b from ⟨⟨f2, RP2.out.trans ((HP1.out.wider (Nat.le_refl _) (by omega)).trans (P2.wider (by omega) (Nat.le_refl _))), joined (lvF ls) SPH.out.cr HP1.out HS1.out P2 S2, D5⟩, G4.out.trans G5⟩)
                clear P2 S2 D5 G5 C2
                go_wp2_with fail
                all_goals go_end0
                all_goals exact ⟨rfl, R.out⟩
            · have S2 := hidp (show Srt (key (lvF ls)) f1 mid b from fun i j i1 ij j2 => by
                rw [HP1.out.out i (.inr i1), HP1.out.out j (.inr (by omega))]
                by_cases c : e = mid
                · have := SPH.out.s4; rw [c] at this; exact this i j i1 ij j2
                · have := SPH.out.s3; rw [show e = b by omega] at this; exact this i j i1 ij j2)
              have R := hidp (fun w6 (D5 : DS w6 B g n f1) (G5 : W.grownBy w6 (some g)) => show Mgd W w6 B g n ls f a b from ⟨⟨f1, RP2.out.trans (HP1.out.wider (Nat.le_refl _) (by omega)), joined (lvF ls) SPH.out.cr HP1.out HS1.out (Perm.refl f1 mid b) S2.out, D5⟩, G5⟩)
              rcases Nat.lt_or_ge mid e with hz1 | hz1
              · have hq1' : (mid : Int) < (e : Int) := by omega
                have hq2' : ¬ (e : Int) < (b : Int) := by omega
                clear hq
                go_wp2_with fail
                all_goals go_end0
                all_goals exact ⟨rfl, R.out _ D4.out G4.out⟩
              · have hq1' : ¬ (mid : Int) < (e : Int) := by omega
                clear hq
                go_wp2_with fail
                all_goals go_end0
                all_goals exact ⟨rfl, R.out _ D4.out G4.out⟩

          · have S1 := hidp (show Srt (key (lvF ls)) h0 a mid by
              by_cases c : s = a
              · have := SPH.out.s2; rw [c] at this; exact this
              · have := SPH.out.s1; rw [show s = mid by omega] at this; exact this)
            have D4 := D2
            have G4 := G2
            have HP1 := hidp (Perm.refl h0 a mid)
            have HS1 := S1
            clear D2 G2 S1
            rcases Nat.lt_or_ge a s with hy1 | hy1
            · have hl1' : (a : Int) < (s : Int) := by omega
              have hl2' : ¬ (s : Int) < (mid : Int) := by omega
              clear hl
              by_cases hq : mid < e ∧ e < b
              · obtain ⟨hq1, hq2⟩ := hq
                have hq1' : (mid : Int) < (e : Int) := by omega
                have hq2' : (e : Int) < (b : Int) := by omega
                have C2 := hidp (fun w3 (D3 : DS w3 B g n h0) (G3 : W.grownBy w3 (some g)) => HIH.out mid e b h0 w3 (by omega) ⟨D3, H.out.c.grown G3, hq1, hq2, hbn, hn, fun i i1 i2 => mg_rg (RP2.out.trans (HP1.out.wider (Nat.le_refl _) (by omega))) H.out.rg i (by omega) i2, fun i j i1 i2 j1 j2 => by rw [HP1.out.out i (.inr i1), HP1.out.out j (.inr (by omega))]; exact SPH.out.l2 i j i1 i2 j1 j2, fun i j i1 ij j2 => by rw [HP1.out.out i (.inr i1), HP1.out.out j (.inr (by omega))]; exact SPH.out.s3 i j i1 ij j2, fun i j i1 ij j2 => by rw [HP1.out.out i (.inr (by omega)), HP1.out.out j (.inr (by omega))]; exact SPH.out.s4 i j i1 ij j2⟩)
                go_wp2_with fail
                all_goals
                  refine (C2.out _ D4.out G4.out).mono ?_
                  rintro _ w6 ⟨rfl, ⟨f2, P2, S2, D5⟩, G5⟩
                  have R := hidp (show Mgd W w6 B g n ls f a b from ⟨⟨f2, RP2.out.trans ((HP1.out.wider (Nat.le_refl _) (by omega)).trans (P2.wider (by omega) (Nat.le_refl _))), joined (lvF ls) SPH.out.cr HP1.out HS1.out P2 S2, D5⟩, G4.out.trans G5⟩)
                  clear P2 S2 D5 G5 C2
                  go_wp2_with fail
                  all_goals go_end0
                  all_goals exact ⟨rfl, R.out⟩
              · have S2 := hidp (show Srt (key (lvF ls)) h0 mid b from fun i j i1 ij j2 => by
                  rw [HP1.out.out i (.inr i1), HP1.out.out j (.inr (by omega))]
                  by_cases c : e = mid
                  · have := SPH.out.s4; rw [c] at this; exact this i j i1 ij j2
                  · have := SPH.out.s3; rw [show e = b by omega] at this; exact this i j i1 ij j2)
                have R := hidp (fun w6 (D5 : DS w6 B g n h0) (G5 : W.grownBy w6 (some g)) => show Mgd W w6 B g n ls f a b from ⟨⟨h0, RP2.out.trans (HP1.out.wider (Nat.le_refl _) (by omega)), joined (lvF ls) SPH.out.cr HP1.out HS1.out (Perm.refl h0 mid b) S2.out, D5⟩, G5⟩)
                rcases Nat.lt_or_ge mid e with hz1 | hz1
                · have hq1' : (mid : Int) < (e : Int) := by omega
                  have hq2' : ¬ (e : Int) < (b : Int) := by omega
                  clear hq
                  go_wp2_with fail
                  all_goals go_end0
                  all_goals exact ⟨rfl, R.out _ D4.out G4.out⟩
                · have hq1' : ¬ (mid : Int) < (e : Int) := by omega
                  clear hq
                  go_wp2_with fail
                  all_goals go_end0
                  all_goals exact ⟨rfl, R.out _ D4.out G4.out⟩

            · have hl1' : ¬ (a : Int) < (s : Int) := by omega
              clear hl
              by_cases hq : mid < e ∧ e < b
              · obtain ⟨hq1, hq2⟩ := hq
                have hq1' : (mid : Int) < (e : Int) := by omega
                have hq2' : (e : Int) < (b : Int) := by omega
                have C2 := hidp (fun w3 (D3 : DS w3 B g n h0) (G3 : W.grownBy w3 (some g)) => HIH.out mid e b h0 w3 (by omega) ⟨D3, H.out.c.grown G3, hq1, hq2, hbn, hn, fun i i1 i2 => mg_rg (RP2.out.trans (HP1.out.wider (Nat.le_refl _) (by omega))) H.out.rg i (by omega) i2, fun i j i1 i2 j1 j2 => by rw [HP1.out.out i (.inr i1), HP1.out.out j (.inr (by omega))]; exact SPH.out.l2 i j i1 i2 j1 j2, fun i j i1 ij j2 => by rw [HP1.out.out i (.inr i1), HP1.out.out j (.inr (by omega))]; exact SPH.out.s3 i j i1 ij j2, fun i j i1 ij j2 => by rw [HP1.out.out i (.inr (by omega)), HP1.out.out j (.inr (by omega))]; exact SPH.out.s4 i j i1 ij j2⟩)
                go_wp2_with fail
                all_goals
                  refine (C2.out _ D4.out G4.out).mono ?_
                  rintro _ w6 ⟨rfl, ⟨f2, P2, S2, D5⟩, G5⟩
                  have R := hidp (show Mgd W w6 B g n ls f a b from ⟨⟨f2, RP2.out.trans ((HP1.out.wider (Nat.le_refl _) (by omega)).trans (P2.wider (by omega) (Nat.le_refl _))), joined (lvF ls) SPH.out.cr HP1.out HS1.out P2 S2, D5⟩, G4.out.trans G5⟩)
                  clear P2 S2 D5 G5 C2
                  go_wp2_with fail
                  all_goals go_end0
                  all_goals exact ⟨rfl, R.out⟩
              · have S2 := hidp (show Srt (key (lvF ls)) h0 mid b from fun i j i1 ij j2 => by
                  rw [HP1.out.out i (.inr i1), HP1.out.out j (.inr (by omega))]
                  by_cases c : e = mid
                  · have := SPH.out.s4; rw [c] at this; exact this i j i1 ij j2
                  · have := SPH.out.s3; rw [show e = b by omega] at this; exact this i j i1 ij j2)
                have R := hidp (fun w6 (D5 : DS w6 B g n h0) (G5 : W.grownBy w6 (some g)) => show Mgd W w6 B g n ls f a b from ⟨⟨h0, RP2.out.trans (HP1.out.wider (Nat.le_refl _) (by omega)), joined (lvF ls) SPH.out.cr HP1.out HS1.out (Perm.refl h0 mid b) S2.out, D5⟩, G5⟩)
                rcases Nat.lt_or_ge mid e with hz1 | hz1
                · have hq1' : (mid : Int) < (e : Int) := by omega
                  have hq2' : ¬ (e : Int) < (b : Int) := by omega
                  clear hq
                  go_wp2_with fail
                  all_goals go_end0
                  all_goals exact ⟨rfl, R.out _ D4.out G4.out⟩
                · have hq1' : ¬ (mid : Int) < (e : Int) := by omega
                  clear hq
                  go_wp2_with fail
                  all_goals go_end0
                  all_goals exact ⟨rfl, R.out _ D4.out G4.out⟩


        · have hr3 : ¬ ((s : Int) < (m : Int) ∧ (m : Int) < (e : Int)) := by omega
          have D2 := hidp (show DS wr B g n h0 by rw [CID.out hrot]; exact D.out)
          have G2 := G
          clear CR CID D G
          rcases Nat.lt_or_ge s m with hx1 | hx1
          · have hr1' : (s : Int) < (m : Int) := by omega
            have hr2' : ¬ (m : Int) < (e : Int) := by omega
            clear hrot hr3
            -- the two halves
            by_cases hl : a < s ∧ s < mid
            · obtain ⟨hl1, hl2⟩ := hl
              have hl1' : (a : Int) < (s : Int) := by omega
              have hl2' : (s : Int) < (mid : Int) := by omega
              have C1 := hidp (fun w3 (D3 : DS w3 B g n h0) (G3 : W.grownBy w3 (some g)) => HIH.out a s mid h0 w3 (by omega) ⟨D3, H.out.c.grown G3, hl1, hl2, by omega, hn, fun i i1 i2 => mg_rg RP2.out H.out.rg i i1 (by omega), SPH.out.l1, SPH.out.s1, SPH.out.s2⟩)
              go_wp2_with fail
              refine (C1.out _ D2.out G2.out).mono ?_
              rintro _ w4 ⟨rfl, ⟨f1, P1, S1, D3⟩, G3⟩
              have HP1 := hidp P1
              have HS1 := hidp S1
              have D4 := hidp D3
              have G4 := hidp (G2.out.trans G3)
              clear P1 S1 D3 G3 D2 G2 C1
              by_cases hq : mid < e ∧ e < b
              · obtain ⟨hq1, hq2⟩ := hq
                have hq1' : (mid : Int) < (e : Int) := by omega
                have hq2' : (e : Int) < (b : Int) := by omega
                have C2 := hidp (fun w3 (D3 : DS w3 B g n f1) (G3 : W.grownBy w3 (some g)) => HIH.out mid e b f1 w3 (by omega) ⟨D3, H.out.c.grown G3, hq1, hq2, hbn, hn, fun i i1 i2 => mg_rg (RP2.out.trans (HP1.out.wider (Nat.le_refl _) (by omega))) H.out.rg i (by omega) i2, fun i j i1 i2 j1 j2 => by rw [HP1.out.out i (.inr i1), HP1.out.out j (.inr (by omega))]; exact SPH.out.l2 i j i1 i2 j1 j2, fun i j i1 ij j2 => by rw [HP1.out.out i (.inr i1), HP1.out.out j (.inr (by omega))]; exact SPH.out.s3 i j i1 ij j2, fun i j i1 ij j2 => by rw [HP1.out.out i (.inr (by omega)), HP1.out.out j (.inr (by omega))]; exact SPH.out.s4 i j i1 ij j2⟩)
                go_wp2_with fail
                all_goals
                  refine (C2.out _ D4.out G4.out).mono ?_
                  rintro _ w6 ⟨rfl, ⟨f2, P2, S2, D5⟩, G5⟩
                  have R := hidp (show Mgd W w6 B g n ls f a b from ⟨⟨f2, RP2.out.trans ((HP1.out.wider (Nat.le_refl _) (by omega)).trans (P2.wider (by omega) (Nat.le_refl _))), joined (lvF ls) SPH.out.cr HP1.out HS1.out P2 S2, D5⟩, G4.out.trans G5⟩)
                  clear P2 S2 D5 G5 C2
                  go_wp2_with fail
                  all_goals go_end0
                  all_goals exact ⟨rfl, R.out⟩
              · have S2 := hidp (show Srt (key (lvF ls)) f1 mid b from fun i j i1 ij j2 => by
                  rw [HP1.out.out i (.inr i1), HP1.out.out j (.inr (by omega))]
                  by_cases c : e = mid
                  · have := SPH.out.s4; rw [c] at this; exact this i j i1 ij j2
                  · have := SPH.out.s3; rw [show e = b by omega] at this; exact this i j i1 ij j2)
                have R := hidp (fun w6 (D5 : DS w6 B g n f1) (G5 : W.grownBy w6 (some g)) => show Mgd W w6 B g n ls f a b from ⟨⟨f1, RP2.out.trans (HP1.out.wider (Nat.le_refl _) (by omega)), joined (lvF ls) SPH.out.cr HP1.out HS1.out (Perm.refl f1 mid b) S2.out, D5⟩, G5⟩)
                rcases Nat.lt_or_ge mid e with hz1 | hz1
                · have hq1' : (mid : Int) < (e : Int) := by omega
                  have hq2' : ¬ (e : Int) < (b : Int) := by omega
                  clear hq
                  go_wp2_with fail
                  all_goals go_end0
                  all_goals exact ⟨rfl, R.out _ D4.out G4.out⟩
                · have hq1' : ¬ (mid : Int) < (e : Int) := by omega
                  clear hq
                  go_wp2_with fail
                  all_goals go_end0
                  all_goals exact ⟨rfl, R.out _ D4.out G4.out⟩

            · have S1 := hidp (show Srt (key (lvF ls)) h0 a mid by
                by_cases c : s = a
                · have := SPH.out.s2; rw [c] at this; exact this
                · have := SPH.out.s1; rw [show s = mid by omega] at this; exact this)
              have D4 := D2
              have G4 := G2
              have HP1 := hidp (Perm.refl h0 a mid)
              have HS1 := S1
              clear D2 G2 S1
              rcases Nat.lt_or_ge a s with hy1 | hy1
              · have hl1' : (a : Int) < (s : Int) := by omega
                have hl2' : ¬ (s : Int) < (mid : Int) := by omega
                clear hl
                by_cases hq : mid < e ∧ e < b
                · obtain ⟨hq1, hq2⟩ := hq
                  have hq1' : (mid : Int) < (e : Int) := by omega
                  have hq2' : (e : Int) < (b : Int) := by omega
                  have C2 := hidp (fun w3 (D3 : DS w3 B g n h0) (G3 : W.grownBy w3 (some g)) => HIH.out mid e b h0 w3 (by omega) ⟨D3, H.out.c.grown G3, hq1, hq2, hbn, hn, fun i i1 i2 => mg_rg (RP2.out.trans (HP1.out.wider (Nat.le_refl _) (by omega))) H.out.rg i (by omega) i2, fun i j i1 i2 j1 j2 => by rw [HP1.out.out i (.inr i1), HP1.out.out j (.inr (by omega))]; exact SPH.out.l2 i j i1 i2 j1 j2, fun i j i1 ij j2 => by rw [HP1.out.out i (.inr i1), HP1.out.out j (.inr (by omega))]; exact SPH.out.s3 i j i1 ij j2, fun i j i1 ij j2 => by rw [HP1.out.out i (.inr (by omega)), HP1.out.out j (.inr (by omega))]; exact SPH.out.s4 i j i1 ij j2⟩)
                  go_wp2_with fail
                  all_goals
                    refine (C2.out _ D4.out G4.out).mono ?_
                    rintro _ w6 ⟨rfl, ⟨f2, P2, S2, D5⟩, G5⟩
                    have R := hidp (show Mgd W w6 B g n ls f a b from ⟨⟨f2, RP2.out.trans ((HP1.out.wider (Nat.le_refl _) (by omega)).trans (P2.wider (by omega) (Nat.le_refl _))), joined (lvF ls) SPH.out.cr HP1.out HS1.out P2 S2, D5⟩, G4.out.trans G5⟩)
                    clear P2 S2 D5 G5 C2
                    go_wp2_with fail
                    all_goals go_end0
                    all_goals exact ⟨rfl, R.out⟩
                · have S2 := hidp (show Srt (key (lvF ls)) h0 mid b from fun i j i1 ij j2 => by
                    rw [HP1.out.out i (.inr i1), HP1.out.out j (.inr (by omega))]
                    by_cases c : e = mid
                    · have := SPH.out.s4; rw [c] at this; exact this i j i1 ij j2
                    · have := SPH.out.s3; rw [show e = b by omega] at this; exact this i j i1 ij j2)
                  have R := hidp (fun w6 (D5 : DS w6 B g n h0) (G5 : W.grownBy w6 (some g)) => show Mgd W w6 B g n ls f a b from ⟨⟨h0, RP2.out.trans (HP1.out.wider (Nat.le_refl _) (by omega)), joined (lvF ls) SPH.out.cr HP1.out HS1.out (Perm.refl h0 mid b) S2.out, D5⟩, G5⟩)
                  rcases Nat.lt_or_ge mid e with hz1 | hz1
                  · have hq1' : (mid : Int) < (e : Int) := by omega
                    have hq2' : ¬ (e : Int) < (b : Int) := by omega
                    clear hq
                    go_wp2_with fail
                    all_goals go_end0
                    all_goals exact ⟨rfl, R.out _ D4.out G4.out⟩
                  · have hq1' : ¬ (mid : Int) < (e : Int) := by omega
                    clear hq
                    go_wp2_with fail
                    all_goals go_end0
                    all_goals exact ⟨rfl, R.out _ D4.out G4.out⟩

              · have hl1' : ¬ (a : Int) < (s : Int) := by omega
                clear hl
                by_cases hq : mid < e ∧ e < b
                · obtain ⟨hq1, hq2⟩ := hq
                  have hq1' : (mid : Int) < (e : Int) := by omega
                  have hq2' : (e : Int) < (b : Int) := by omega
                  have C2 := hidp (fun w3 (D3 : DS w3 B g n h0) (G3 : W.grownBy w3 (some g)) => HIH.out mid e b h0 w3 (by omega) ⟨D3, H.out.c.grown G3, hq1, hq2, hbn, hn, fun i i1 i2 => mg_rg (RP2.out.trans (HP1.out.wider (Nat.le_refl _) (by omega))) H.out.rg i (by omega) i2, fun i j i1 i2 j1 j2 => by rw [HP1.out.out i (.inr i1), HP1.out.out j (.inr (by omega))]; exact SPH.out.l2 i j i1 i2 j1 j2, fun i j i1 ij j2 => by rw [HP1.out.out i (.inr i1), HP1.out.out j (.inr (by omega))]; exact SPH.out.s3 i j i1 ij j2, fun i j i1 ij j2 => by rw [HP1.out.out i (.inr (by omega)), HP1.out.out j (.inr (by omega))]; exact SPH.out.s4 i j i1 ij j2⟩)
                  go_wp2_with fail
                  all_goals
                    refine (C2.out _ D4.out G4.out).mono ?_
                    rintro _ w6 ⟨rfl, ⟨f2, P2, S2, D5⟩, G5⟩
                    have R := hidp (show Mgd W w6 B g n ls f a b from ⟨⟨f2, RP2.out.trans ((HP1.out.wider (Nat.le_refl _) (by omega)).trans (P2.wider (by omega) (Nat.le_refl _))), joined (lvF ls) SPH.out.cr HP1.out HS1.out P2 S2, D5⟩, G4.out.trans G5⟩)
                    clear P2 S2 D5 G5 C2
                    go_wp2_with fail
                    all_goals go_end0
                    all_goals exact ⟨rfl, R.out⟩
                · have S2 := hidp (show Srt (key (lvF ls)) h0 mid b from fun i j i1 ij j2 => by
                    rw [HP1.out.out i (.inr i1), HP1.out.out j (.inr (by omega))]
                    by_cases c : e = mid
                    · have := SPH.out.s4; rw [c] at this; exact this i j i1 ij j2
                    · have := SPH.out.s3; rw [show e = b by omega] at this; exact this i j i1 ij j2)
                  have R := hidp (fun w6 (D5 : DS w6 B g n h0) (G5 : W.grownBy w6 (some g)) => show Mgd W w6 B g n ls f a b from ⟨⟨h0, RP2.out.trans (HP1.out.wider (Nat.le_refl _) (by omega)), joined (lvF ls) SPH.out.cr HP1.out HS1.out (Perm.refl h0 mid b) S2.out, D5⟩, G5⟩)
                  rcases Nat.lt_or_ge mid e with hz1 | hz1
                  · have hq1' : (mid : Int) < (e : Int) := by omega
                    have hq2' : ¬ (e : Int) < (b : Int) := by omega
                    clear hq
                    go_wp2_with fail
                    all_goals go_end0
                    all_goals exact ⟨rfl, R.out _ D4.out G4.out⟩
                  · have hq1' : ¬ (mid : Int) < (e : Int) := by omega
                    clear hq
                    go_wp2_with fail
                    all_goals go_end0
                    all_goals exact ⟨rfl, R.out _ D4.out G4.out⟩


          · have hr1' : ¬ (s : Int) < (m : Int) := by omega
            clear hrot hr3
            -- the two halves
            by_cases hl : a < s ∧ s < mid
            · obtain ⟨hl1, hl2⟩ := hl
              have hl1' : (a : Int) < (s : Int) := by omega
              have hl2' : (s : Int) < (mid : Int) := by omega
              have C1 := hidp (fun w3 (D3 : DS w3 B g n h0) (G3 : W.grownBy w3 (some g)) => HIH.out a s mid h0 w3 (by omega) ⟨D3, H.out.c.grown G3, hl1, hl2, by omega, hn, fun i i1 i2 => mg_rg RP2.out H.out.rg i i1 (by omega), SPH.out.l1, SPH.out.s1, SPH.out.s2⟩)
              go_wp2_with fail
              refine (C1.out _ D2.out G2.out).mono ?_
              rintro _ w4 ⟨rfl, ⟨f1, P1, S1, D3⟩, G3⟩
              have HP1 := hidp P1
              have HS1 := hidp S1
              have D4 := hidp D3
              have G4 := hidp (G2.out.trans G3)
              clear P1 S1 D3 G3 D2 G2 C1
              by_cases hq : mid < e ∧ e < b
              · obtain ⟨hq1, hq2⟩ := hq
                have hq1' : (mid : Int) < (e : Int) := by omega
                have hq2' : (e : Int) < (b : Int) := by omega
                have C2 := hidp (fun w3 (D3 : DS w3 B g n f1) (G3 : W.grownBy w3 (some g)) => HIH.out mid e b f1 w3 (by omega) ⟨D3, H.out.c.grown G3, hq1, hq2, hbn, hn, fun i i1 i2 => mg_rg (RP2.out.trans (HP1.out.wider (Nat.le_refl _) (by omega))) H.out.rg i (by omega) i2, fun i j i1 i2 j1 j2 => by rw [HP1.out.out i (.inr i1), HP1.out.out j (.inr (by omega))]; exact SPH.out.l2 i j i1 i2 j1 j2, fun i j i1 ij j2 => by rw [HP1.out.out i (.inr i1), HP1.out.out j (.inr (by omega))]; exact SPH.out.s3 i j i1 ij j2, fun i j i1 ij j2 => by rw [HP1.out.out i (.inr (by omega)), HP1.out.out j (.inr (by omega))]; exact SPH.out.s4 i j i1 ij j2⟩)
                go_wp2_with fail
                all_goals
                  refine (C2.out _ D4.out G4.out).mono ?_
                  rintro _ w6 ⟨rfl, ⟨f2, P2, S2, D5⟩, G5⟩
                  have R := hidp (show Mgd W w6 B g n ls f a b from ⟨⟨f2, RP2.out.trans ((HP1.out.wider (Nat.le_refl _) (by omega)).trans (P2.wider (by omega) (Nat.le_refl _))), joined (lvF ls) SPH.out.cr HP1.out HS1.out P2 S2, D5⟩, G4.out.trans G5⟩)
                  clear P2 S2 D5 G5 C2
                  go_wp2_with fail
                  all_goals go_end0
                  all_goals exact ⟨rfl, R.out⟩
              · have S2 := hidp (show Srt (key (lvF ls)) f1 mid b from fun i j i1 ij j2 => by
                  rw [HP1.out.out i (.inr i1), HP1.out.out j (.inr (by omega))]
                  by_cases c : e = mid
                  · have := SPH.out.s4; rw [c] at this; exact this i j i1 ij j2
                  · have := SPH.out.s3; rw [show e = b by omega] at this; exact this i j i1 ij j2)
                have R := hidp (fun w6 (D5 : DS w6 B g n f1) (G5 : W.grownBy w6 (some g)) => show Mgd W w6 B g n ls f a b from ⟨⟨f1, RP2.out.trans (HP1.out.wider (Nat.le_refl _) (by omega)), joined (lvF ls) SPH.out.cr HP1.out HS1.out (Perm.refl f1 mid b) S2.out, D5⟩, G5⟩)
                rcases Nat.lt_or_ge mid e with hz1 | hz1
                · have hq1' : (mid : Int) < (e : Int) := by omega
                  have hq2' : ¬ (e : Int) < (b : Int) := by omega
                  clear hq
                  go_wp2_with fail
                  all_goals go_end0
                  all_goals exact ⟨rfl, R.out _ D4.out G4.out⟩
                · have hq1' : ¬ (mid : Int) < (e : Int) := by omega
                  clear hq
                  go_wp2_with fail
                  all_goals go_end0
                  all_goals exact ⟨rfl, R.out _ D4.out G4.out⟩

            · have S1 := hidp (show Srt (key (lvF ls)) h0 a mid by
                by_cases c : s = a
                · have := SPH.out.s2; rw [c] at this; exact this
                · have := SPH.out.s1; rw [show s = mid by omega] at this; exact this)
              have D4 := D2
              have G4 := G2
              have HP1 := hidp (Perm.refl h0 a mid)
              have HS1 := S1
              clear D2 G2 S1
              rcases Nat.lt_or_ge a s with hy1 | hy1
              · have hl1' : (a : Int) < (s : Int) := by omega
                have hl2' : ¬ (s : Int) < (mid : Int) := by omega
                clear hl
                by_cases hq : mid < e ∧ e < b
                · obtain ⟨hq1, hq2⟩ := hq
                  have hq1' : (mid : Int) < (e : Int) := by omega
                  have hq2' : (e : Int) < (b : Int) := by omega
                  have C2 := hidp (fun w3 (D3 : DS w3 B g n h0) (G3 : W.grownBy w3 (some g)) => HIH.out mid e b h0 w3 (by omega) ⟨D3, H.out.c.grown G3, hq1, hq2, hbn, hn, fun i i1 i2 => mg_rg (RP2.out.trans (HP1.out.wider (Nat.le_refl _) (by omega))) H.out.rg i (by omega) i2, fun i j i1 i2 j1 j2 => by rw [HP1.out.out i (.inr i1), HP1.out.out j (.inr (by omega))]; exact SPH.out.l2 i j i1 i2 j1 j2, fun i j i1 ij j2 => by rw [HP1.out.out i (.inr i1), HP1.out.out j (.inr (by omega))]; exact SPH.out.s3 i j i1 ij j2, fun i j i1 ij j2 => by rw [HP1.out.out i (.inr (by omega)), HP1.out.out j (.inr (by omega))]; exact SPH.out.s4 i j i1 ij j2⟩)
                  go_wp2_with fail
                  all_goals
                    refine (C2.out _ D4.out G4.out).mono ?_
                    rintro _ w6 ⟨rfl, ⟨f2, P2, S2, D5⟩, G5⟩
                    have R := hidp (show Mgd W w6 B g n ls f a b from ⟨⟨f2, RP2.out.trans ((HP1.out.wider (Nat.le_refl _) (by omega)).trans (P2.wider (by omega) (Nat.le_refl _))), joined (lvF ls) SPH.out.cr HP1.out HS1.out P2 S2, D5⟩, G4.out.trans G5⟩)
                    clear P2 S2 D5 G5 C2
                    go_wp2_with fail
                    all_goals go_end0
                    all_goals exact ⟨rfl, R.out⟩
                · have S2 := hidp (show Srt (key (lvF ls)) h0 mid b from fun i j i1 ij j2 => by
                    rw [HP1.out.out i (.inr i1), HP1.out.out j (.inr (by omega))]
                    by_cases c : e = mid
                    · have := SPH.out.s4; rw [c] at this; exact this i j i1 ij j2
                    · have := SPH.out.s3; rw [show e = b by omega] at this; exact this i j i1 ij j2)
                  have R := hidp (fun w6 (D5 : DS w6 B g n h0) (G5 : W.grownBy w6 (some g)) => show Mgd W w6 B g n ls f a b from ⟨⟨h0, RP2.out.trans (HP1.out.wider (Nat.le_refl _) (by omega)), joined (lvF ls) SPH.out.cr HP1.out HS1.out (Perm.refl h0 mid b) S2.out, D5⟩, G5⟩)
                  rcases Nat.lt_or_ge mid e with hz1 | hz1
                  · have hq1' : (mid : Int) < (e : Int) := by omega
                    have hq2' : ¬ (e : Int) < (b : Int) := by omega
                    clear hq
                    go_wp2_with fail
                    all_goals go_end0
                    all_goals exact ⟨rfl, R.out _ D4.out G4.out⟩
                  · have hq1' : ¬ (mid : Int) < (e : Int) := by omega
                    clear hq
                    go_wp2_with fail
                    all_goals go_end0
                    all_goals exact ⟨rfl, R.out _ D4.out G4.out⟩

              · have hl1' : ¬ (a : Int) < (s : Int) := by omega
                clear hl
                by_cases hq : mid < e ∧ e < b
                · obtain ⟨hq1, hq2⟩ := hq
                  have hq1' : (mid : Int) < (e : Int) := by omega
                  have hq2' : (e : Int) < (b : Int) := by omega
                  have C2 := hidp (fun w3 (D3 : DS w3 B g n h0) (G3 : W.grownBy w3 (some g)) => HIH.out mid e b h0 w3 (by omega) ⟨D3, H.out.c.grown G3, hq1, hq2, hbn, hn, fun i i1 i2 => mg_rg (RP2.out.trans (HP1.out.wider (Nat.le_refl _) (by omega))) H.out.rg i (by omega) i2, fun i j i1 i2 j1 j2 => by rw [HP1.out.out i (.inr i1), HP1.out.out j (.inr (by omega))]; exact SPH.out.l2 i j i1 i2 j1 j2, fun i j i1 ij j2 => by rw [HP1.out.out i (.inr i1), HP1.out.out j (.inr (by omega))]; exact SPH.out.s3 i j i1 ij j2, fun i j i1 ij j2 => by rw [HP1.out.out i (.inr (by omega)), HP1.out.out j (.inr (by omega))]; exact SPH.out.s4 i j i1 ij j2⟩)
                  go_wp2_with fail
                  all_goals
                    refine (C2.out _ D4.out G4.out).mono ?_
                    rintro _ w6 ⟨rfl, ⟨f2, P2, S2, D5⟩, G5⟩
                    have R := hidp (show Mgd W w6 B g n ls f a b from ⟨⟨f2, RP2.out.trans ((HP1.out.wider (Nat.le_refl _) (by omega)).trans (P2.wider (by omega) (Nat.le_refl _))), joined (lvF ls) SPH.out.cr HP1.out HS1.out P2 S2, D5⟩, G4.out.trans G5⟩)
                    clear P2 S2 D5 G5 C2
                    go_wp2_with fail
                    all_goals go_end0
                    all_goals exact ⟨rfl, R.out⟩
                · have S2 := hidp (show Srt (key (lvF ls)) h0 mid b from fun i j i1 ij j2 => by
                    rw [HP1.out.out i (.inr i1), HP1.out.out j (.inr (by omega))]
                    by_cases c : e = mid
                    · have := SPH.out.s4; rw [c] at this; exact this i j i1 ij j2
                    · have := SPH.out.s3; rw [show e = b by omega] at this; exact this i j i1 ij j2)
                  have R := hidp (fun w6 (D5 : DS w6 B g n h0) (G5 : W.grownBy w6 (some g)) => show Mgd W w6 B g n ls f a b from ⟨⟨h0, RP2.out.trans (HP1.out.wider (Nat.le_refl _) (by omega)), joined (lvF ls) SPH.out.cr HP1.out HS1.out (Perm.refl h0 mid b) S2.out, D5⟩, G5⟩)
                  rcases Nat.lt_or_ge mid e with hz1 | hz1
                  · have hq1' : (mid : Int) < (e : Int) := by omega
                    have hq2' : ¬ (e : Int) < (b : Int) := by omega
                    clear hq
                    go_wp2_with fail
                    all_goals go_end0
                    all_goals exact ⟨rfl, R.out _ D4.out G4.out⟩
                  · have hq1' : ¬ (mid : Int) < (e : Int) := by omega
                    clear hq
                    go_wp2_with fail
                    all_goals go_end0
                    all_goals exact ⟨rfl, R.out _ D4.out G4.out⟩



  · have ci : ¬ (mid : Int) < (m : Int) := by omega
    have hm0 : m = r0 := by omega
    have hm2 : a = s0 := by omega
    subst hm0
    subst hm2
    clear c1 c2 c3
    go_wp2_with fail
    go_loopg [20, 21] b (fun gg s20 s21 wr => ∃ s r : Nat, s20 = .int .i64 s ∧ s21 = .int .i64 r ∧ a ≤ s ∧ s ≤ r ∧ r ≤ m ∧ r - s ≤ gg ∧ Hid (∀ x, x + 1 = s → a ≤ x → lvF ls (f x) ≤ lvF ls (f (nn - 1 - x))) ∧ Hid (r < m → lvF ls (f (nn - 1 - r)) < lvF ls (f r)) ∧ Hid (DS wr B g n f) ∧ Hid (W.grownBy wr (some g)))
    case atStart => exact ⟨a, m, rfl, rfl, Nat.le_refl _, by omega, Nat.le_refl _, by omega, hidp (fun x h1 h2 => by omega), hidp (fun h => by omega), D0, gr_refl _ _⟩
    case round =>
      clear D0
      obtain ⟨s, r, rfl, rfl, hs1, hs2, hs3, hgg, HA, HC, D, G⟩ := hrel
      by_cases hlt : s < r
      · obtain ⟨k, hk⟩ : ∃ k, k = (s + r) / 2 := ⟨_, rfl⟩
        have hk1 : s ≤ k ∧ k < r := by omega
        have pk2 : ((s : Int) + (r : Int)) / 2 = (k : Int) := by omega
        obtain ⟨qb1, qb2, qb3, qb4⟩ := QB.out k (by omega) (by omega)
        obtain ⟨q, hq⟩ : ∃ q, q = nn - 1 - k := ⟨_, rfl⟩
        rw [← hq] at qb1 qb2
        have pq : (pp : Int) - (k : Int) = (q : Int) := by have := HPP.out; omega
        have rk := H.out.rg k (by omega) (by omega)
        have rq := H.out.rg q (by omega) (by omega)
        have vk := lvb H.out.c (f k) rk
        have vq := lvb H.out.c (f q) rq
        have c1 := D.out.cell k (by omega)
        have c2 := D.out.cell q (by omega)
        have CQ := hidp (fun z => cmpi_c (f q) (f k) g P al n cl ls (wr.drewN z) ((H.out.c.grown G.out).drewN z) rq rk)
        have p1 : (k : Int) < (n : Int) := by omega
        have p2 : (q : Int) < (n : Int) := by omega
        by_cases hcmp : lvF ls (f q) < lvF ls (f k)
        · have hcI : lvF ls (f q) - lvF ls (f k) < 0 := by omega
          have HC2 := hidp (show ∀ x, x = k → x < m → lvF ls (f (nn - 1 - x)) < lvF ls (f x) from fun x hx _ => by rw [hx, ← hq]; exact hcmp)
          have HQ := hidp hq
          generalize lvF ls (f k) = vx at *
          generalize lvF ls (f q) = vy at *
          generalize f k = fk at *
          generalize f q = fq at *
          clear hcmp hk hq
          go_wp2_with fail
          go_quiet ((go_at_call 103; exact Calls.quiet_of (CQ.out _)))
          have D5 := hidp (D.out.drewN nq)
          have G5 := hidp (gr_drewN G.out nq)
          clear c1 c2
          generalize wr.drewN nq = wq at *
          go_wp2_with fail
          go_roundg (k - s)
          case measure => omega
          case rel => exact ⟨s, k, rfl, rfl, hs1, by omega, by omega, by omega, HA, hidp (HC2.out k rfl), D5, G5⟩
        · have hcI : ¬ lvF ls (f q) - lvF ls (f k) < 0 := by omega
          have hcB : decide (lvF ls (f q) - lvF ls (f k) < 0) = false := decide_eq_false hcI
          have HA2 := hidp (show ∀ x, x = k → lvF ls (f x) ≤ lvF ls (f (nn - 1 - x)) from fun x hx => by rw [hx, ← hq]; omega)
          have HQ := hidp hq
          generalize lvF ls (f k) = vx at *
          generalize lvF ls (f q) = vy at *
          generalize f k = fk at *
          generalize f q = fq at *
          clear hcmp hk hq
          go_wp2_with fail
          go_quiet ((go_at_call 103; exact Calls.quiet_of (CQ.out _)))
          have D5 := hidp (D.out.drewN nq)
          have G5 := hidp (gr_drewN G.out nq)
          clear c1 c2
          generalize wr.drewN nq = wq at *
          go_wp2_with fail
          go_roundg (r - (k + 1))
          case measure => omega
          case rel => exact ⟨k + 1, r, by go_num, rfl, by omega, by omega, hs3, by omega, hidp (fun x h1 h2 => HA2.out x (by omega)), HC, D5, G5⟩
      · obtain rfl : s = r := by omega
        obtain ⟨z1, z2, z3, z4, z5, z6, SP⟩ := SPL.out s hs1 hs3 (fun h => HC.out h) (fun h => by have := HA.out (s - 1) (by omega) (by omega); omega)
        obtain ⟨e, he⟩ : ∃ e, e = nn - s := ⟨_, rfl⟩
        rw [← he] at z4 z5 z6 SP
        have pe : (nn : Int) - (s : Int) = (e : Int) := by omega
        have RP := hidp (rot_perm f s m e z3 z4)
        obtain ⟨h0, hh0⟩ : ∃ h0, h0 = rot f s m e := ⟨_, rfl⟩
        rw [← hh0] at SP RP
        have SPH := hidp SP
        have RP2 := hidp (RP.out.wider z1 z6)
        have HH0 := hidp hh0
        have CR := hidp (fun (h1 : s < m) (h2 : m < e) => rot_c B g n P s m e f wr D.out h1 h2 (by omega) hn)
        have CID := hidp (fun (h : ¬ (s < m ∧ m < e)) => show h0 = f by
          rw [hh0]
          by_cases c : s = m
          · rw [c]; exact rot_id1 f m e
          · rw [show e = m by omega]; exact rot_id2 f s m)
        clear hh0 SP HA HC SPL he
        by_cases hrot : s < m ∧ m < e
        · obtain ⟨hr1, hr2⟩ := hrot
          have hr1' : (s : Int) < (m : Int) := by omega
          have hr2' : (m : Int) < (e : Int) := by omega
          have CR2 := CR.out hr1 hr2
          rw [← HH0.out] at CR2
          have CR3 := hidp CR2
          clear CR2 CR CID
          unfold cmpV at CR3
          go_wp2_with fail
          refine CR3.out.mono ?_
          rintro _ w2 ⟨rfl, hD, hG⟩
          have D2 := hidp hD
          have G2 := hidp (G.out.trans hG)
          clear hD hG D G CR3
          -- the two halves
          by_cases hl : a < s ∧ s < mid
          · obtain ⟨hl1, hl2⟩ := hl
            have hl1' : (a : Int) < (s : Int) := by omega
            have hl2' : (s : Int) < (mid : Int) := by omega
            have C1 := hidp (fun w3 (D3 : DS w3 B g n h0) (G3 : W.grownBy w3 (some g)) => HIH.out a s mid h0 w3 (by omega) ⟨D3, H.out.c.grown G3, hl1, hl2, by omega, hn, fun i i1 i2 => mg_rg RP2.out H.out.rg i i1 (by omega), SPH.out.l1, SPH.out.s1, SPH.out.s2⟩)
            go_wp2_with fail
            refine (C1.out _ D2.out G2.out).mono ?_
            rintro _ w4 ⟨rfl, ⟨f1, P1, S1, D3⟩, G3⟩
            have HP1 := hidp P1
            have HS1 := hidp S1
            have D4 := hidp D3
            have G4 := hidp (G2.out.trans G3)
            clear P1 S1 D3 G3 D2 G2 C1
            by_cases hq : mid < e ∧ e < b
            · obtain ⟨hq1, hq2⟩ := hq
              have hq1' : (mid : Int) < (e : Int) := by omega
              have hq2' : (e : Int) < (b : Int) := by omega
              have C2 := hidp (fun w3 (D3 : DS w3 B g n f1) (G3 : W.grownBy w3 (some g)) => HIH.out mid e b f1 w3 (by omega) ⟨D3, H.out.c.grown G3, hq1, hq2, hbn, hn, fun i i1 i2 => mg_rg (RP2.out.trans (HP1.out.wider (Nat.le_refl _) (by omega))) H.out.rg i (by omega) i2, fun i j i1 i2 j1 j2 => by rw [HP1.out.out i (.inr i1), HP1.out.out j (.inr (by omega))]; exact SPH.out.l2 i j i1 i2 j1 j2, fun i j i1 ij j2 => by rw [HP1.out.out i (.inr i1), HP1.out.out j (.inr (by omega))]; exact SPH.out.s3 i j i1 ij j2, fun i j i1 ij j2 => by rw [HP1.out.out i (.inr (by omega)), HP1.out.out j (.inr (by omega))]; exact SPH.out.s4 i j i1 ij j2⟩)
              go_wp2_with fail
              all_goals
                refine (C2.out _ D4.out G4.out).mono ?_
                rintro _ w6 ⟨rfl, ⟨f2, P2, S2, D5⟩, G5⟩
                have R := hidp (show Mgd W w6 B g n ls f a b from ⟨⟨f2, RP2.out.trans ((HP1.out.wider (Nat.le_refl _) (by omega)).trans (P2.wider (by omega) (Nat.le_refl _))), joined (lvF ls) SPH.out.cr HP1.out HS1.out P2 S2, D5⟩, G4.out.trans G5⟩)
                clear P2 S2 D5 G5 C2
                go_wp2_with fail
                all_goals go_end0
                all_goals exact ⟨rfl, R.out⟩
            · have S2 := hidp (show Srt (key (lvF ls)) f1 mid b from fun i j i1 ij j2 => by
                rw [HP1.out.out i (.inr i1), HP1.out.out j (.inr (by omega))]
                by_cases c : e = mid
                · have := SPH.out.s4; rw [c] at this; exact this i j i1 ij j2
                · have := SPH.out.s3; rw [show e = b by omega] at this; exact this i j i1 ij j2)
              have R := hidp (fun w6 (D5 : DS w6 B g n f1) (G5 : W.grownBy w6 (some g)) => show Mgd W w6 B g n ls f a b from ⟨⟨f1, RP2.out.trans (HP1.out.wider (Nat.le_refl _) (by omega)), joined (lvF ls) SPH.out.cr HP1.out HS1.out (Perm.refl f1 mid b) S2.out, D5⟩, G5⟩)
              rcases Nat.lt_or_ge mid e with hz1 | hz1
              · have hq1' : (mid : Int) < (e : Int) := by omega
                have hq2' : ¬ (e : Int) < (b : Int) := by omega
                clear hq
                go_wp2_with fail
                all_goals go_end0
                all_goals exact ⟨rfl, R.out _ D4.out G4.out⟩
              · have hq1' : ¬ (mid : Int) < (e : Int) := by omega
                clear hq
                go_wp2_with fail
                all_goals go_end0
                all_goals exact ⟨rfl, R.out _ D4.out G4.out⟩

          · have S1 := hidp (show Srt (key (lvF ls)) h0 a mid by
              by_cases c : s = a
              · have := SPH.out.s2; rw [c] at this; exact this
              · have := SPH.out.s1; rw [show s = mid by omega] at this; exact this)
            have D4 := D2
            have G4 := G2
            have HP1 := hidp (Perm.refl h0 a mid)
            have HS1 := S1
            clear D2 G2 S1
            rcases Nat.lt_or_ge a s with hy1 | hy1
            · have hl1' : (a : Int) < (s : Int) := by omega
              have hl2' : ¬ (s : Int) < (mid : Int) := by omega
              clear hl
              by_cases hq : mid < e ∧ e < b
              · obtain ⟨hq1, hq2⟩ := hq
                have hq1' : (mid : Int) < (e : Int) := by omega
                have hq2' : (e : Int) < (b : Int) := by omega
                have C2 := hidp (fun w3 (D3 : DS w3 B g n h0) (G3 : W.grownBy w3 (some g)) => HIH.out mid e b h0 w3 (by omega) ⟨D3, H.out.c.grown G3, hq1, hq2, hbn, hn, fun i i1 i2 => mg_rg (RP2.out.trans (HP1.out.wider (Nat.le_refl _) (by omega))) H.out.rg i (by omega) i2, fun i j i1 i2 j1 j2 => by rw [HP1.out.out i (.inr i1), HP1.out.out j (.inr (by omega))]; exact SPH.out.l2 i j i1 i2 j1 j2, fun i j i1 ij j2 => by rw [HP1.out.out i (.inr i1), HP1.out.out j (.inr (by omega))]; exact SPH.out.s3 i j i1 ij j2, fun i j i1 ij j2 => by rw [HP1.out.out i (.inr (by omega)), HP1.out.out j (.inr (by omega))]; exact SPH.out.s4 i j i1 ij j2⟩)
                go_wp2_with fail
                all_goals
                  refine (C2.out _ D4.out G4.out).mono ?_
                  rintro _ w6 ⟨rfl, ⟨f2, P2, S2, D5⟩, G5⟩
                  have R := hidp (show Mgd W w6 B g n ls f a b from ⟨⟨f2, RP2.out.trans ((HP1.out.wider (Nat.le_refl _) (by omega)).trans (P2.wider (by omega) (Nat.le_refl _))), joined (lvF ls) SPH.out.cr HP1.out HS1.out P2 S2, D5⟩, G4.out.trans G5⟩)
                  clear P2 S2 D5 G5 C2
                  go_wp2_with fail
                  all_goals go_end0
                  all_goals exact ⟨rfl, R.out⟩
              · have S2 := hidp (show Srt (key (lvF ls)) h0 mid b from fun i j i1 ij j2 => by
                  rw [HP1.out.out i (.inr i1), HP1.out.out j (.inr (by omega))]
                  by_cases c : e = mid
                  · have := SPH.out.s4; rw [c] at this; exact this i j i1 ij j2
                  · have := SPH.out.s3; rw [show e = b by omega] at this; exact this i j i1 ij j2)
                have R := hidp (fun w6 (D5 : DS w6 B g n h0) (G5 : W.grownBy w6 (some g)) => show Mgd W w6 B g n ls f a b from ⟨⟨h0, RP2.out.trans (HP1.out.wider (Nat.le_refl _) (by omega)), joined (lvF ls) SPH.out.cr HP1.out HS1.out (Perm.refl h0 mid b) S2.out, D5⟩, G5⟩)
                rcases Nat.lt_or_ge mid e with hz1 | hz1
                · have hq1' : (mid : Int) < (e : Int) := by omega
                  have hq2' : ¬ (e : Int) < (b : Int) := by omega
                  clear hq
                  go_wp2_with fail
                  all_goals go_end0
                  all_goals exact ⟨rfl, R.out _ D4.out G4.out⟩
                · have hq1' : ¬ (mid : Int) < (e : Int) := by omega
                  clear hq
                  go_wp2_with fail
                  all_goals go_end0
                  all_goals exact ⟨rfl, R.out _ D4.out G4.out⟩

            · have hl1' : ¬ (a : Int) < (s : Int) := by omega
              clear hl
              by_cases hq : mid < e ∧ e < b
              · obtain ⟨hq1, hq2⟩ := hq
                have hq1' : (mid : Int) < (e : Int) := by omega
                have hq2' : (e : Int) < (b : Int) := by omega
                have C2 := hidp (fun w3 (D3 : DS w3 B g n h0) (G3 : W.grownBy w3 (some g)) => HIH.out mid e b h0 w3 (by omega) ⟨D3, H.out.c.grown G3, hq1, hq2, hbn, hn, fun i i1 i2 => mg_rg (RP2.out.trans (HP1.out.wider (Nat.le_refl _) (by omega))) H.out.rg i (by omega) i2, fun i j i1 i2 j1 j2 => by rw [HP1.out.out i (.inr i1), HP1.out.out j (.inr (by omega))]; exact SPH.out.l2 i j i1 i2 j1 j2, fun i j i1 ij j2 => by rw [HP1.out.out i (.inr i1), HP1.out.out j (.inr (by omega))]; exact SPH.out.s3 i j i1 ij j2, fun i j i1 ij j2 => by rw [HP1.out.out i (.inr (by omega)), HP1.out.out j (.inr (by omega))]; exact SPH.out.s4 i j i1 ij j2⟩)
                go_wp2_with fail
                all_goals
                  refine (C2.out _ D4.out G4.out).mono ?_
                  rintro _ w6 ⟨rfl, ⟨f2, P2, S2, D5⟩, G5⟩
                  have R := hidp (show Mgd W w6 B g n ls f a b from ⟨⟨f2, RP2.out.trans ((HP1.out.wider (Nat.le_refl _) (by omega)).trans (P2.wider (by omega) (Nat.le_refl _))), joined (lvF ls) SPH.out.cr HP1.out HS1.out P2 S2, D5⟩, G4.out.trans G5⟩)
                  clear P2 S2 D5 G5 C2
                  go_wp2_with fail
                  all_goals go_end0
                  all_goals exact ⟨rfl, R.out⟩
              · have S2 := hidp (show Srt (key (lvF ls)) h0 mid b from fun i j i1 ij j2 => by
                  rw [HP1.out.out i (.inr i1), HP1.out.out j (.inr (by omega))]
                  by_cases c : e = mid
                  · have := SPH.out.s4; rw [c] at this; exact this i j i1 ij j2
                  · have := SPH.out.s3; rw [show e = b by omega] at this; exact this i j i1 ij j2)
                have R := hidp (fun w6 (D5 : DS w6 B g n h0) (G5 : W.grownBy w6 (some g)) => show Mgd W w6 B g n ls f a b from ⟨⟨h0, RP2.out.trans (HP1.out.wider (Nat.le_refl _) (by omega)), joined (lvF ls) SPH.out.cr HP1.out HS1.out (Perm.refl h0 mid b) S2.out, D5⟩, G5⟩)
                rcases Nat.lt_or_ge mid e with hz1 | hz1
                · have hq1' : (mid : Int) < (e : Int) := by omega
                  have hq2' : ¬ (e : Int) < (b : Int) := by omega
                  clear hq
                  go_wp2_with fail
                  all_goals go_end0
                  all_goals exact ⟨rfl, R.out _ D4.out G4.out⟩
                · have hq1' : ¬ (mid : Int) < (e : Int) := by omega
                  clear hq
                  go_wp2_with fail
                  all_goals go_end0
                  all_goals exact ⟨rfl, R.out _ D4.out G4.out⟩


        · have hr3 : ¬ ((s : Int) < (m : Int) ∧ (m : Int) < (e : Int)) := by omega
          have D2 := hidp (show DS wr B g n h0 by rw [CID.out hrot]; exact D.out)
          have G2 := G
          clear CR CID D G
          rcases Nat.lt_or_ge s m with hx1 | hx1
          · have hr1' : (s : Int) < (m : Int) := by omega
            have hr2' : ¬ (m : Int) < (e : Int) := by omega
            clear hrot hr3
            -- the two halves
            by_cases hl : a < s ∧ s < mid
            · obtain ⟨hl1, hl2⟩ := hl
              have hl1' : (a : Int) < (s : Int) := by omega
              have hl2' : (s : Int) < (mid : Int) := by omega
              have C1 := hidp (fun w3 (D3 : DS w3 B g n h0) (G3 : W.grownBy w3 (some g)) => HIH.out a s mid h0 w3 (by omega) ⟨D3, H.out.c.grown G3, hl1, hl2, by omega, hn, fun i i1 i2 => mg_rg RP2.out H.out.rg i i1 (by omega), SPH.out.l1, SPH.out.s1, SPH.out.s2⟩)
              go_wp2_with fail
              refine (C1.out _ D2.out G2.out).mono ?_
              rintro _ w4 ⟨rfl, ⟨f1, P1, S1, D3⟩, G3⟩
              have HP1 := hidp P1
              have HS1 := hidp S1
              have D4 := hidp D3
              have G4 := hidp (G2.out.trans G3)
              clear P1 S1 D3 G3 D2 G2 C1
              by_cases hq : mid < e ∧ e < b
              · obtain ⟨hq1, hq2⟩ := hq
                have hq1' : (mid : Int) < (e : Int) := by omega
                have hq2' : (e : Int) < (b : Int) := by omega
                have C2 := hidp (fun w3 (D3 : DS w3 B g n f1) (G3 : W.grownBy w3 (some g)) => HIH.out mid e b f1 w3 (by omega) ⟨D3, H.out.c.grown G3, hq1, hq2, hbn, hn, fun i i1 i2 => mg_rg (RP2.out.trans (HP1.out.wider (Nat.le_refl _) (by omega))) H.out.rg i (by omega) i2, fun i j i1 i2 j1 j2 => by rw [HP1.out.out i (.inr i1), HP1.out.out j (.inr (by omega))]; exact SPH.out.l2 i j i1 i2 j1 j2, fun i j i1 ij j2 => by rw [HP1.out.out i (.inr i1), HP1.out.out j (.inr (by omega))]; exact SPH.out.s3 i j i1 ij j2, fun i j i1 ij j2 => by rw [HP1.out.out i (.inr (by omega)), HP1.out.out j (.inr (by omega))]; exact SPH.out.s4 i j i1 ij j2⟩)
                go_wp2_with fail
                all_goals
                  refine (C2.out _ D4.out G4.out).mono ?_
                  rintro _ w6 ⟨rfl, ⟨f2, P2, S2, D5⟩, G5⟩
                  have R := hidp (show Mgd W w6 B g n ls f a b from ⟨⟨f2, RP2.out.trans ((HP1.out.wider (Nat.le_refl _) (by omega)).trans (P2.wider (by omega) (Nat.le_refl _))), joined (lvF ls) SPH.out.cr HP1.out HS1.out P2 S2, D5⟩, G4.out.trans G5⟩)
                  clear P2 S2 D5 G5 C2
                  go_wp2_with fail
                  all_goals go_end0
                  all_goals exact ⟨rfl, R.out⟩
              · have S2 := hidp (show Srt (key (lvF ls)) f1 mid b from fun i j i1 ij j2 => by
                  rw [HP1.out.out i (.inr i1), HP1.out.out j (.inr (by omega))]
                  by_cases c : e = mid
                  · have := SPH.out.s4; rw [c] at this; exact this i j i1 ij j2
                  · have := SPH.out.s3; rw [show e = b by omega] at this; exact this i j i1 ij j2)
                have R := hidp (fun w6 (D5 : DS w6 B g n f1) (G5 : W.grownBy w6 (some g)) => show Mgd W w6 B g n ls f a b from ⟨⟨f1, RP2.out.trans (HP1.out.wider (Nat.le_refl _) (by omega)), joined (lvF ls) SPH.out.cr HP1.out HS1.out (Perm.refl f1 mid b) S2.out, D5⟩, G5⟩)
                rcases Nat.lt_or_ge mid e with hz1 | hz1
                · have hq1' : (mid : Int) < (e : Int) := by omega
                  have hq2' : ¬ (e : Int) < (b : Int) := by omega
                  clear hq
                  go_wp2_with fail
                  all_goals go_end0
                  all_goals exact ⟨rfl, R.out _ D4.out G4.out⟩
                · have hq1' : ¬ (mid : Int) < (e : Int) := by omega
                  clear hq
                  go_wp2_with fail
                  all_goals go_end0
                  all_goals exact ⟨rfl, R.out _ D4.out G4.out⟩

            · have S1 := hidp (show Srt (key (lvF ls)) h0 a mid by
                by_cases c : s = a
                · have := SPH.out.s2; rw [c] at this; exact this
                · have := SPH.out.s1; rw [show s = mid by omega] at this; exact this)
              have D4 := D2
              have G4 := G2
              have HP1 := hidp (Perm.refl h0 a mid)
              have HS1 := S1
              clear D2 G2 S1
              rcases Nat.lt_or_ge a s with hy1 | hy1
              · have hl1' : (a : Int) < (s : Int) := by omega
                have hl2' : ¬ (s : Int) < (mid : Int) := by omega
                clear hl
                by_cases hq : mid < e ∧ e < b
                · obtain ⟨hq1, hq2⟩ := hq
                  have hq1' : (mid : Int) < (e : Int) := by omega
                  have hq2' : (e : Int) < (b : Int) := by omega
                  have C2 := hidp (fun w3 (D3 : DS w3 B g n h0) (G3 : W.grownBy w3 (some g)) => HIH.out mid e b h0 w3 (by omega) ⟨D3, H.out.c.grown G3, hq1, hq2, hbn, hn, fun i i1 i2 => mg_rg (RP2.out.trans (HP1.out.wider (Nat.le_refl _) (by omega))) H.out.rg i (by omega) i2, fun i j i1 i2 j1 j2 => by rw [HP1.out.out i (.inr i1), HP1.out.out j (.inr (by omega))]; exact SPH.out.l2 i j i1 i2 j1 j2, fun i j i1 ij j2 => by rw [HP1.out.out i (.inr i1), HP1.out.out j (.inr (by omega))]; exact SPH.out.s3 i j i1 ij j2, fun i j i1 ij j2 => by rw [HP1.out.out i (.inr (by omega)), HP1.out.out j (.inr (by omega))]; exact SPH.out.s4 i j i1 ij j2⟩)
                  go_wp2_with fail
                  all_goals
                    refine (C2.out _ D4.out G4.out).mono ?_
                    rintro _ w6 ⟨rfl, ⟨f2, P2, S2, D5⟩, G5⟩
                    have R := hidp (show Mgd W w6 B g n ls f a b from ⟨⟨f2, RP2.out.trans ((HP1.out.wider (Nat.le_refl _) (by omega)).trans (P2.wider (by omega) (Nat.le_refl _))), joined (lvF ls) SPH.out.cr HP1.out HS1.out P2 S2, D5⟩, G4.out.trans G5⟩)
                    clear P2 S2 D5 G5 C2
                    go_wp2_with fail
                    all_goals go_end0
                    all_goals exact ⟨rfl, R.out⟩
                · have S2 := hidp (show Srt (key (lvF ls)) h0 mid b from fun i j i1 ij j2 => by
                    rw [HP1.out.out i (.inr i1), HP1.out.out j (.inr (by omega))]
                    by_cases c : e = mid
                    · have := SPH.out.s4; rw [c] at this; exact this i j i1 ij j2
                    · have := SPH.out.s3; rw [show e = b by omega] at this; exact this i j i1 ij j2)
                  have R := hidp (fun w6 (D5 : DS w6 B g n h0) (G5 : W.grownBy w6 (some g)) => show Mgd W w6 B g n ls f a b from ⟨⟨h0, RP2.out.trans (HP1.out.wider (Nat.le_refl _) (by omega)), joined (lvF ls) SPH.out.cr HP1.out HS1.out (Perm.refl h0 mid b) S2.out, D5⟩, G5⟩)
                  rcases Nat.lt_or_ge mid e with hz1 | hz1
                  · have hq1' : (mid : Int) < (e : Int) := by omega
                    have hq2' : ¬ (e : Int) < (b : Int) := by omega
                    clear hq
                    go_wp2_with fail
                    all_goals go_end0
                    all_goals exact ⟨rfl, R.out _ D4.out G4.out⟩
                  · have hq1' : ¬ (mid : Int) < (e : Int) := by omega
                    clear hq
                    go_wp2_with fail
                    all_goals go_end0
                    all_goals exact ⟨rfl, R.out _ D4.out G4.out⟩

              · have hl1' : ¬ (a : Int) < (s : Int) := by omega
                clear hl
                by_cases hq : mid < e ∧ e < b
                · obtain ⟨hq1, hq2⟩ := hq
                  have hq1' : (mid : Int) < (e : Int) := by omega
                  have hq2' : (e : Int) < (b : Int) := by omega
                  have C2 := hidp (fun w3 (D3 : DS w3 B g n h0) (G3 : W.grownBy w3 (some g)) => HIH.out mid e b h0 w3 (by omega) ⟨D3, H.out.c.grown G3, hq1, hq2, hbn, hn, fun i i1 i2 => mg_rg (RP2.out.trans (HP1.out.wider (Nat.le_refl _) (by omega))) H.out.rg i (by omega) i2, fun i j i1 i2 j1 j2 => by rw [HP1.out.out i (.inr i1), HP1.out.out j (.inr (by omega))]; exact SPH.out.l2 i j i1 i2 j1 j2, fun i j i1 ij j2 => by rw [HP1.out.out i (.inr i1), HP1.out.out j (.inr (by omega))]; exact SPH.out.s3 i j i1 ij j2, fun i j i1 ij j2 => by rw [HP1.out.out i (.inr (by omega)), HP1.out.out j (.inr (by omega))]; exact SPH.out.s4 i j i1 ij j2⟩)
                  go_wp2_with fail
                  all_goals
                    refine (C2.out _ D4.out G4.out).mono ?_
                    rintro _ w6 ⟨rfl, ⟨f2, P2, S2, D5⟩, G5⟩
                    have R := hidp (show Mgd W w6 B g n ls f a b from ⟨⟨f2, RP2.out.trans ((HP1.out.wider (Nat.le_refl _) (by omega)).trans (P2.wider (by omega) (Nat.le_refl _))), joined (lvF ls) SPH.out.cr HP1.out HS1.out P2 S2, D5⟩, G4.out.trans G5⟩)
                    clear P2 S2 D5 G5 C2
                    go_wp2_with fail
                    all_goals go_end0
                    all_goals exact ⟨rfl, R.out⟩
                · have S2 := hidp (show Srt (key (lvF ls)) h0 mid b from fun i j i1 ij j2 => by
                    rw [HP1.out.out i (.inr i1), HP1.out.out j (.inr (by omega))]
                    by_cases c : e = mid
                    · have := SPH.out.s4; rw [c] at this; exact this i j i1 ij j2
                    · have := SPH.out.s3; rw [show e = b by omega] at this; exact this i j i1 ij j2)
                  have R := hidp (fun w6 (D5 : DS w6 B g n h0) (G5 : W.grownBy w6 (some g)) => show Mgd W w6 B g n ls f a b from ⟨⟨h0, RP2.out.trans (HP1.out.wider (Nat.le_refl _) (by omega)), joined (lvF ls) SPH.out.cr HP1.out HS1.out (Perm.refl h0 mid b) S2.out, D5⟩, G5⟩)
                  rcases Nat.lt_or_ge mid e with hz1 | hz1
                  · have hq1' : (mid : Int) < (e : Int) := by omega
                    have hq2' : ¬ (e : Int) < (b : Int) := by omega
                    clear hq
                    go_wp2_with fail
                    all_goals go_end0
                    all_goals exact ⟨rfl, R.out _ D4.out G4.out⟩
                  · have hq1' : ¬ (mid : Int) < (e : Int) := by omega
                    clear hq
                    go_wp2_with fail
                    all_goals go_end0
                    all_goals exact ⟨rfl, R.out _ D4.out G4.out⟩


          · have hr1' : ¬ (s : Int) < (m : Int) := by omega
            clear hrot hr3
            -- the two halves
            by_cases hl : a < s ∧ s < mid
            · obtain ⟨hl1, hl2⟩ := hl
              have hl1' : (a : Int) < (s : Int) := by omega
              have hl2' : (s : Int) < (mid : Int) := by omega
              have C1 := hidp (fun w3 (D3 : DS w3 B g n h0) (G3 : W.grownBy w3 (some g)) => HIH.out a s mid h0 w3 (by omega) ⟨D3, H.out.c.grown G3, hl1, hl2, by omega, hn, fun i i1 i2 => mg_rg RP2.out H.out.rg i i1 (by omega), SPH.out.l1, SPH.out.s1, SPH.out.s2⟩)
              go_wp2_with fail
              refine (C1.out _ D2.out G2.out).mono ?_
              rintro _ w4 ⟨rfl, ⟨f1, P1, S1, D3⟩, G3⟩
              have HP1 := hidp P1
              have HS1 := hidp S1
              have D4 := hidp D3
              have G4 := hidp (G2.out.trans G3)
              clear P1 S1 D3 G3 D2 G2 C1
              by_cases hq : mid < e ∧ e < b
              · obtain ⟨hq1, hq2⟩ := hq
                have hq1' : (mid : Int) < (e : Int) := by omega
                have hq2' : (e : Int) < (b : Int) := by omega
                have C2 := hidp (fun w3 (D3 : DS w3 B g n f1) (G3 : W.grownBy w3 (some g)) => HIH.out mid e b f1 w3 (by omega) ⟨D3, H.out.c.grown G3, hq1, hq2, hbn, hn, fun i i1 i2 => mg_rg (RP2.out.trans (HP1.out.wider (Nat.le_refl _) (by omega))) H.out.rg i (by omega) i2, fun i j i1 i2 j1 j2 => by rw [HP1.out.out i (.inr i1), HP1.out.out j (.inr (by omega))]; exact SPH.out.l2 i j i1 i2 j1 j2, fun i j i1 ij j2 => by rw [HP1.out.out i (.inr i1), HP1.out.out j (.inr (by omega))]; exact SPH.out.s3 i j i1 ij j2, fun i j i1 ij j2 => by rw [HP1.out.out i (.inr (by omega)), HP1.out.out j (.inr (by omega))]; exact SPH.out.s4 i j i1 ij j2⟩)
                go_wp2_with fail
                all_goals
                  refine (C2.out _ D4.out G4.out).mono ?_
                  rintro _ w6 ⟨rfl, ⟨f2, P2, S2, D5⟩, G5⟩
                  have R := hidp (show Mgd W w6 B g n ls f a b from ⟨⟨f2, RP2.out.trans ((HP1.out.wider (Nat.le_refl _) (by omega)).trans (P2.wider (by omega) (Nat.le_refl _))), joined (lvF ls) SPH.out.cr HP1.out HS1.out P2 S2, D5⟩, G4.out.trans G5⟩)
                  clear P2 S2 D5 G5 C2
                  go_wp2_with fail
                  all_goals go_end0
                  all_goals exact ⟨rfl, R.out⟩
              · have S2 := hidp (show Srt (key (lvF ls)) f1 mid b from fun i j i1 ij j2 => by
                  rw [HP1.out.out i (.inr i1), HP1.out.out j (.inr (by omega))]
                  by_cases c : e = mid
                  · have := SPH.out.s4; rw [c] at this; exact this i j i1 ij j2
                  · have := SPH.out.s3; rw [show e = b by omega] at this; exact this i j i1 ij j2)
                have R := hidp (fun w6 (D5 : DS w6 B g n f1) (G5 : W.grownBy w6 (some g)) => show Mgd W w6 B g n ls f a b from ⟨⟨f1, RP2.out.trans (HP1.out.wider (Nat.le_refl _) (by omega)), joined (lvF ls) SPH.out.cr HP1.out HS1.out (Perm.refl f1 mid b) S2.out, D5⟩, G5⟩)
                rcases Nat.lt_or_ge mid e with hz1 | hz1
                · have hq1' : (mid : Int) < (e : Int) := by omega
                  have hq2' : ¬ (e : Int) < (b : Int) := by omega
                  clear hq
                  go_wp2_with fail
                  all_goals go_end0
                  all_goals exact ⟨rfl, R.out _ D4.out G4.out⟩
                · have hq1' : ¬ (mid : Int) < (e : Int) := by omega
                  clear hq
                  go_wp2_with fail
                  all_goals go_end0
                  all_goals exact ⟨rfl, R.out _ D4.out G4.out⟩

            · have S1 := hidp (show Srt (key (lvF ls)) h0 a mid by
                by_cases c : s = a
                · have := SPH.out.s2; rw [c] at this; exact this
                · have := SPH.out.s1; rw [show s = mid by omega] at this; exact this)
              have D4 := D2
              have G4 := G2
              have HP1 := hidp (Perm.refl h0 a mid)
              have HS1 := S1
              clear D2 G2 S1
              rcases Nat.lt_or_ge a s with hy1 | hy1
              · have hl1' : (a : Int) < (s : Int) := by omega
                have hl2' : ¬ (s : Int) < (mid : Int) := by omega
                clear hl
                by_cases hq : mid < e ∧ e < b
                · obtain ⟨hq1, hq2⟩ := hq
                  have hq1' : (mid : Int) < (e : Int) := by omega
                  have hq2' : (e : Int) < (b : Int) := by omega
                  have C2 := hidp (fun w3 (D3 : DS w3 B g n h0) (G3 : W.grownBy w3 (some g)) => HIH.out mid e b h0 w3 (by omega) ⟨D3, H.out.c.grown G3, hq1, hq2, hbn, hn, fun i i1 i2 => mg_rg (RP2.out.trans (HP1.out.wider (Nat.le_refl _) (by omega))) H.out.rg i (by omega) i2, fun i j i1 i2 j1 j2 => by rw [HP1.out.out i (.inr i1), HP1.out.out j (.inr (by omega))]; exact SPH.out.l2 i j i1 i2 j1 j2, fun i j i1 ij j2 => by rw [HP1.out.out i (.inr i1), HP1.out.out j (.inr (by omega))]; exact SPH.out.s3 i j i1 ij j2, fun i j i1 ij j2 => by rw [HP1.out.out i (.inr (by omega)), HP1.out.out j (.inr (by omega))]; exact SPH.out.s4 i j i1 ij j2⟩)
                  go_wp2_with fail
                  all_goals
                    refine (C2.out _ D4.out G4.out).mono ?_
                    rintro _ w6 ⟨rfl, ⟨f2, P2, S2, D5⟩, G5⟩
                    have R := hidp (show Mgd W w6 B g n ls f a b from ⟨⟨f2, RP2.out.trans ((HP1.out.wider (Nat.le_refl _) (by omega)).trans (P2.wider (by omega) (Nat.le_refl _))), joined (lvF ls) SPH.out.cr HP1.out HS1.out P2 S2, D5⟩, G4.out.trans G5⟩)
                    clear P2 S2 D5 G5 C2
                    go_wp2_with fail
                    all_goals go_end0
                    all_goals exact ⟨rfl, R.out⟩
                · have S2 := hidp (show Srt (key (lvF ls)) h0 mid b from fun i j i1 ij j2 => by
                    rw [HP1.out.out i (.inr i1), HP1.out.out j (.inr (by omega))]
                    by_cases c : e = mid
                    · have := SPH.out.s4; rw [c] at this; exact this i j i1 ij j2
                    · have := SPH.out.s3; rw [show e = b by omega] at this; exact this i j i1 ij j2)
                  have R := hidp (fun w6 (D5 : DS w6 B g n h0) (G5 : W.grownBy w6 (some g)) => show Mgd W w6 B g n ls f a b from ⟨⟨h0, RP2.out.trans (HP1.out.wider (Nat.le_refl _) (by omega)), joined (lvF ls) SPH.out.cr HP1.out HS1.out (Perm.refl h0 mid b) S2.out, D5⟩, G5⟩)
                  rcases Nat.lt_or_ge mid e with hz1 | hz1
                  · have hq1' : (mid : Int) < (e : Int) := by omega
                    have hq2' : ¬ (e : Int) < (b : Int) := by omega
                    clear hq
                    go_wp2_with fail
                    all_goals go_end0
                    all_goals exact ⟨rfl, R.out _ D4.out G4.out⟩
                  · have hq1' : ¬ (mid : Int) < (e : Int) := by omega
                    clear hq
                    go_wp2_with fail
                    all_goals go_end0
                    all_goals exact ⟨rfl, R.out _ D4.out G4.out⟩

              · have hl1' : ¬ (a : Int) < (s : Int) := by omega
                clear hl
                by_cases hq : mid < e ∧ e < b
                · obtain ⟨hq1, hq2⟩ := hq
                  have hq1' : (mid : Int) < (e : Int) := by omega
                  have hq2' : (e : Int) < (b : Int) := by omega
                  have C2 := hidp (fun w3 (D3 : DS w3 B g n h0) (G3 : W.grownBy w3 (some g)) => HIH.out mid e b h0 w3 (by omega) ⟨D3, H.out.c.grown G3, hq1, hq2, hbn, hn, fun i i1 i2 => mg_rg (RP2.out.trans (HP1.out.wider (Nat.le_refl _) (by omega))) H.out.rg i (by omega) i2, fun i j i1 i2 j1 j2 => by rw [HP1.out.out i (.inr i1), HP1.out.out j (.inr (by omega))]; exact SPH.out.l2 i j i1 i2 j1 j2, fun i j i1 ij j2 => by rw [HP1.out.out i (.inr i1), HP1.out.out j (.inr (by omega))]; exact SPH.out.s3 i j i1 ij j2, fun i j i1 ij j2 => by rw [HP1.out.out i (.inr (by omega)), HP1.out.out j (.inr (by omega))]; exact SPH.out.s4 i j i1 ij j2⟩)
                  go_wp2_with fail
                  all_goals
                    refine (C2.out _ D4.out G4.out).mono ?_
                    rintro _ w6 ⟨rfl, ⟨f2, P2, S2, D5⟩, G5⟩
                    have R := hidp (show Mgd W w6 B g n ls f a b from ⟨⟨f2, RP2.out.trans ((HP1.out.wider (Nat.le_refl _) (by omega)).trans (P2.wider (by omega) (Nat.le_refl _))), joined (lvF ls) SPH.out.cr HP1.out HS1.out P2 S2, D5⟩, G4.out.trans G5⟩)
                    clear P2 S2 D5 G5 C2
                    go_wp2_with fail
                    all_goals go_end0
                    all_goals exact ⟨rfl, R.out⟩
                · have S2 := hidp (show Srt (key (lvF ls)) h0 mid b from fun i j i1 ij j2 => by
                    rw [HP1.out.out i (.inr i1), HP1.out.out j (.inr (by omega))]
                    by_cases c : e = mid
                    · have := SPH.out.s4; rw [c] at this; exact this i j i1 ij j2
                    · have := SPH.out.s3; rw [show e = b by omega] at this; exact this i j i1 ij j2)
                  have R := hidp (fun w6 (D5 : DS w6 B g n h0) (G5 : W.grownBy w6 (some g)) => show Mgd W w6 B g n ls f a b from ⟨⟨h0, RP2.out.trans (HP1.out.wider (Nat.le_refl _) (by omega)), joined (lvF ls) SPH.out.cr HP1.out HS1.out (Perm.refl h0 mid b) S2.out, D5⟩, G5⟩)
                  rcases Nat.lt_or_ge mid e with hz1 | hz1
                  · have hq1' : (mid : Int) < (e : Int) := by omega
                    have hq2' : ¬ (e : Int) < (b : Int) := by omega
                    clear hq
                    go_wp2_with fail
                    all_goals go_end0
                    all_goals exact ⟨rfl, R.out _ D4.out G4.out⟩
                  · have hq1' : ¬ (mid : Int) < (e : Int) := by omega
                    clear hq
                    go_wp2_with fail
                    all_goals go_end0
                    all_goals exact ⟨rfl, R.out _ D4.out G4.out⟩



/-- The merge, whatever is merged. -/
theorem sym_c (B g n P : Nat) (al : Option Addr) (cl : Nat) (ls : List Int) : ∀ (N a m b : Nat) (f : Nat → Int) (W : World), b - a ≤ N → Mg W B g n P al cl ls f a m b →
    Calls Tryz.prog 172 #[.slice (some ⟨g, 0, none⟩) n n, .int .i64 (a : Nat), .int .i64 (m : Nat), .int .i64 (b : Nat), cmpV P] W fun e w' => e = .returned (.tuple #[]) ∧ Mgd W w' B g n ls f a b
  | 0, a, m, b, f, W, h, hm => by have := hm.am; have := hm.mb; omega
  | N + 1, a, m, b, f, W, h, hm => by
    have h1 := hm.am
    have h2 := hm.mb
    by_cases c1 : m = a + 1
    · subst c1; exact sym1_c B g n P a b al cl ls f W hm
    · by_cases c2 : b = m + 1
      · subst c2; exact sym2_c B g n P a m al cl ls f W hm (by omega)
      · exact sym3_c B g n P a m b al cl ls f W hm (by omega) (by omega) (fun a' m' b' f' W' hlt hm' => sym_c B g n P al cl ls N a' m' b' f' W' (by omega) hm')
end Go.Proofs.YtgodgfnfaiiohaaGreatDoor
