/- Contracts of slices.stableCmpFunc and slices.SortStableFunc at integers, at up to forty places. -/
import Derived.Test.YtfhmckmglkjbeaaStabD
import Derived.Test.YtfhmckmglkjbeaaFairMath
namespace Go.Proofs.Ytfhmckmglkjbeaa
open Go.ChangeShapes Go.WideShapes Go.ChangeAt Go.RowKit
open Stab
set_option maxRecDepth 20000
theorem Srt.id (lv : Int → Int) (f : Nat → Int) (a : Nat) : Srt (key lv) f a a := fun i j h1 h2 h3 => by omega
set_option maxHeartbeats 8000000 in
theorem stab_c (B g n P : Nat) (al : Option Addr) (cl : Nat) (ls : List Int) (f : Nat → Int) (W : World) (hd : DS W B g n f) (hc : Cx W g P al n cl ls) (hn : n ≤ 40) (hf : ∀ i, i < n → f i = i) :
    Calls Try.prog 57 #[.slice (some ⟨g, 0, none⟩) n n, .int .i64 (n : Nat), cmpV P] W fun e w' => e = .returned (.tuple #[]) ∧ Mgd W w' B g n ls f 0 n := by
  rcases Nat.lt_or_ge n 20 with c1 | c1
  · -- one block, not full
    have C1 := hidp (insort_c B g n P 0 n al cl ls f W hd hc (by omega) (Nat.le_refl _) hn (fun i _ h => hf i h))
    have c1' : ¬ (20 : Int) ≤ (n : Int) := by omega
    have c2' : ¬ (20 : Int) < (n : Int) := by omega
    unfold cmpV at *
    clear hd hc hf
    go_enter Try.func57, Try.ntmps57
    go_wp2_with fail
    refine wp_loop_rounds 1 ?_; rw [rounds_succ]
    go_wp2_with fail
    refine C1.out.mono ?_
    rintro e w1 ⟨rfl, hM⟩
    have HM := hidp hM
    clear hM
    go_wp2_with fail
    refine wp_loop_rounds 1 ?_; rw [rounds_succ]
    go_wp2_with fail
    go_end0
    exact ⟨rfl, HM.out⟩
  · rcases Nat.lt_or_ge n 40 with c2 | c2
    · have C1 := hidp (insort_c B g n P 0 20 al cl ls f W hd hc (by omega) c1 hn (fun i _ h => hf i (by omega)))
      have C2 := hidp (fun h W' (hp : Perm f h 0 20) (D : DS W' B g n h) (G : W.grownBy W' (some g)) => insort_c B g n P 20 n al cl ls h W' D (hc.grown G) c1 (Nat.le_refl _) hn (fun i i1 i2 => (hp.out i (.inr i1)).trans (hf i i2)))
      have C3 := hidp (fun h1 h W' (hp : Perm f h1 0 20) (s1 : Srt (key (lvF ls)) h1 0 20) (hp2 : Perm h1 h 20 n) (s2 : Srt (key (lvF ls)) h 20 n) (D : DS W' B g n h) (G : W.grownBy W' (some g)) (hlt : 20 < n) => by
        have r1 := fun i (h1' : 0 ≤ i) (h2 : i < 20) => perm_in hp (fun k _ k2 => hf k (by omega)) i h1' h2
        have r2 := fun i (h1' : 20 ≤ i) (h2 : i < n) => perm_in hp2 (fun k k1 k2 => (hp.out k (.inr k1)).trans (hf k k2)) i h1' h2
        have e1 : ∀ i, i < 20 → h i = h1 i := fun i hi => hp2.out i (.inl hi)
        exact sym_c B g n P al cl ls n 0 20 n h W' (by omega) ⟨D, hc.grown G, by omega, hlt, Nat.le_refl _, hn, fun i _ i2 => by
          rcases Nat.lt_or_ge i 20 with c | c
          · rw [e1 i c]; have := r1 i (Nat.zero_le _) c; omega
          · have := r2 i c i2; omega, fun i j _ i2 j1 j2 => by
          rw [e1 i i2]; have := r1 i (Nat.zero_le _) i2; have := r2 j j1 j2; omega, fun i j _ ij j2 => by rw [e1 i (by omega), e1 j j2]; exact s1 i j (Nat.zero_le _) ij j2, s2⟩)
      have FIN := hidp (fun (h1 h h2 : Nat → Int) (hp : Perm f h1 0 20) (hp2 : Perm h1 h 20 n) (hp3 : Perm h h2 0 n) => show Perm f h2 0 n from ((hp.wider (Nat.le_refl _) c1).trans (hp2.wider (by omega) (Nat.le_refl _))).trans hp3)
      have FI2 := hidp (fun (h1 h : Nat → Int) (hp : Perm f h1 0 20) (hp2 : Perm h1 h 20 n) => show Perm f h 0 n from (hp.wider (Nat.le_refl _) c1).trans (hp2.wider (by omega) (Nat.le_refl _)))
      have i1 : (20 : Int) ≤ (n : Int) := by omega
      have i2 : ¬ (40 : Int) ≤ (n : Int) := by omega
      have i3 : ¬ (40 : Int) < (n : Int) := by omega
      unfold cmpV at *
      clear hd hc hf
      go_enter Try.func57, Try.ntmps57
      go_wp2_with fail
      refine wp_loop_rounds 2 ?_; rw [rounds_succ]
      go_wp2_with fail
      refine C1.out.mono ?_
      rintro e w1 ⟨rfl, ⟨h1, P1, S1, D1⟩, G1⟩
      have HP1 := hidp P1
      have HS1 := hidp S1
      have D1' := hidp D1
      have G1' := hidp G1
      clear P1 S1 D1 G1 C1
      go_wp2_with fail
      rw [rounds_succ]
      go_wp2_with fail
      refine (C2.out _ _ HP1.out D1'.out G1'.out).mono ?_
      rintro e w2 ⟨rfl, ⟨h2, P2, S2, D2⟩, G2⟩
      have HP2 := hidp P2
      have HS2 := hidp S2
      have D2' := hidp D2
      have G2' := hidp (G1'.out.trans G2)
      clear P2 S2 D2 G2 C2 D1' G1'
      by_cases hlt : 20 < n
      · have i4 : (20 : Int) < (n : Int) := by omega
        go_wp2_with fail
        refine wp_loop_rounds 2 ?_; rw [rounds_succ]
        go_wp2_with fail
        refine wp_loop_rounds 1 ?_; rw [rounds_succ]
        go_wp2_with fail
        refine (C3.out _ _ _ HP1.out HS1.out HP2.out HS2.out D2'.out G2'.out hlt).mono ?_
        rintro e w3 ⟨rfl, ⟨h3, P3, S3, D3⟩, G3⟩
        have R := hidp (show Mgd W w3 B g n ls f 0 n from ⟨⟨h3, FIN.out _ _ _ HP1.out HP2.out P3, S3, D3⟩, G2'.out.trans G3⟩)
        clear P3 S3 D3 G3
        go_wp2_with fail
        rw [rounds_succ]
        go_wp2_with fail
        go_end0
        exact ⟨rfl, R.out⟩
      · obtain rfl : n = 20 := by omega
        have R := hidp (show Mgd W w2 B g 20 ls f 0 20 from ⟨⟨h2, FI2.out _ _ HP1.out HP2.out, fun i j a1 a2 a3 => by
          rw [HP2.out.out i (.inl (by omega)), HP2.out.out j (.inl a3)]; exact HS1.out i j a1 a2 a3, D2'.out⟩, G2'.out⟩)
        go_wp2_with fail
        refine wp_loop_rounds 1 ?_; rw [rounds_succ]
        go_wp2_with fail
        go_end0
        exact ⟨rfl, R.out⟩
    · obtain rfl : n = 40 := by omega
      have C1 := hidp (insort_c B g 40 P 0 20 al cl ls f W hd hc (by omega) (by omega) hn (fun i _ h => hf i (by omega)))
      have C2 := hidp (fun h W' (hp : Perm f h 0 20) (D : DS W' B g 40 h) (G : W.grownBy W' (some g)) => insort_c B g 40 P 20 40 al cl ls h W' D (hc.grown G) (by omega) (Nat.le_refl _) hn (fun i i1 i2 => (hp.out i (.inr i1)).trans (hf i i2)))
      have C4 := hidp (fun h W' (D : DS W' B g 40 h) (G : W.grownBy W' (some g)) => insort_c B g 40 P 40 40 al cl ls h W' D (hc.grown G) (by omega) (Nat.le_refl _) hn (fun i i1 i2 => by omega))
      have C3 := hidp (fun h1 h W' (hp : Perm f h1 0 20) (s1 : Srt (key (lvF ls)) h1 0 20) (hp2 : Perm h1 h 20 40) (s2 : Srt (key (lvF ls)) h 20 40) (D : DS W' B g 40 h) (G : W.grownBy W' (some g)) => by
        have r1 := fun i (h1' : 0 ≤ i) (h2 : i < 20) => perm_in hp (fun k _ k2 => hf k (by omega)) i h1' h2
        have r2 := fun i (h1' : 20 ≤ i) (h2 : i < 40) => perm_in hp2 (fun k k1 k2 => (hp.out k (.inr k1)).trans (hf k k2)) i h1' h2
        have e1 : ∀ i, i < 20 → h i = h1 i := fun i hi => hp2.out i (.inl hi)
        exact sym_c B g 40 P al cl ls 40 0 20 40 h W' (by omega) ⟨D, hc.grown G, by omega, by omega, Nat.le_refl _, hn, fun i _ i2 => by
          rcases Nat.lt_or_ge i 20 with c | c
          · rw [e1 i c]; have := r1 i (Nat.zero_le _) c; omega
          · have := r2 i c i2; omega, fun i j _ i2 j1 j2 => by
          rw [e1 i i2]; have := r1 i (Nat.zero_le _) i2; have := r2 j j1 j2; omega, fun i j _ ij j2 => by rw [e1 i (by omega), e1 j j2]; exact s1 i j (Nat.zero_le _) ij j2, s2⟩)
      unfold cmpV at *
      clear hd hc hf
      go_enter Try.func57, Try.ntmps57
      go_wp2_with fail
      refine wp_loop_rounds 3 ?_; rw [rounds_succ]
      go_wp2_with fail
      refine C1.out.mono ?_
      rintro e w1 ⟨rfl, ⟨h1, P1, S1, D1⟩, G1⟩
      have HP1 := hidp P1
      have HS1 := hidp S1
      have D1' := hidp D1
      have G1' := hidp G1
      clear P1 S1 D1 G1 C1
      go_wp2_with fail
      rw [rounds_succ]
      go_wp2_with fail
      refine (C2.out _ _ HP1.out D1'.out G1'.out).mono ?_
      rintro e w2 ⟨rfl, ⟨h2, P2, S2, D2⟩, G2⟩
      have HP2 := hidp P2
      have HS2 := hidp S2
      have D2' := hidp D2
      have G2' := hidp (G1'.out.trans G2)
      clear P2 S2 D2 G2 C2 D1' G1'
      go_wp2_with fail
      rw [rounds_succ]
      go_wp2_with fail
      refine (C4.out _ _ D2'.out G2'.out).mono ?_
      rintro e w3 ⟨rfl, ⟨h3, P3, S3, D3⟩, G3⟩
      have e3 : h3 = h2 := funext (fun i => P3.out i (by omega))
      subst e3
      have D3' := hidp D3
      have G3' := hidp (G2'.out.trans G3)
      clear P3 S3 D3 G3 D2' G2'
      go_wp2_with fail
      refine wp_loop_rounds 2 ?_; rw [rounds_succ]
      go_wp2_with fail
      refine wp_loop_rounds 2 ?_; rw [rounds_succ]
      go_wp2_with fail
      refine (C3.out _ _ _ HP1.out HS1.out HP2.out HS2.out D3'.out G3'.out).mono ?_
      rintro e w4 ⟨rfl, ⟨h4, P4, S4, D4⟩, G4⟩
      have R := hidp (show Mgd W w4 B g 40 ls f 0 40 from ⟨⟨h4, ((HP1.out.wider (Nat.le_refl _) (by omega)).trans (HP2.out.wider (by omega) (Nat.le_refl _))).trans P4, S4, D4⟩, G3'.out.trans G4⟩)
      clear P4 S4 D4 G4
      go_wp2_with fail
      rw [rounds_succ]
      go_wp2_with fail
      rw [rounds_succ]
      go_wp2_with fail
      go_end0
      exact ⟨rfl, R.out⟩
theorem sortst_c (B g n P : Nat) (al : Option Addr) (cl : Nat) (ls : List Int) (f : Nat → Int) (W : World) (hd : DS W B g n f) (hc : Cx W g P al n cl ls) (hn : n ≤ 40) (hf : ∀ i, i < n → f i = i) :
    Calls Try.prog 42 #[.slice (some ⟨g, 0, none⟩) n n, cmpV P] W fun e w' => e = .returned (.tuple #[]) ∧ Mgd W w' B g n ls f 0 n := by
  have C := hidp (stab_c B g n P al cl ls f W hd hc hn hf)
  unfold cmpV at *
  clear hd hc hf
  go_enter Try.func42, Try.ntmps42
  go_wp2_with fail
  refine C.out.mono ?_
  rintro e w1 ⟨rfl, hM⟩
  have HM := hidp hM
  clear hM
  go_wp2_with fail
  go_end0
  exact ⟨rfl, HM.out⟩
end Go.Proofs.Ytfhmckmglkjbeaa
