/- The walk of FairAll: the law returns true at all inputs, and no old memory changes. -/
import Derived.Test.YtmlkhiffmkkmdaaFair
import Derived.Test.YtmlkhiffmkkmdaaSum
import Derived.Test.YtmlkhiffmkkmdaaEqI
namespace Go.Proofs.Ytmlkhiffmkkmdaa.fairAll
open Go.ChangeShapes Go.WideShapes Go.ChangeAt Go.RowKit
open Go.Proofs.Ytmlkhiffmkkmdaa
set_option maxRecDepth 20000
theorem ex : tab (FairM.fairF [4, 4, 4] 3 10) 3 = [3, 3, 4] := by decide +kernel
theorem sumK_sm (xs : List Int) : ∀ n, sumK xs n = FairM.sm (gi xs) n
  | 0 => rfl
  | n + 1 => by simp only [sumK, FairM.sm]; rw [sumK_sm xs n]
theorem sumK_tab (f : Nat → Int) (N : Nat) : ∀ n, n ≤ N → sumK (tab f N) n = FairM.sm f n
  | 0, _ => rfl
  | n + 1, h => by simp only [sumK, FairM.sm]; rw [sumK_tab f N n (by omega), tab_gi _ _ _ (by omega)]
set_option linter.unusedVariables false
set_option maxHeartbeats 4000000 in
theorem walk (room : Int) (a1 : Option Addr) (len1 cap1 : Nat) (z1 : List Int) (w : World)
    (w0 : (Lit.int .i64 room).wf = true) (w1 : IntsAt w a1 len1 cap1 z1) :
    Calls Try.prog 5 #[.int .i64 room, .slice a1 len1 cap1] w fun e w' => e = .returned (.bool true) ∧ Below w.heap.size w w' := by
  have mm := w1.max
  have ee := w1.le
  have H := hidp w1
  have i0 : IntsAt (w.alloc (.cells #[.int .i64 4, .int .i64 4, .int .i64 4] 3)) (some ⟨w.heap.size, 0, none⟩) 3 3 [4, 4, 4] := ints_lit [4, 4, 4] rfl rfl rfl (by simp) (by omega)
  have F0 := fair_c 10 _ 3 3 [4, 4, 4] _ i0 (wantE_ok _ _ (by omega) (by decide)) (by omega) (by omega)
  rw [ex] at F0
  have F0' := hidp F0
  clear w0 w1 i0 F0
  go_enter Try.func5, Try.ntmps5
  go_wp2_with fail
  refine F0'.out.mono ?_
  rintro e wa ⟨v, rfl, hv, hba⟩
  obtain ⟨ax, cx, rfl, hX⟩ := owns_ints hv (by simp)
  have hwa := bstep (bal (Below.refl w.heap.size w) (.cells #[.int .i64 4, .int .i64 4, .int .i64 4] 3)) hba
  have hbl := bal (Below.refl wa.heap.size wa) (.cells #[.int .i64 3, .int .i64 3, .int .i64 4] 3)
  have EQ := equali_c ax (some ⟨wa.heap.size, 0, none⟩) 3 3 cx 3 [3, 3, 4] [3, 3, 4] _ (hX.below hbl) (ints_lit [3, 3, 4] rfl rfl rfl (by simp) (by omega))
  rw [decide_eq_true rfl] at EQ
  have EQ2 := hidp EQ
  have hwb := hidp (bstep hwa hbl)
  clear hv hX hba hwa hbl EQ F0'
  go_wp2_with fail
  refine EQ2.out.mono ?_
  rintro e wb ⟨rfl, hbb⟩
  have hwc := hidp (bstep hwb.out hbb)
  have HW := hidp (H.out.below hwc.out)
  clear hbb hwb
  by_cases hg : wantE z1 len1 = 0 ∧ 0 ≤ room ∧ room ≤ 1000000000000
  · obtain ⟨h1, h2, h3⟩ := hg
    obtain ⟨n40, hbd⟩ := wantE_zero z1 len1 h1
    have FC := hidp (fair_c room a1 len1 cap1 z1 wb HW.out h1 h2 h3)
    have FB := hidp (fun i (hi : i < len1) => FairM.fair_bd z1 len1 room h2 (fun i hi => (hbd i hi).1) i hi)
    have FS := hidp (FairM.fair_sum z1 len1 room h2 (fun i hi => (hbd i hi).1))
    have HBD := hidp hbd
    have SX := hidp (fun k (hk : k ≤ len1) => show 0 ≤ sumK (tab (FairM.fairF z1 len1 room) len1) k ∧ sumK (tab (FairM.fairF z1 len1 room) len1) k ≤ 1000000000000 * 40 from by
      have := sumK_bd (tab (FairM.fairF z1 len1 room) len1) 1000000000000 (by omega) k (fun i hi => by
        rw [tab_gi _ _ _ (by omega)]; have := FB.out i (by omega); have := HBD.out i (by omega); omega)
      refine ⟨?_, by omega⟩
      rw [sumK_tab _ _ _ hk]
      have : ∀ m, m ≤ len1 → 0 ≤ FairM.sm (FairM.fairF z1 len1 room) m := by
        intro m
        induction m with
        | zero => intro _; exact Int.le_refl _
        | succ m ih => intro h; have := ih (by omega); have := (FB.out m (by omega)).1; simp only [FairM.sm]; omega
      exact this k hk)
    have SZ := hidp (fun k (hk : k ≤ len1) => sumK_bd z1 1000000000000 (by omega) k (fun i hi => by have := HBD.out i (by omega); omega))
    clear hbd h1
    go_wp2_with fail
    refine FC.out.mono ?_
    rintro e wd ⟨v, rfl, hv, hbd⟩
    obtain ⟨ay, cy, rfl, hY⟩ := owns_ints hv (fun x hx => by
      obtain ⟨i, hi, rfl⟩ := tab_mem _ _ _ hx
      have := FB.out i hi; have := HBD.out i hi; omega)
    have YD := hidp hY
    have HD := hidp (HW.out.below hbd)
    have hwd := hidp (bstep hwc.out hbd)
    have SM1 := hidp (isum_c ay len1 cy _ wd hY (fun k hk => by have := SX.out k hk; omega))
    have SM2 := hidp (isum_c a1 len1 cap1 z1 wd HD.out (fun k hk => by have := SZ.out k hk; omega))
    have hle := hY.le
    have hmx := hY.max
    have E1 := hidp (show sumK (tab (FairM.fairF z1 len1 room) len1) len1 = min room (sumK z1 len1) by rw [sumK_tab _ _ _ (Nat.le_refl _), sumK_sm, FS.out])
    have hne : ((len1 : Int) != (len1 : Int)) = false := by simp
    rw [E1.out] at SM1
    have hne2 : ((min room (sumK z1 len1)) != (min room (sumK z1 len1))) = false := by simp
    have YC := hidp (fun i (hi : i < len1) => show 0 ≤ gi (tab (FairM.fairF z1 len1 room) len1) i ∧ gi (tab (FairM.fairF z1 len1 room) len1) i ≤ gi z1 i from by rw [tab_gi _ _ _ hi]; exact FB.out i hi)
    obtain ⟨y, hy⟩ : ∃ y, y = tab (FairM.fairF z1 len1 room) len1 := ⟨_, rfl⟩
    rw [← hy] at YD YC
    clear hv hY hbd hy E1 SX SZ FB FS FC
    go_wp2_with fail
    refine SM1.out.mono ?_
    rintro e w' ⟨rfl, rfl⟩
    go_wp2_with fail
    refine SM2.out.mono ?_
    rintro e w' ⟨rfl, rfl⟩
    go_wp2_with fail
    go_loopw [50] (fun i wr => ∃ k : Nat, k ≤ len1 ∧ i = .int .i64 k ∧ Below wd.heap.size wd wr) (fun i _ => len1 - (intOf i).toNat)
    case atStart => exact ⟨0, by omega, rfl, Below.refl _ _⟩
    case round =>
      obtain ⟨k, hk, rfl, hbl⟩ := hrel
      by_cases hlt : k < len1
      · obtain ⟨b, o, rfl, _, hc⟩ := (YD.out.below hbl).addr (by omega)
        obtain ⟨b', o', rfl, _, hc'⟩ := (HD.out.below hbl).addr (by omega)
        have q1 := hc k hlt
        have q2 := hc' k hlt
        obtain ⟨y1, y2⟩ := YC.out k hlt
        have y1' : ¬ gi y k < 0 := by omega
        have y2' : ¬ gi z1 k < gi y k := by omega
        have kI : (k : Int) < (len1 : Int) := by omega
        clear hc hc'
        generalize gi y k = yk at *
        generalize gi z1 k = zk at *
        go_wp2_with fail
        go_quiet (fail)
        go_wp2
        go_roundw
        case rel => exact ⟨k + 1, by omega, by go_num, below_drewN hbl _⟩
        case measure => simp [intOf]; omega
      · obtain rfl : k = len1 := by omega
        have hfin := bstep hwd.out hbl
        clear hbl
        go_wp2_with fail
        go_ret
        exact ⟨rfl, hfin⟩
  · have FC := hidp (fair_bad room a1 len1 cap1 z1 wb HW.out hg)
    clear hg
    go_wp2_with fail
    refine FC.out.mono ?_
    rintro e wd ⟨⟨E, hE, rfl⟩, hbd⟩
    have hne : (E != 0) = true := by simpa using hE
    have hfin := bstep hwc.out hbd
    clear hbd hE
    go_wp2_with fail
    go_ret
    exact ⟨rfl, hfin⟩
end Go.Proofs.Ytmlkhiffmkkmdaa.fairAll
