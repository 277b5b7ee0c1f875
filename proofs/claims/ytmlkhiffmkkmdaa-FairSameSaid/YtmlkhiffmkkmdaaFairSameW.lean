/- The walk of FairSame: the law returns true at all inputs, and no old memory changes. -/
import Derived.Test.YtmlkhiffmkkmdaaFair
import Derived.Test.YtmlkhiffmkkmdaaEqI
import Derived.Test.YtmlkhiffmkkmdaaSum
import Derived.Test.YtmlkhiffmkkmdaaMaxMin
import Derived.Test.YtmlkhiffmkkmdaaRepeat
namespace Go.Proofs.Ytmlkhiffmkkmdaa.fairSame
open Go.ChangeShapes Go.WideShapes Go.ChangeAt Go.RowKit
open Go.Proofs.Ytmlkhiffmkkmdaa
set_option maxRecDepth 20000
theorem ex : tab (FairM.fairF [5, 5] 2 7) 2 = [3, 4] := by decide +kernel
/-- What is wanted. -/
def sF (xs : List Int) (i : Nat) : Int := wi (gi xs i) 10000
theorem sF_bd (xs : List Int) (i : Nat) : 0 ≤ sF xs i ∧ sF xs i < 10000 := ⟨wi_lo _ _ (by omega), wi_hi _ _ (by omega)⟩
theorem sumK_sm (xs : List Int) : ∀ n, sumK xs n = FairM.sm (gi xs) n
  | 0 => rfl
  | n + 1 => by simp only [sumK, FairM.sm]; rw [sumK_sm xs n]
theorem all_eq (f g : Nat → Int) : ∀ n, (∀ i, i < n → f i ≤ g i) → FairM.sm f n = FairM.sm g n → ∀ i, i < n → f i = g i
  | 0, _, _, i, hi => absurd hi (Nat.not_lt_zero _)
  | n + 1, h, e, i, hi => by
    have le : ∀ m, m ≤ n + 1 → FairM.sm f m ≤ FairM.sm g m := by
      intro m
      induction m with
      | zero => intro _; exact Int.le_refl _
      | succ m ih => intro hm; have := ih (by omega); have := h m (by omega); simp only [FairM.sm]; omega
    have a := le n (by omega)
    have b := h n (by omega)
    simp only [FairM.sm] at e
    by_cases c : i = n
    · rw [c]; omega
    · exact all_eq f g n (fun i hi => h i (by omega)) (by omega) i (by omega)
/-- With room for all, each has what he wants. -/
theorem enough (S : List Int) (n : Nat) (r : Int) (hr : 0 ≤ r) (hl : S.length = n) (h : ∀ i, i < n → 0 ≤ gi S i) (hs : 0 ≤ sumK S n) : tab (FairM.fairF S n (sumK S n + r)) n = S := by
  have a := FairM.fair_sum S n (sumK S n + r) (by omega) h
  have b := all_eq (FairM.fairF S n (sumK S n + r)) (gi S) n (fun i hi => (FairM.fair_bd S n _ (by omega) h i hi).2) (by rw [a, sumK_sm]; rw [sumK_sm] at hs; omega)
  refine gi_ext _ _ (by rw [tab_len, hl]) (fun j hj => ?_)
  rw [tab_len] at hj
  rw [tab_gi _ _ _ hj, b j hj]
set_option linter.unusedVariables false
set_option maxHeartbeats 8000000 in
theorem walk (a0 a1 a2 : Int) (a3 : Option Addr) (len3 cap3 : Nat) (z3 : List Int) (w : World)
    (w0 : (Lit.int .i64 a0).wf = true) (w1 : (Lit.int .i64 a1).wf = true) (w2 : (Lit.int .i64 a2).wf = true) (w3 : IntsAt w a3 len3 cap3 z3) :
    Calls Try.prog 7 #[.int .i64 a0, .int .i64 a1, .int .i64 a2, .slice a3 len3 cap3] w fun e w' => e = .returned (.bool true) ∧ Below w.heap.size w w' := by
  have mm := w3.max
  have ee := w3.le
  obtain ⟨b, o, hz, hx⟩ := w3.split
  have hz' : Hid (len3 = 0) ∨ a3 = some ⟨b, o, none⟩ := hz.imp_left hidp
  have HX := hidp hx
  obtain ⟨N, hN⟩ : ∃ N : Nat, N = min len3 40 := ⟨_, rfl⟩
  have hN1 : N ≤ 40 := by omega
  have hN2 : N ≤ len3 := by omega
  have hmin : min (len3 : Int) 40 = (N : Int) := by omega
  have K0 := hidp (fun W => within_c a0 1000 (by omega) (by omega) W)
  have K1 := hidp (fun W => withinN_c a1 40 (by omega) (by omega) W)
  have K2 := hidp (fun W => within_c a2 20000 (by omega) (by omega) W)
  have r1 := wi_lo a0 1000 (by omega)
  have r2 := wi_hi a0 1000 (by omega)
  have d1 := wn_lt a1 40 (by omega)
  have e1 := wi_lo a2 20000 (by omega)
  have e2 := wi_hi a2 20000 (by omega)
  generalize wi a0 1000 = n at *
  generalize wn a1 40 = k0 at *
  generalize wi a2 20000 = r at *
  obtain ⟨k, hk⟩ : ∃ k : Nat, 1 + (k0 : Int) = (k : Int) := ⟨1 + k0, by omega⟩
  have k1 : 1 ≤ k ∧ k ≤ 40 := by omega
  have KX := hidp (fun x W => within_c x 10000 (by omega) (by omega) W)
  have SB := hidp (sF_bd z3)
  have i0 : IntsAt (w.alloc (.cells #[.int .i64 5, .int .i64 5] 3)) (some ⟨w.heap.size, 0, none⟩) 2 2 [5, 5] := ints_lit [5, 5] rfl rfl rfl (by simp) (by omega)
  have F0 := fair_c 7 _ 2 2 [5, 5] _ i0 (wantE_ok _ _ (by omega) (by decide)) (by omega) (by omega)
  rw [ex] at F0
  have F0' := hidp F0
  obtain ⟨S0, hS0⟩ : ∃ S0 : List Int, S0 = tab (fun _ => n) k := ⟨_, rfl⟩
  have g0 : ∀ i, i < k → gi S0 i = n := fun i hi => by rw [hS0, tab_gi _ _ _ hi]
  have wE0 := wantE_ok S0 k (by omega) (fun i hi => by rw [g0 i hi]; omega)
  have FX := hidp (fun W a c (h : IntsAt W a k c S0) => fair_c r a k c S0 W h wE0 (by omega) (by omega))
  have BX := hidp (fun i (hi : i < k) => show 0 ≤ FairM.fairF S0 k r i ∧ FairM.fairF S0 k r i ≤ n from by have := FairM.fair_bd S0 k r e1 (fun i hi => by rw [g0 i hi]; exact r1) i hi; rw [g0 i hi] at this; exact this)
  have CX := hidp (fun i j (hi : i < k) (hj : j < k) => show FairM.fairF S0 k r j ≤ FairM.fairF S0 k r i + 1 from by
    rcases Int.lt_or_le (FairM.fairF S0 k r i) n with c | c
    · exact FairM.fair_cut S0 k r e1 (fun i hi => by rw [g0 i hi]; exact r1) i j hi hj (by rw [g0 i hi]; exact c)
    · have := BX.out j hj; omega)
  have HS0 := hidp hS0
  clear w0 w1 w2 w3 i0 F0 hz hx hN hS0 g0 wE0
  go_enter Try.func7, Try.ntmps7
  go_wp2_with fail
  refine F0'.out.mono ?_
  rintro e wa ⟨v, rfl, hv, hba⟩
  obtain ⟨ax, cx, rfl, hX⟩ := owns_ints hv (by simp)
  have hwa := bstep (bal (Below.refl w.heap.size w) (.cells #[.int .i64 5, .int .i64 5] 3)) hba
  have hbl := bal (Below.refl wa.heap.size wa) (.cells #[.int .i64 3, .int .i64 4] 3)
  have EQ := equali_c ax (some ⟨wa.heap.size, 0, none⟩) 2 2 cx 2 [3, 4] [3, 4] _ (hX.below hbl) (ints_lit [3, 4] rfl rfl rfl (by simp) (by omega))
  rw [decide_eq_true rfl] at EQ
  have EQ2 := hidp EQ
  have hwb := hidp (bstep hwa hbl)
  clear hv hX hba hwa hbl EQ F0'
  go_wp2_with fail
  refine EQ2.out.mono ?_
  rintro e wb ⟨rfl, hbb⟩
  have hwc := hidp (bstep hwb.out hbb)
  clear hbb hwb
  go_wp2_with fail
  refine (K0.out _).mono ?_
  rintro e w' ⟨rfl, rfl⟩
  go_wp2_with fail
  refine (K1.out _).mono ?_
  rintro e w' ⟨rfl, rfl⟩
  go_wp2_with fail
  refine (K2.out _).mono ?_
  rintro e w' ⟨rfl, rfl⟩
  go_wp2_with fail
  refine (repeat_c (some ⟨wb.heap.size, 0, none⟩) 1 n k (by omega) _ (ints_lit [n] rfl rfl rfl (by simp; omega) (by omega))).mono ?_
  rintro e wd ⟨v, rfl, hv, hbd⟩
  rw [← HS0.out] at hv
  obtain ⟨av, cv, rfl, hV⟩ := owns_ints hv (fun x hx => by
    rw [HS0.out] at hx
    obtain ⟨i, hi, rfl⟩ := tab_mem _ _ _ hx
    omega)
  have VH := hidp hV
  have lv := hV.le
  have mv := hV.max
  have hwd := hidp (bstep (bal hwc.out _) hbd)
  clear hv hV hbd hwc
  go_wp2_with fail
  refine (FX.out _ _ _ VH.out).mono ?_
  rintro e we ⟨v, rfl, hv, hbe⟩
  obtain ⟨ay, cy, rfl, hY⟩ := owns_ints hv (fun x hx => by
    obtain ⟨i, hi, rfl⟩ := tab_mem _ _ _ hx
    have := BX.out i hi; omega)
  have YH := hidp hY
  have ly := hY.le
  have my := hY.max
  have hwe := hidp (bstep hwd.out hbe)
  have GY := hidp (fun i (hi : i < k) => tab_gi (FairM.fairF S0 k r) k i hi)
  have hne : ((k : Int) != (k : Int)) = false := by simp
  generalize tab (FairM.fairF S0 k r) k = Y at *
  clear hv hY hbe hwd VH FX
  go_wp2_with fail
  refine (max_c _ _ _ Y _ YH.out k1.1).mono ?_
  rintro e w' ⟨⟨i, hi, rfl⟩, rfl⟩
  go_wp2_with fail
  refine (min_c _ _ _ Y _ YH.out k1.1).mono ?_
  rintro e w' ⟨⟨j, hj, rfl⟩, rfl⟩
  have c1 := CX.out j i hj hi
  have b1 := BX.out i hi
  have b2 := BX.out j hj
  rw [← GY.out i hi] at c1 b1
  rw [← GY.out j hj] at c1 b2
  have c2 : ¬ 1 < gi Y i - gi Y j := by omega
  have c3 : decide (1 < gi Y i - gi Y j) = false := decide_eq_false c2
  have ws : IntKind.i64.wrap (gi Y i - gi Y j) = gi Y i - gi Y j := IntWalk.i64_in _ (by constructor <;> omega)
  generalize gi Y i = yi at *
  generalize gi Y j = yj at *
  clear c1
  have HXB := hidp (fun t (ht : t < len3) => carry_cell (HX.out t ht) hwe.out)
  have hbs : b < we.heap.size ∨ len3 = 0 := by
    rcases Nat.eq_zero_or_pos len3 with h | h
    · exact .inr h
    · have := (HX.out 0 h).1; have := hwe.out.size; left; omega
  clear HX
  go_wp2_with fail
  go_loopg [13, 68] N (fun gg v i wr => ∃ t : Nat, t ≤ N ∧ N - t ≤ gg ∧ i = .int .i64 t ∧ wr.ownsRow we.heap.size 3 1 v t ((tab (sF z3) t).map (Value.int .i64)) ∧ Below we.heap.size we wr)
  case atStart => exact ⟨0, by omega, by omega, rfl, World.ownsRow_nil _ _ _ _, Below.refl _ _⟩
  case round =>
    obtain ⟨t, ht, hgg, rfl, hv, hbl⟩ := hrel
    by_cases hlt : t < N
    · obtain rfl : a3 = some ⟨b, o, none⟩ := hz'.resolve_left (fun e => by have := e.out; omega)
      have q0 := ck hbl (HXB.out t (by omega))
      have E := hidp (show sF z3 t = wi (gi z3 t) 10000 from rfl)
      have K5 := hidp (fun W => KX.out (gi z3 t) W)
      rw [← E.out] at K5
      have sb := SB.out t
      generalize gi z3 t = x at *
      go_wp2_with fail
      refine (K5.out _).mono ?_
      rintro e w' ⟨rfl, rfl⟩
      go_wp2_with (at_builtin; refine wpList_append_new rfl (.tmp 72) (.tmp 75) 38 rfl we.heap.size 3 _ 1 8 info_int rfl (by decide) Try.underlying38 _ t _ rfl hv rfl (one_int _ _) rfl rfl (by omega) (by decide) hbl.size ?_; intro v0 x0 nv g0 d0; have bl0 := append_step hv hbl (Nat.le_refl _) g0; clear g0 d0 hv hbl)
      go_roundg (N - (t + 1))
      case measure => omega
      case rel => exact ⟨t + 1, by omega, by omega, by go_num, by rw [tab_snoc, List.map_append]; exact nv, bl0⟩
    · obtain rfl : t = N := by omega
      obtain ⟨S, hS⟩ : ∃ S, S = tab (sF z3) t := ⟨_, rfl⟩
      rw [← hS] at hv
      have hSl : S.length = t := by rw [hS, tab_len]
      have SBD := hidp (show ∀ i, i < t → 0 ≤ gi S i ∧ gi S i < 10000 from fun i hi => by rw [hS, tab_gi _ _ _ hi]; exact SB.out i)
      obtain ⟨aS, cs, rfl, hA⟩ := owns_ints hv (fun x hx => by
        rw [hS] at hx
        obtain ⟨i, hi, rfl⟩ := tab_mem _ _ _ hx
        have := SB.out i; omega)
      have ls := hA.le
      have ms := hA.max
      have AH := hidp hA
      have wE := wantE_ok S t (by omega) (fun i hi => by have := SBD.out i hi; omega)
      have SU := hidp (fun m (hm : m ≤ t) => show 0 ≤ sumK S m ∧ sumK S m ≤ 10000 * 40 from by
        have up := sumK_bd S 10000 (by omega) m (fun i hi => by have := SBD.out i (by omega); omega)
        refine ⟨?_, by omega⟩
        clear up
        induction m with
        | zero => exact Int.le_refl _
        | succ m ih => have := ih (by omega); have := SBD.out m (by omega); simp only [sumK]; omega)
      have su := SU.out t (Nat.le_refl _)
      have EN := enough S t r e1 hSl (fun i hi => (SBD.out i hi).1) su.1
      have SM := hidp (fun W (h : IntsAt W aS t cs S) => isum_c aS t cs S W h (fun m hm => by have := SU.out m hm; omega))
      have FY := fun W (h : IntsAt W aS t cs S) => fair_c (sumK S t + r) aS t cs S W h wE (by omega) (by omega)
      rw [EN] at FY
      have FYH := hidp FY
      have hfb := hidp (bstep hwe.out hbl)
      generalize sumK S t = T at *
      clear hv hS hA wE hbl EN FY hSl
      go_wp2_with fail
      refine (SM.out _ AH.out).mono ?_
      rintro e w' ⟨rfl, rfl⟩
      go_wp2_with fail
      refine (FYH.out _ AH.out).mono ?_
      rintro e wg ⟨v, rfl, hv, hbg⟩
      obtain ⟨ap, cp, rfl, hP⟩ := owns_ints hv AH.out.bd
      have A2 := hidp (AH.out.below hbg)
      have EQ3 := equali_c ap aS t t cp cs S S wg hP A2.out
      rw [decide_eq_true rfl] at EQ3
      have EQ4 := hidp EQ3
      have hfg := hidp (bstep hfb.out hbg)
      clear hv hP hbg EQ3
      go_wp2_with fail
      refine EQ4.out.mono ?_
      rintro e wh ⟨rfl, hbh⟩
      have hfin := bstep hfg.out hbh
      clear hbh
      go_wp2_with fail
      go_ret
      exact ⟨rfl, hfin⟩
end Go.Proofs.Ytmlkhiffmkkmdaa.fairSame
