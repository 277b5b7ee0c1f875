/- The walk of RegsGrows: the law returns true at all inputs, and no old memory changes. -/
import Derived.Test.YtpghnbpoodcglaaRegsBad
import Derived.Test.YtpghnbpoodcglaaShelf
import Derived.Deep.RegionWith
import Derived.Deep.RegionHeld3
import Derived.Deep.QuietTactic
import Derived.BigQuiet
namespace Go.Proofs.Ytpghnbpoodcglaa.regsGrows
open Go.ChangeShapes Go.WideShapes Go.ChangeAt Go.RowKit
open Go.Proofs.Ytpghnbpoodcglaa
set_option maxRecDepth 20000

theorem ok3 : RegOk [3] 1 := ⟨.inl rfl, fun i hi => by
  obtain rfl : i = 0 := by omega
  decide⟩
theorem ex1 : tab (rputF [3] 1 36028797018963968) 1 = [3] := by decide +kernel
theorem ex2 : tab (rputF [3] 1 1099511627776) 1 = [16] := by decide +kernel
/-- How many of the first k are changed. -/
def chg (xs : List Int) (n N : Nat) (k : Nat) : Int := if N % n < k ∧ rputF xs n N (N % n) ≠ gi xs (N % n) then 1 else 0
theorem chg_step (xs : List Int) (n N k : Nat) : chg xs n N (k + 1) = if rputF xs n N k = gi xs k then chg xs n N k else chg xs n N k + 1 := by
  unfold chg
  by_cases e : k = N % n
  · rw [e]
    by_cases h : rputF xs n N (N % n) = gi xs (N % n)
    · rw [if_pos h, if_neg (fun h2 => h2.2 h), if_neg (fun h2 => h2.2 h)]
    · rw [if_neg h, if_pos ⟨by omega, h⟩, if_neg (by omega)]; rfl
  · have h : rputF xs n N k = gi xs k := by unfold rputF; rw [if_neg e]
    rw [if_pos h]
    by_cases h2 : N % n < k
    · by_cases h3 : rputF xs n N (N % n) = gi xs (N % n)
      · rw [if_neg (fun h => h.2 h3), if_neg (fun h => h.2 h3)]
      · rw [if_pos ⟨by omega, h3⟩, if_pos ⟨h2, h3⟩]
    · rw [if_neg (by omega), if_neg (by omega)]
theorem chg_bd (xs : List Int) (n N k : Nat) : 0 ≤ chg xs n N k ∧ chg xs n N k ≤ 1 := by unfold chg; split <;> omega
theorem twice (xs : List Int) (n N : Nat) (hn : 0 < n) : tab (rputF (tab (rputF xs n N) n) n N) n = tab (rputF xs n N) n := tab_congr _ _ _ (fun i hi => by
  have hM := Nat.mod_lt N hn
  unfold rputF
  by_cases e : i = N % n
  · rw [if_pos e, if_pos e, tab_gi _ _ _ hi, if_pos e]; omega
  · rw [if_neg e, if_neg e, tab_gi _ _ _ hi, if_neg e])
theorem grows (xs : List Int) (n N i : Nat) : gi xs i ≤ rputF xs n N i := by unfold rputF; split <;> omega
/-- A number that begins with one nought more. -/
def hlf (n N : Nat) : Nat := N / 2 / n * n + N % n
theorem hlf_mod (n N : Nat) (hn : 0 < n) : hlf n N % n = N % n ∧ hlf n N / n = N / n / 2 := by
  unfold hlf
  have hM := Nat.mod_lt N hn
  constructor
  · rw [Nat.mul_add_mod_self_right, Nat.mod_eq_of_lt hM]
  · rw [Nat.add_comm, Nat.add_mul_div_right _ _ hn, Nat.div_eq_of_lt hM, Nat.div_div_eq_div_mul, Nat.div_div_eq_div_mul, Nat.mul_comm 2 n]; omega
theorem hlf_le (n N : Nat) : hlf n N ≤ N := by
  unfold hlf
  have h1 : N / 2 / n * n ≤ N / n * n := Nat.mul_le_mul_right _ (Nat.div_le_div_right (Nat.div_le_self _ _))
  have h2 := Nat.div_add_mod' N n
  omega
theorem half (xs : List Int) (n N : Nat) (hn : 0 < n) (hN : N < 72057594037927936) : rputF xs n N (N % n) ≤ rputF xs n (hlf n N) (N % n) := by
  obtain ⟨h1, h2⟩ := hlf_mod n N hn
  unfold rputF
  rw [if_pos rfl, if_pos h1.symm]
  unfold rpx
  rw [h2]
  have := bl_half (N / n) (Nat.lt_of_le_of_lt (Nat.div_le_self _ _) (by omega))
  omega

theorem IntsAt.drew {w : World} {a : Option Addr} {n c : Nat} {xs : List Int} (h : IntsAt w a n c xs) : IntsAt w.drew a n c xs := h.below (Below.refl _ _).drew
theorem IntsAt.drewN {w : World} {a : Option Addr} {n c : Nat} {xs : List Int} (h : IntsAt w a n c xs) (q : Nat) : IntsAt (w.drewN q) a n c xs := h.below (below_drewN (Below.refl _ _) _)
theorem arg_eq (k N : Nat) (h1 : 1 ≤ k) (h2 : k ≤ 16) (hN : N < 72057594037927936) : IntKind.i64.wrap (IntKind.i64.wrap (IntKind.i64.wrap ((IntKind.i64.wrap ((N : Int) / 2)).tdiv (k : Int)) * (k : Int)) + ((N : Int)).tmod (k : Int)) = ((hlf k N : Nat) : Int) := by
  have a1 : N / 2 / k * k ≤ N / 2 := Nat.div_mul_le_self _ _
  have a2 : N / 2 / k ≤ N / 2 := Nat.div_le_self _ _
  have a3 : N % k < k := Nat.mod_lt _ (by omega)
  have e1 : (N : Int) / 2 = ((N / 2 : Nat) : Int) := rfl
  rw [IntWalk.i64_in ((N : Int) / 2) (by constructor <;> omega), Int.tdiv_eq_ediv_of_nonneg (by omega), Int.tmod_eq_emod_of_nonneg (by omega), e1]
  have e2 : ((N / 2 : Nat) : Int) / (k : Int) = ((N / 2 / k : Nat) : Int) := rfl
  have e3 : (N : Int) % (k : Int) = ((N % k : Nat) : Int) := rfl
  rw [e2, e3]
  unfold hlf
  generalize N / 2 / k = X at *
  generalize N % k = Y at *
  rw [IntWalk.i64_in (X : Int) (by constructor <;> omega), ← Int.natCast_mul]
  generalize X * k = Z at *
  rw [IntWalk.i64_in (Z : Int) (by constructor <;> omega), ← Int.natCast_add]
  exact IntWalk.i64_in _ (by constructor <;> omega)

theorem equal_q (a1 a2 : Option Addr) (n c1 c2 : Nat) (xs : List Int) (w : World) (h1 : IntsAt w a1 n c1 xs) (h2 : IntsAt w a2 n c2 xs) (hn : 1 ≤ n) :
    Calls Try.prog 19 #[.slice a1 n c1, .slice a2 n c2] w fun e w' => e = .returned (.bool true) ∧ ∃ q, w' = w.drewN q := by
  obtain ⟨b1, o1, rfl, _, hc1⟩ := h1.addr hn
  obtain ⟨b2, o2, rfl, _, hc2⟩ := h2.addr hn
  have l1 := h1.len
  have m1 := h1.max
  have e1 := h1.le
  refine (Try.slices_Equal_int b1 o1 n c1 b2 o2 n c2 xs xs w (by omega) (by omega) (by omega) (by omega) (fun j hj => hc1 j (by omega)) (fun j hj => hc2 j (by omega))).mono ?_
  rintro e w' ⟨rfl, h⟩
  exact ⟨by simp, h⟩
set_option linter.unusedVariables false
set_option maxHeartbeats 200000000 in
theorem walk (a0 : Option Addr) (len0 cap0 : Nat) (z0 : List Int) (a1 : Int) (w : World)
    (w0 : IntsAt w a0 len0 cap0 z0) (w1 : (Lit.int .i64 a1).wf = true) :
    Calls Try.prog 10 #[.slice a0 len0 cap0, .int .i64 a1] w fun e w' => e = .returned (.bool true) ∧ Below w.heap.size w w' := by
  have W0 := hidp w0
  have mm := w0.max
  have ee := w0.le
  clear w0 w1
  go_enter Try.func10, Try.ntmps10
  go_wp2_with fail
  refine (rput_c _ 1 _ [3] 36028797018963968 _ ?s0 ok3 (by omega)).mono ?_
  case s0 => exact ints_lit [3] (by simp) (by rfl) (by rfl) (by simp) (by omega)
  rintro e wa ⟨v, rfl, hv, hba⟩
  rw [ex1] at hv
  obtain ⟨av, cv, hve, hav⟩ := owns_ints hv (by simp)
  subst hve
  clear hv
  go_wp2_with fail
  refine (equali_c _ _ 1 1 _ _ [3] [3] _ (hav.alloc _) ?s1).mono ?_
  case s1 => exact ints_lit [3] (by simp) (by rfl) (by rfl) (by simp) (by omega)
  rintro e wb ⟨rfl, hbb⟩
  rw [decide_eq_true rfl]
  have hwb : Below w.heap.size w wb := bstep (bal (bstep (bal (Below.refl _ _) _) hba) _) hbb
  clear hba hbb hav
  go_wp2_with fail
  refine (rput_c _ 1 _ [3] 1099511627776 _ ?s2 ok3 (by omega)).mono ?_
  case s2 => exact ints_lit [3] (by simp) (by rfl) (by rfl) (by simp) (by omega)
  rintro e wc ⟨v, rfl, hv, hbc⟩
  rw [ex2] at hv
  obtain ⟨au, cu, hve, hau⟩ := owns_ints hv (by simp)
  subst hve
  clear hv
  go_wp2_with fail
  refine (equali_c _ _ 1 1 _ _ [16] [16] _ (hau.alloc _) ?s3).mono ?_
  case s3 => exact ints_lit [16] (by simp) (by rfl) (by rfl) (by simp) (by omega)
  rintro e wd ⟨rfl, hbd⟩
  rw [decide_eq_true rfl]
  have hwd : Below w.heap.size w wd := bstep (bal (bstep (bal hwb _) hbc) _) hbd
  clear hbc hbd hau hwb
  by_cases hE : rpE z0 len0 a1 = 0
  · obtain ⟨e1, e2, e3⟩ := rpE_zero _ _ _ hE
    have hok := rgE_zero _ _ e1
    obtain ⟨N, rfl⟩ := Int.eq_ofNat_of_zero_le e2
    have hNn : N < 72057594037927936 := by omega
    have hn : 1 ≤ len0 ∧ len0 ≤ 16 := by have := hok.1; unfold rgN at this; omega
    obtain ⟨hn1, hn2⟩ := hn
    have hokX := rput_ok z0 len0 N hok hNn
    have HX := hidp hokX
    have hl := (W0.out).len
    have FIT := hidp ((fitB_iff z0 (tab (rputF z0 len0 N) len0) len0 (tab_len _ _)).2 (fun i hi => by rw [tab_gi _ _ _ hi]; exact grows z0 len0 N i))
    have CP := hidp (fun W hW => rput_c a0 len0 cap0 z0 N W hW hok hNn)
    have CZ := hidp (fun W hW => rput_c a0 len0 cap0 z0 (hlf len0 N) W hW hok (Nat.lt_of_le_of_lt (hlf_le len0 N) hNn))
    have HZ := hidp (rput_ok z0 len0 (hlf len0 N) hok (Nat.lt_of_le_of_lt (hlf_le len0 N) hNn))
    have CY := hidp (fun a c W hW => rput_c a len0 c (tab (rputF z0 len0 N) len0) N W hW hokX hNn)
    have TW := hidp (twice z0 len0 N (by omega))
    have OK := hidp hok
    have HF := hidp (half z0 len0 N (by omega) hNn)
    have hlfE := hidp (show (N : Int) / 2 / (len0 : Int) * (len0 : Int) + (N : Int) % (len0 : Int) = ((hlf len0 N : Nat) : Int) by unfold hlf; rfl)
    have hlfB := hlf_le len0 N
    clear hE e1 e3 hok hokX hl
    go_wp2_with fail
    refine (CP.out _ (W0.out.below hwd)).mono ?_
    rintro e we ⟨v, rfl, hv, hbe⟩
    obtain ⟨ax, cx, hve, hax⟩ := owns_regs hv HX.out
    subst hve
    have hwe := bstep hwd hbe
    clear hv hbe hwd CP
    go_wp2_with fail
    refine (rfit_c _ _ _ _ _ _ _ _ (W0.out.below hwe) hax OK.out HX.out).mono ?_
    rintro e wf ⟨rfl, hbf⟩
    rw [FIT.out]
    have hax := hax.below hbf
    have hwf := bstep hwe hbf
    clear hbf hwe FIT
    obtain ⟨b, o, rfl, hb, hc⟩ := (W0.out).addr (by omega)
    obtain ⟨b', o', rfl, hb', hc'⟩ := hax.addr (by omega)
    have Q := hidp hc
    have Q' := hidp hc'
    have mx := hax.max
    have lx := hax.le
    have HAX := hidp hax
    clear hc hc' hax
    have ST := hidp (chg_step z0 len0 N)
    have CB := hidp (chg_bd z0 len0 N)
    go_wp2_with fail
    go_loopw [13, 70] (fun c i wr => ∃ k : Nat, k ≤ len0 ∧ i = .int .i64 k ∧ c = .int .i64 (chg z0 len0 N k) ∧ Below wf.heap.size wf wr) (fun _ i _ => len0 - (intOf i).toNat)
    case atStart => exact ⟨0, by omega, rfl, v_int (by unfold chg; rw [if_neg (by omega)]), Below.refl _ _⟩
    case round =>
      obtain ⟨k, hk, rfl, rfl, hbl⟩ := hrel
      obtain ⟨b1, b2⟩ := CB.out k
      by_cases hlt : k < len0
      · have q1 := carry_cell ⟨hb', Q'.out k hlt⟩ hbl
        rw [tab_gi _ _ _ hlt] at q1
        have q2 := ck (bstep hwf hbl) (Q.out k hlt)
        have S := hidp (ST.out k)
        by_cases hx : rputF z0 len0 N k = gi z0 k
        · have E := hidp (show chg z0 len0 N (k + 1) = chg z0 len0 N k by rw [S.out, if_pos hx])
          have hne : (rputF z0 len0 N k != gi z0 k) = false := by rw [bne_eq_false_iff_eq]; exact hx
          clear hx
          go_wp2_with fail
          go_quiet (fail)
          go_wp2
          go_roundw
          case rel => exact ⟨k + 1, by omega, by go_num, v_int E.out.symm, below_drewN hbl _⟩
          case measure => simp [intOf]; omega
        · have E := hidp (show chg z0 len0 N (k + 1) = chg z0 len0 N k + 1 by rw [S.out, if_neg hx])
          have hne : (rputF z0 len0 N k != gi z0 k) = true := by rw [bne_iff_ne]; exact hx
          clear hx
          go_wp2_with fail
          go_quiet (fail)
          go_wp2
          go_roundw
          case rel => exact ⟨k + 1, by omega, by go_num, v_int E.out.symm, below_drewN hbl _⟩
          case measure => simp [intOf]; omega
      · obtain rfl : k = len0 := by omega
        have hwr := bstep hwf hbl
        have hxr := HAX.out.below hbl
        clear Q Q' ST hbl hwf HAX
        have hC := (CB.out k).2
        generalize chg z0 k N k = C at *
        go_wp2_with fail
        refine (CY.out _ _ _ hxr).mono ?_
        rintro e wg ⟨v, rfl, hv, hbg⟩
        rw [TW.out] at hv
        obtain ⟨ay, cy, hve, hay⟩ := owns_regs hv HX.out
        subst hve
        have hwg := bstep hwr hbg
        have hxg := hxr.below hbg
        clear hv hbg hwr hxr CY TW
        have hnz : ¬ k = 0 := by omega
        have w0g := W0.out.below hwg
        go_wp2_with fail
        have AE := hidp (arg_eq k N hn1 hn2 hNn)
        go_region_with (go_at_call 37; go_loud (rw [AE.out]; refine (CZ.out _ (W0.out.below hwg.drew)).mono ?_; rintro e wh ⟨v, rfl, hv, hbh⟩; obtain ⟨az, cz, hve, haz⟩ := owns_regs hv HZ.out; subst hve; have hwh := bstep hwg.drew hbh; have hxh := (IntsAt.drew hxg).below hbh; have hyh := (IntsAt.drew hay).below hbh; clear hv hbh))
        obtain ⟨bz, oz, rfl, _, hcz⟩ := haz.addr (by omega)
        obtain ⟨bq, oq, hqe, _, hcq⟩ := hxh.addr (by omega)
        simp only [Option.some.injEq, Addr.mk.injEq] at hqe
        obtain ⟨rfl, rfl, _⟩ := hqe
        obtain ⟨M, hM⟩ : ∃ M, M = N % k := ⟨_, rfl⟩
        have hMk : M < k := by rw [hM]; exact Nat.mod_lt _ (by omega)
        have q1 := hcz M hMk
        rw [tab_gi _ _ _ hMk] at q1
        have q2 := hcq M hMk
        rw [tab_gi _ _ _ hMk] at q2
        have hf := HF.out
        rw [← hM] at hf
        have hME : (N : Int).tmod (k : Int) = (M : Int) := by rw [hM, Int.tmod_eq_emod_of_nonneg (by omega)]; rfl
        have hME2 : (N : Int) % (k : Int) = (M : Int) := by rw [hM]; rfl
        have lz := haz.le
        have mz := haz.max
        generalize rputF z0 k (hlf k N) M = U at *
        generalize rputF z0 k N M = V at *
        have q1d : wh.drew.cell? ⟨bz, oz + M, none⟩ = some (.int .i64 U) := q1
        have q2d : wh.drew.cell? ⟨b', o' + M, none⟩ = some (.int .i64 V) := q2
        have Q1 := hidp q1d
        have Q2 := hidp q2d
        obtain ⟨b1, b2⟩ := CB.out 0
        clear CB hM hcz hcq q1d q2d HF AE CZ W0 OK HX HZ b1 b2
        go_wp2_with fail
        have HEQ := hidp (fun q => equal_q _ _ k _ _ _ (wh.drewN q) (IntsAt.drewN hyh q) (IntsAt.drewN hxh q) hn1)
        go_quiet (first | (go_at_call 19; refine Calls.quiet_of (HEQ.out _)))
        go_wp2
        go_ret
        exact ⟨rfl, below_drewN hwh _⟩
  · go_wp2_with fail
    refine (rput_bad _ _ _ _ _ _ (W0.out.below hwd) hE).mono ?_
    rintro e we ⟨rfl, hbe⟩
    have hne : (rpE z0 len0 a1 != 0) = true := by rw [bne_iff_ne]; exact hE
    clear hE
    generalize rpE z0 len0 a1 = W at *
    go_wp2_with fail
    go_ret
    exact ⟨rfl, bstep hwd hbe⟩
end Go.Proofs.Ytpghnbpoodcglaa.regsGrows
