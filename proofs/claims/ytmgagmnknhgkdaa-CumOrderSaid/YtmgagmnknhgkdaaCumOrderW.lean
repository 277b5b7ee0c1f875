/- The walk of CumOrder: the law returns true at all inputs, and no old memory changes. -/
import Derived.Test.YtmgagmnknhgkdaaPick
import Derived.Test.YtmgagmnknhgkdaaWown
namespace Go.Proofs.Ytmgagmnknhgkdaa.cumOrder
open Go.ChangeShapes Go.WideShapes Go.ChangeAt Go.RowKit
open Go.Proofs.Ytmgagmnknhgkdaa

theorem tab_take (f : Nat → Int) (n m : Nat) (h : m ≤ n) : (tab f n).take m = tab f m := by
  apply List.ext_getElem?
  intro i
  rw [List.getElem?_take]
  by_cases hi : i < m
  · rw [if_pos hi, tab_get _ _ _ (by omega), tab_get _ _ _ hi]
  · rw [if_neg hi, List.getElem?_eq_none (by rw [tab_len]; omega)]
theorem gi_app (xs : List Int) (x : Int) (i : Nat) (h : i < xs.length) : gi (xs ++ [x]) i = gi xs i := by
  unfold gi; rw [List.getD_eq_getElem?_getD, List.getD_eq_getElem?_getD, List.getElem?_append_left h]
theorem gi_end (xs : List Int) (x : Int) : gi (xs ++ [x]) xs.length = x := by
  unfold gi; rw [List.getD_eq_getElem?_getD, List.getElem?_append_right (Nat.le_refl _)]; simp
theorem sumK_app (xs : List Int) (x : Int) : ∀ k, k ≤ xs.length → sumK (xs ++ [x]) k = sumK xs k
  | 0, _ => rfl
  | k + 1, h => by simp only [sumK]; rw [sumK_app xs x k (by omega), gi_app xs x k (by omega)]
theorem okN_app (xs : List Int) (x : Int) (h : okN xs xs.length = true) (hx : 0 ≤ x ∧ x ≤ 1000000000000) : okN (xs ++ [x]) (xs.length + 1) = true := okN_of _ _ (fun i hi => by
  by_cases e : i = xs.length
  · subst e; rw [gi_end]; exact hx
  · rw [gi_app xs x i (by omega)]; exact okN_at xs _ h i (by omega))
/-- The plain law. -/
theorem order (xs : List Int) (n : Nat) (h : okN xs n = true) (p q : Int) (hpq : p ≤ q) (i j : Nat) (hi : i < n) (a1 : sumK xs i ≤ p) (b2 : q < sumK xs (j + 1)) : i ≤ j := by
  rcases Nat.lt_or_ge j i with hl | hl
  · have := sumK_le xs n h (j + 1) i (by omega) (by omega)
    omega
  · exact hl

set_option linter.unusedVariables false
set_option maxRecDepth 100000 in
set_option maxHeartbeats 4000000 in
theorem walk (a0 : Option Addr) (len0 cap0 : Nat) (z0 : List Int) (a1 a2 a3 : Int) (w : World)
    (w0 : IntsAt w a0 len0 cap0 z0) (w1 : (Lit.int .i64 a1).wf = true) (w2 : (Lit.int .i64 a2).wf = true) (w3 : (Lit.int .i64 a3).wf = true) :
    Calls Try.prog 10 #[.slice a0 len0 cap0, .int .i64 a1, .int .i64 a2, .int .i64 a3] w fun e w' => e = .returned (.bool true) ∧ Below w.heap.size w w' := by
  obtain ⟨N, hN⟩ : ∃ N : Nat, N = min len0 39 + 1 := ⟨_, rfl⟩
  have hN1 : 1 ≤ N ∧ N ≤ 40 := by omega
  obtain ⟨M, hM⟩ : ∃ M : Nat, M = min N 39 := ⟨_, rfl⟩
  have hM1 : 1 ≤ M ∧ M ≤ 39 := by omega
  have hM2 : M ≤ N := by omega
  have hmin : min (N : Int) 39 = (M : Int) := by omega
  have W0 := hidp w0
  have CW := hidp (fun W h => wown_c a0 len0 cap0 z0 1000 W h (by omega) (by omega))
  have hok := wtL_ok z0 1000 (M - 1) (by omega) (by omega)
  have hpos := wtL_pos z0 1000 (M - 1) (by omega) (by omega)
  have TK := hidp (show (wtL z0 1000 len0).take M = wtL z0 1000 (M - 1) by
    unfold wtL
    rw [tab_take _ _ _ (by omega), show min (M - 1) 39 + 1 = M by omega])
  have hll : (wtL z0 1000 (M - 1)).length = M := by unfold wtL; rw [tab_len]; omega
  have hl2 : (wtL z0 1000 len0).length = N := by unfold wtL; rw [tab_len, hN]
  have hbd : ∀ x ∈ wtL z0 1000 len0, -9223372036854775808 ≤ x ∧ x ≤ 9223372036854775807 := fun x hx => by
    obtain ⟨i, hi, rfl⟩ := tab_mem _ _ _ hx
    have := wtF_bd z0 1000 (by omega) i
    omega
  rw [show min (M - 1) 39 + 1 = M by omega] at hok hpos
  rw [← hN] at CW
  obtain ⟨A, hAe⟩ : ∃ A : Nat, (A : Int) = sumK (wtL z0 1000 (M - 1)) M := ⟨(sumK (wtL z0 1000 (M - 1)) M).toNat, by omega⟩
  have sup := sumK_ok (wtL z0 1000 (M - 1)) M hok
  have hA1 : 1 ≤ A ∧ A ≤ 40000000000000 := by omega
  have SB := hidp (fun k (hk : k ≤ M) => sumK_ok (wtL z0 1000 (M - 1)) k (okN_down _ M k hok hk))
  have OK := hidp hok
  have HAE := hidp hAe
  have HL := hidp hll
  have HBD := hidp hbd
  clear hok hpos hAe sup w0 hll hl2 hbd hM hN
  generalize wtL z0 1000 (M - 1) = l at *
  generalize wtL z0 1000 len0 = l0 at *
  obtain ⟨hA1, hA2⟩ := hA1
  have hP := wn_lt a1 A (by omega)
  have cp := withinN_c a1 A (by omega) (by omega)
  obtain ⟨P, hPe⟩ : ∃ P, P = wn a1 A := ⟨_, rfl⟩
  rw [← hPe] at hP cp
  have hPA : P < A := by omega
  obtain ⟨D, hD⟩ : ∃ D : Nat, D = A - P := ⟨_, rfl⟩
  have hD1 : 1 ≤ D ∧ D ≤ A := by omega
  have hDE : (A : Int) - (P : Int) = (D : Int) := by omega
  have hR := wn_lt a2 D (by omega)
  have cr := withinN_c a2 D (by omega) (by omega)
  obtain ⟨R, hRe⟩ : ∃ R, R = wn a2 D := ⟨_, rfl⟩
  rw [← hRe] at hR cr
  have hx := wn_lt a3 1000 (by omega)
  have cx := withinN_c a3 1000 (by omega) (by omega)
  obtain ⟨X, hXe⟩ : ∃ X, X = wn a3 1000 := ⟨_, rfl⟩
  rw [← hXe] at hx cx
  have CPW := hidp cp
  have CRW := hidp cr
  have CXW := hidp cx
  have CP := hidp (fun a c (t : Int) W h (ht0 : 0 ≤ t) (ht : t < A) => pick_c a M c l t W h (by omega) OK.out ht0 (by rw [← HAE.out]; exact ht))
  have HPR : (P : Int) + (R : Int) < (A : Int) := by omega
  clear cp cr cx hPe hRe hXe hD hP w1 w2 w3
  go_enter Try.func10, Try.ntmps10
  go_wp2_with fail
  refine (pick_c _ 2 2 [0, 1] 0 _ ?s0 (by omega) (by decide) (by omega) (by decide)).mono ?_
  case s0 => exact ints_lit [0, 1] (by simp) (by rfl) (by rfl) (by simp) (by omega)
  rintro e wb ⟨i0, hi0, rfl, hH0, hbb⟩
  obtain rfl : i0 = 1 := pick_uniq [0, 1] 2 (by decide) 0 i0 1 hi0 (by omega) hH0.out.1 hH0.out.2 (by decide) (by decide)
  have hwb : Below w.heap.size w wb := bstep (bal (Below.refl _ _) _) hbb
  clear hbb hH0 hi0
  go_wp2_with fail
  refine (CW.out _ (W0.out.below hwb)).mono ?_
  rintro e wc ⟨v, rfl, hv, hbc⟩
  obtain ⟨al, cl, hve, hal0⟩ := owns_ints hv HBD.out
  subst hve
  have hwc : Below w.heap.size w wc := bstep hwb hbc
  have hal : IntsAt wc al M cl l := by rw [← TK.out]; exact hal0.take M hM2
  have mm := hal0.max
  have ee := hal0.le
  have HV := hidp (owns_cells hv)
  have ha : Hid (∃ b o, al = some ⟨b, o, none⟩) := by
    obtain ⟨b, o, h, _⟩ := hal.addr (by omega)
    exact ⟨b, o, h⟩
  clear hv CW W0 hbc hal0 hwb
  obtain ⟨b, o, rfl⟩ := ha.out
  have SU := hidp (fun W hb => isum_c _ M cl l W (hal.below hb) (fun k hk => by have := SB.out k hk; omega))
  rw [← HAE.out] at SU
  have HAL := hidp hal
  clear hal
  go_wp2_with fail
  refine (SU.out _ (Below.refl _ _)).mono ?_
  rintro e w' ⟨rfl, rfl⟩
  go_wp2_with fail
  refine (CPW.out _).mono ?_
  rintro e w' ⟨rfl, rfl⟩
  go_wp2_with fail
  refine (CP.out _ _ (P : Int) _ HAL.out (by omega) (by omega)).mono ?_
  rintro e wd ⟨i, hi, rfl, hI, hbd⟩
  go_wp2_with fail
  refine (SU.out _ hbd).mono ?_
  rintro e w' ⟨rfl, rfl⟩
  go_wp2_with fail
  refine (CRW.out _).mono ?_
  rintro e w' ⟨rfl, rfl⟩
  go_wp2_with fail
  refine (CP.out _ _ ((P : Int) + (R : Int)) _ (HAL.out.below hbd) (by omega) HPR).mono ?_
  rintro e we ⟨j, hj, rfl, hJ, hbe⟩
  have hbe2 := bstep hbd hbe
  go_wp2_with fail
  refine (clonei_c _ M cl l _ (HAL.out.below hbe2) (by omega)).mono ?_
  rintro e wf ⟨v, rfl, hv, hbf⟩
  have hbf2 := bstep hbe2 hbf
  go_wp2_with fail
  refine (CXW.out _).mono ?_
  rintro e w' ⟨rfl, rfl⟩
  have HIJ := order l M OK.out P (P + R) (by omega) i j hi hI.out.1 hJ.out.2
  have HGI : 0 < gi l i := by
    have h1 := hI.out
    have : sumK l (i + 1) = sumK l i + gi l i := rfl
    omega
  have QI := ints_cell HAL.out i hi
  clear hbd hbe CP CPW CRW CXW SU hJ
  go_wp2_with (at_builtin; refine wpList_append_new rfl (.tmp 60) (.tmp 63) 22 rfl we.heap.size 3 _ 1 8 info_int rfl (by decide) Try.underlying22 _ M _ rfl hv rfl (one_int _ _) rfl rfl (by omega) (by decide) hbf.size ?_; intro v0 x0 nv g0 d0; have bl0 := append_step hv hbf (Nat.le_refl _) g0; clear g0 d0 hv hbf)
  have hbx := bstep hbe2 bl0
  have hL := HL.out
  rw [show l.map (Value.int .i64) ++ [Value.int .i64 (X : Int)] = (l ++ [(X : Int)]).map (Value.int .i64) by rw [List.map_append]; rfl] at nv
  obtain ⟨a5, c5, hve, ha5⟩ := owns_ints nv (fun x hx => by
    rcases List.mem_append.1 hx with h | h
    · exact HAL.out.bd x h
    · simp at h; subst h; omega)
  subst hve
  have ok2 : okN (l ++ [(X : Int)]) (M + 1) = true := by
    have := okN_app l X (by rw [hL]; exact OK.out) (by omega)
    rw [hL] at this
    exact this
  have SA := hidp (fun k (hk : k ≤ M) => sumK_app l X k (by rw [hL]; exact hk))
  have s2 : sumK l M ≤ sumK (l ++ [(X : Int)]) (M + 1) := by
    have := SA.out M (Nat.le_refl _)
    have h2 : gi (l ++ [(X : Int)]) M = X := by rw [← hL]; exact gi_end l X
    show sumK l M ≤ sumK (l ++ [(X : Int)]) M + gi (l ++ [(X : Int)]) M
    omega
  have S2 := hidp s2
  have OK2 := hidp ok2
  have C2 := hidp (pick_c a5 (M + 1) c5 (l ++ [(X : Int)]) P _ ha5 (by omega) ok2 (by omega) (by have := HAE.out; omega))
  clear s2 ok2 nv hL ha5
  refine C2.out.mono ?_
  rintro e wh ⟨k, hk, rfl, hK, hbh⟩
  have HKI : i = k := pick_uniq (l ++ [(X : Int)]) (M + 1) OK2.out P i k (by omega) hk (by rw [SA.out i (by omega)]; exact hI.out.1) (by rw [SA.out (i + 1) (by omega)]; exact hI.out.2) hK.out.1 hK.out.2
  subst HKI
  have hbz := bstep hbx hbh
  have q := ck hbz QI
  have hin : (i : Int) < (M : Int) := by omega
  have HIJ' : (i : Int) ≤ (j : Int) := by omega
  have hbw := bstep hwc hbz
  clear C2 hbx hbh hbz
  go_wp2_with fail
  go_ret
  exact ⟨rfl, hbw⟩
end Go.Proofs.Ytmgagmnknhgkdaa.cumOrder
