/- The walk of CumPicks: the law returns true at all inputs, and no old memory changes. -/
import Derived.Test.YtmgagmnknhgkdaaPick
import Derived.Test.YtmgagmnknhgkdaaEqI
import Derived.Test.YtmgagmnknhgkdaaWown
namespace Go.Proofs.Ytmgagmnknhgkdaa.cumPicks
open Go.ChangeShapes Go.WideShapes Go.ChangeAt Go.RowKit
open Go.Proofs.Ytmgagmnknhgkdaa

/-- How often a thing is picked by the first t parts. -/
def oft (xs : List Int) (t u : Nat) : Int := min (t : Int) (sumK xs (u + 1)) - min (t : Int) (sumK xs u)
theorem oft_step (xs : List Int) (n : Nat) (h : okN xs n = true) (t i u : Nat) (hi : i < n) (hu : u < n) (a1 : sumK xs i ≤ t) (a2 : (t : Int) < sumK xs (i + 1)) : oft xs (t + 1) u = if u = i then oft xs t i + 1 else oft xs t u := by
  unfold oft
  have m0 : sumK xs u ≤ sumK xs (u + 1) := sumK_le xs n h u (u + 1) (by omega) (by omega)
  by_cases e : u = i
  · rw [if_pos e, e]; omega
  · rw [if_neg e]
    rcases Nat.lt_or_ge u i with hl | hl
    · have := sumK_le xs n h (u + 1) i (by omega) (by omega)
      omega
    · have := sumK_le xs n h (i + 1) u (by omega) (by omega)
      omega
theorem oft_bd (xs : List Int) (n : Nat) (h : okN xs n = true) (t u : Nat) (hu : u < n) : 0 ≤ oft xs t u ∧ oft xs t u ≤ t := by
  have m0 : sumK xs u ≤ sumK xs (u + 1) := sumK_le xs n h u (u + 1) (by omega) (by omega)
  have := (sumK_ok xs u (okN_down xs n u h (by omega))).1
  unfold oft
  omega
theorem oft_all (xs : List Int) (n A : Nat) (h : okN xs n = true) (hA : (A : Int) = sumK xs n) (u : Nat) (hu : u < n) : oft xs A u = gi xs u := by
  have m0 : sumK xs (u + 1) ≤ sumK xs n := sumK_le xs n h (u + 1) n (by omega) (by omega)
  have m1 : sumK xs (u + 1) = sumK xs u + gi xs u := rfl
  have := okN_at xs n h u hu
  unfold oft
  omega

set_option linter.unusedVariables false
set_option maxRecDepth 100000 in
set_option maxHeartbeats 4000000 in
theorem walk (a0 : Option Addr) (len0 cap0 : Nat) (z0 : List Int) (w : World)
    (w0 : IntsAt w a0 len0 cap0 z0) :
    Calls Try.prog 11 #[.slice a0 len0 cap0] w fun e w' => e = .returned (.bool true) ∧ Below w.heap.size w w' := by
  obtain ⟨ib, hib, hz0, hz1, hz2⟩ := info_parts info_int
  have mm := w0.max
  have ee := w0.le
  obtain ⟨N9, hN9⟩ : ∃ N9 : Nat, N9 = min len0 9 := ⟨_, rfl⟩
  have hmin : min (len0 : Int) 9 = (N9 : Int) := by omega
  have hN91 : N9 ≤ 9 := by omega
  have hN92 : N9 ≤ len0 := by omega
  have W0 := hidp (w0.take N9 hN92)
  have hok := wtL_ok (z0.take N9) 40 N9 (by omega) (by omega)
  have hpos := wtL_pos (z0.take N9) 40 N9 (by omega) (by omega)
  obtain ⟨N, hN⟩ : ∃ N : Nat, N = min N9 39 + 1 := ⟨_, rfl⟩
  have hN1 : 1 ≤ N ∧ N ≤ 10 := by omega
  have hl : (wtL (z0.take N9) 40 N9).length = N := by unfold wtL; rw [tab_len, hN]
  have CW := hidp (fun W h => wown_c a0 N9 cap0 (z0.take N9) 40 W h (by omega) (by omega))
  have hup : ∀ i, i < N → gi (wtL (z0.take N9) 40 N9) i ≤ 40 := fun i hi => by
    unfold wtL; rw [tab_gi _ _ _ (by omega)]; have := wtF_bd (z0.take N9) 40 (by omega) i; omega
  rw [← hN] at hok hpos CW
  have sup := sumK_bd (wtL (z0.take N9) 40 N9) 40 (by omega) N (fun i hi => by have := hup i hi; have := okN_at _ N hok i hi; omega)
  obtain ⟨A, hAe⟩ : ∃ A : Nat, (A : Int) = sumK (wtL (z0.take N9) 40 N9) N := ⟨(sumK (wtL (z0.take N9) 40 N9) N).toNat, by omega⟩
  have hA1 : 1 ≤ A ∧ A ≤ 400 := by omega
  have CP := hidp (fun a c (t : Nat) W h (ht : t < A) => pick_c a N c (wtL (z0.take N9) 40 N9) t W h (by omega) hok (by omega) (by omega))
  have SB := hidp (fun k (hk : k ≤ N) => sumK_ok (wtL (z0.take N9) 40 N9) k (okN_down _ N k hok hk))
  have OK := hidp hok
  have OKA := hidp (okN_at (wtL (z0.take N9) 40 N9) N hok)
  have HAE := hidp hAe
  have HL := hidp hl
  clear hok hpos hN hAe sup hup w0 hN9 hl
  generalize wtL (z0.take N9) 40 N9 = l at *
  go_enter Try.func11, Try.ntmps11
  go_wp2_with fail
  refine (pick_c _ 3 3 [2, 0, 3] 2 _ ?s0 (by omega) (by decide) (by omega) (by decide)).mono ?_
  case s0 => exact ints_lit [2, 0, 3] (by simp) (by rfl) (by rfl) (by simp) (by omega)
  rintro e wb ⟨i0, hi0, rfl, hH0, hbb⟩
  obtain rfl : i0 = 2 := pick_uniq [2, 0, 3] 3 (by decide) 2 i0 2 hi0 (by omega) hH0.out.1 hH0.out.2 (by decide) (by decide)
  have hwb : Below w.heap.size w wb := bstep (bal (Below.refl _ _) _) hbb
  clear hbb hH0 hi0
  go_wp2_with fail
  refine (CW.out _ (W0.out.below hwb)).mono ?_
  rintro e wc ⟨v, rfl, hv, hbc⟩
  obtain ⟨al, cl, hve, hal⟩ := owns_ints hv (fun x hx => by
    obtain ⟨i, hi, hx⟩ := List.getElem_of_mem hx
    have hl := HL.out
    have := OKA.out i (by omega)
    have e1 : gi l i = x := by unfold gi; rw [List.getD_eq_getElem?_getD, List.getElem?_eq_getElem hi, hx]; rfl
    omega)
  subst hve
  have hwc : Below w.heap.size w wc := bstep hwb hbc
  clear hv CW W0
  go_wp2_with (at_make; refine wpList_make_full wc rfl _ _ 22 rfl wc.heap.size 3 ib (.int .i64 0) 1 Try.underlying22 hib hz0 hz1 .i64 .i64 N N N rfl rfl rfl rfl (by rw [hz2]; omega) (by unfold maxLen; omega) (Nat.le_refl _) ?_; intro wd how hgr)
  have hbd : Below wc.heap.size wc wd := below_new hgr
  have e0 : (madeCells (Value.int .i64 0).cells (N * 1)).toList = tab (fun u => Value.int .i64 (oft l 0 u)) N := by
    show (madeCells #[Value.int .i64 0] (N * 1)).toList = _
    rw [made_tab]
    refine tab_congr _ _ _ (fun u hu => ?_)
    have := oft_bd l N OK.out 0 u hu
    exact v_int (by omega)
  rw [e0] at how
  have hgl : wc.heap.size < wd.heap.size := (how.lt wc.heap.size rfl).2
  clear e0 hgr
  have HALC := hidp (fun wr (hb : Below wc.heap.size wc wr) => hal.below hb)
  generalize hgg : wc.heap.size = g at *
  have hwg : w.heap.size ≤ g := by have := hwc.size; omega
  clear hgg
  refine (isum_c _ _ _ l _ (HALC.out wd hbd) (fun k hk => by have := SB.out k hk; omega)).mono ?_
  rintro e w' ⟨rfl, rfl⟩
  rw [← HAE.out]
  go_wp2_with fail
  go_loopg [6, 32] A (fun gg s6 s wr => ∃ t la : Nat, t ≤ A ∧ A - t ≤ gg ∧ s = .int .i64 t ∧ s6 = .int .i64 la ∧ la ≤ N ∧ Hid (sumK l la ≤ t) ∧ wr.ownsRow g 3 1 (.slice (some ⟨g, 0, none⟩) N N) N (tab (fun u => Value.int .i64 (oft l t u)) N) ∧ Below g wc wr ∧ g < wr.heap.size)
  case atStart => exact ⟨0, 0, by omega, by omega, rfl, rfl, by omega, hidp (by simp [sumK]), how, hbd, hgl⟩
  case round =>
    obtain ⟨t, la, ht, hgt, rfl, rfl, hla, hls, ho, hbl, hgw⟩ := hrel
    by_cases hlt : t < A
    · go_wp2_with fail
      refine (CP.out _ _ t _ (HALC.out _ hbl) hlt).mono ?_
      rintro e we ⟨k, hk, rfl, hH, hbe⟩
      have hkl : la ≤ k := by
        rcases Nat.lt_or_ge k la with h | h
        · exfalso
          have := sumK_le l N OK.out (k + 1) la (by omega) (by omega)
          have := hls.out
          have := hH.out.2
          omega
        · exact h
      have hkl' : (la : Int) ≤ (k : Int) := by omega
      have ho2 := ho.kept (row := none) ⟨hbe.os, hbe.tape, hbe.output, hbe.size, fun k hk _ => hbe.block k hk⟩ (.inr (by simp [Value.ownBlock]))
      have hbl2 : Below g wc we := hbl.trans (hbe.mono (by omega))
      have hgw2 : g < we.heap.size := (ho2.lt g rfl).2
      have q2 := ho2.cellAt k (by omega)
      rw [tab_get _ _ _ hk] at q2
      have q3 := ho2.frozenAt k
      obtain ⟨b1, b2⟩ := oft_bd l N OK.out t k hk
      have ST := hidp (fun u (hu : u < N) => oft_step l N OK.out t k u hk hu hH.out.1 hH.out.2)
      clear ho hbe hbl hla hkl
      go_wp2_with fail
      go_roundg (A - (t + 1))
      case measure => omega
      case rel =>
        have st := own_store_tab ho2 k (.int .i64 (oft l t k + 1))
        refine ⟨t + 1, k, by omega, by omega, by go_num, by go_num, by omega, hidp (by have := hH.out.1; omega), ?_, hbl2.setCell (p := ⟨g, k, none⟩) (Nat.le_refl _) _, by simpa using hgw2⟩
        rw [tab_congr _ (fun u => if u = k then Value.int .i64 (oft l t k + 1) else Value.int .i64 (oft l t u)) N (fun u hu => by
          rw [ST.out u hu]
          by_cases e : u = k
          · rw [if_pos e, if_pos e]
          · rw [if_neg e, if_neg e])]
        exact st
    · obtain rfl : t = A := by omega
      have hall := HALC.out _ hbl
      have hfin : Below w.heap.size w wr := hwc.trans (hbl.mono hwg)
      have hl2 : tab (fun u => Value.int .i64 (oft l t u)) N = l.map (Value.int .i64) := by
        rw [map_tab l N HL.out]
        exact tab_congr _ _ _ (fun u hu => v_int (oft_all l N t OK.out HAE.out u hu))
      rw [hl2] at ho
      obtain ⟨ao, co, hve, hao⟩ := owns_ints ho hall.bd
      simp only [Value.slice.injEq] at hve
      obtain ⟨rfl, -, rfl⟩ := hve
      clear ho hl2
      go_wp2_with fail
      refine (equali_c _ _ _ _ _ _ l l _ hao hall).mono ?_
      rintro e wz ⟨rfl, hbz⟩
      rw [decide_eq_true rfl]
      go_wp2_with fail
      go_ret
      exact ⟨rfl, bstep hfin hbz⟩
end Go.Proofs.Ytmgagmnknhgkdaa.cumPicks
