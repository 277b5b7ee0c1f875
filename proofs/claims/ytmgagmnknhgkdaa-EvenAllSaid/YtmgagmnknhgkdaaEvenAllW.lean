/- The walk of EvenAll: the law returns true at all inputs, and no old memory changes. -/
import Derived.Test.YtmgagmnknhgkdaaEven
import Derived.Test.YtmgagmnknhgkdaaQuota
import Derived.Test.YtmgagmnknhgkdaaEqI
import Derived.Test.YtmgagmnknhgkdaaWown
import Derived.Deep.LoopGhost
namespace Go.Proofs.Ytmgagmnknhgkdaa.evenAll
open Go.ChangeShapes Go.WideShapes Go.ChangeAt Go.RowKit
open Go.Proofs.Ytmgagmnknhgkdaa

theorem ex1 : (tab (evM [3] (2 : Nat) (1 : Nat) 1) 1).map (Value.int .i64) = [2].map (Value.int .i64) := by
  rw [show tab (evM [3] (2 : Nat) (1 : Nat) 1) 1 = [2] from by decide +kernel]
def sumQ (A x : Nat) : Nat → Nat
  | 0 => 0
  | t + 1 => sumQ A x t + qx A t x
theorem sumQ_step (A x : Nat) (hA : 0 < A) : ∀ m, m ≤ A → sumQ A (x + 1) m + (x + A - m) / A = sumQ A x m + (x + A) / A
  | 0, _ => by simp [sumQ]
  | m + 1, h => by
    have ih := sumQ_step A x hA m (by omega)
    simp only [sumQ]
    unfold qx
    rw [show x + 1 + A - 1 - m = x + A - m by omega, show x + A - 1 - m = x + A - (m + 1) by omega]
    omega
theorem sumQ_all (A : Nat) (hA : 0 < A) : ∀ x, sumQ A x A = x
  | 0 => by
    have : ∀ m, m ≤ A → sumQ A 0 m = 0 := by
      intro m
      induction m with
      | zero => intro _; rfl
      | succ m ih =>
        intro h
        simp only [sumQ]
        rw [ih (by omega)]
        unfold qx
        rw [Nat.div_eq_of_lt (by omega)]
    exact this A (Nat.le_refl _)
  | x + 1 => by
    have a := sumQ_step A x hA A (Nat.le_refl _)
    have b := sumQ_all A hA x
    rw [show x + A - A = x by omega, Nat.add_div_right _ hA] at a
    omega
/-- How often a thing is picked over the first beginnings. -/
def evT (xs : List Int) (K n i : Nat) : Nat → Int
  | 0 => 0
  | t + 1 => evT xs K n i t + evM xs K t n i
theorem evT_q (xs : List Int) (n : Nat) (h : okN xs n = true) (K i : Nat) (hi : i < n) : ∀ t : Nat, (t : Int) ≤ sumK xs n → evT xs K n i t = (sumQ (sumK xs n).toNat ((sumK xs (i + 1)).toNat * K) t : Nat) - (sumQ (sumK xs n).toNat ((sumK xs i).toNat * K) t : Nat)
  | 0, _ => by simp [evT, sumQ]
  | t + 1, ht => by
    have ih := evT_q xs n h K i hi t (by omega)
    have e := (evM_q xs n h K t (by omega) i hi).1
    simp only [evT, sumQ]
    rw [ih, e]
    omega
theorem evT_all (xs : List Int) (n : Nat) (h : okN xs n = true) (K i A : Nat) (hi : i < n) (hA : (A : Int) = sumK xs n) (hA1 : 0 < A) : evT xs K n i A = K * gi xs i := by
  rw [evT_q xs n h K i hi A (by omega), ← hA, Int.toNat_natCast, sumQ_all A hA1, sumQ_all A hA1]
  obtain ⟨S, hS⟩ := Int.eq_ofNat_of_zero_le (sumK_ok xs i (okN_down xs n i h (by omega))).1
  obtain ⟨W, hW⟩ := Int.eq_ofNat_of_zero_le (okN_at xs n h i hi).1
  rw [show sumK xs (i + 1) = ((S + W : Nat) : Int) by show sumK xs i + gi xs i = _; rw [hS, hW]; rfl, hS, hW]
  simp only [Int.toNat_natCast]
  rw [Nat.add_mul, ← Int.natCast_mul, Nat.mul_comm K W]
  omega
theorem evT_bd (xs : List Int) (K n i : Nat) : ∀ t : Nat, 0 ≤ evT xs K n i t ∧ evT xs K n i t ≤ K * t
  | 0 => by simp [evT]
  | t + 1 => by
    have a := evT_bd xs K n i t
    have b := evM_bd xs K t n i
    simp only [evT]
    rw [Int.natCast_add, Int.mul_add]
    simp
    omega
/-- On the road: the first i things are counted. -/
def road (xs : List Int) (K n t i u : Nat) : Int := if u < i then evT xs K n u (t + 1) else evT xs K n u t
set_option linter.unusedVariables false
set_option maxRecDepth 100000 in
set_option maxHeartbeats 4000000 in
theorem walk (a0 : Option Addr) (len0 cap0 : Nat) (z0 : List Int) (a1 : Int) (w : World)
    (w0 : IntsAt w a0 len0 cap0 z0) (w1 : (Lit.int .i64 a1).wf = true) :
    Calls Try.prog 7 #[.slice a0 len0 cap0, .int .i64 a1] w fun e w' => e = .returned (.bool true) ∧ Below w.heap.size w w' := by
  obtain ⟨ib, hib, hz0, hz1, hz2⟩ := info_parts info_int
  have mm := w0.max
  have ee := w0.le
  obtain ⟨N7, hN7⟩ : ∃ N7 : Nat, N7 = min len0 7 := ⟨_, rfl⟩
  have hmin : min (len0 : Int) 7 = (N7 : Int) := by omega
  have hN71 : N7 ≤ 7 := by omega
  have hN72 : N7 ≤ len0 := by omega
  have W0 := hidp (w0.take N7 hN72)
  obtain ⟨m, hm⟩ : ∃ m, m = wn a1 12 := ⟨_, rfl⟩
  have hm1 := wn_lt a1 12 (by omega)
  have cm := withinN_c a1 12 (by omega) (by omega)
  rw [← hm] at hm1 cm
  have CM := hidp cm
  obtain ⟨K, hK⟩ : ∃ K : Nat, K = m + 1 := ⟨_, rfl⟩
  have hK' : (1 : Int) + (m : Int) = (K : Int) := by omega
  have hK1 : 1 ≤ K ∧ K ≤ 12 := by omega
  have hok := wtL_ok (z0.take N7) 20 N7 (by omega) (by omega)
  have hpos := wtL_pos (z0.take N7) 20 N7 (by omega) (by omega)
  obtain ⟨N, hN⟩ : ∃ N : Nat, N = min N7 39 + 1 := ⟨_, rfl⟩
  have hN1 : 1 ≤ N ∧ N ≤ 8 := by omega
  have CW := hidp (fun W h => wown_c a0 N7 cap0 (z0.take N7) 20 W h (by omega) (by omega))
  have hup : ∀ i, i < N → gi (wtL (z0.take N7) 20 N7) i ≤ 20 := fun i hi => by
    unfold wtL; rw [tab_gi _ _ _ (by omega)]; have := wtF_bd (z0.take N7) 20 (by omega) i; omega
  rw [← hN] at hok hpos CW
  have sup := sumK_bd (wtL (z0.take N7) 20 N7) 20 (by omega) N (fun i hi => by have := hup i hi; have := okN_at _ N hok i hi; omega)
  obtain ⟨A, hAe⟩ : ∃ A : Nat, (A : Int) = sumK (wtL (z0.take N7) 20 N7) N := ⟨(sumK (wtL (z0.take N7) 20 N7) N).toNat, by omega⟩
  have hA1 : 1 ≤ A ∧ A ≤ 160 := by omega
  have CE := hidp (fun a c S W h (hS : S < A) => even_ok a N c (wtL (z0.take N7) 20 N7) K S K S rfl rfl W h (by omega) hok (by omega) (by omega) (by omega))
  have SB := hidp (fun k (hk : k ≤ N) => sumK_ok (wtL (z0.take N7) 20 N7) k (okN_down _ N k hok hk))
  have OK := hidp (okN_at (wtL (z0.take N7) 20 N7) N hok)
  have EA := hidp (fun i hi => evT_all (wtL (z0.take N7) 20 N7) N hok K i A hi hAe (by omega))
  have HAE := hidp hAe
  clear w1 hm cm hK hok hpos hN hAe sup hup w0 hN7
  generalize wtL (z0.take N7) 20 N7 = l at *
  have EB := hidp (fun i (t : Nat) (ht : t ≤ A) => show 0 ≤ evT l K N i t ∧ evT l K N i t ≤ 2000 by
    have a := evT_bd l K N i t
    have := mul_le_cast (a := K) (b := t) (A := 12) (B := 160) (by omega) (by omega)
    omega)
  go_enter Try.func7, Try.ntmps7
  go_wp2_with fail
  refine (even_ok _ 1 1 [3] 2 1 2 1 rfl rfl _ ?s0 (by omega) (by decide) (by omega) (by omega) (by decide)).mono ?_
  case s0 => exact ints_lit [3] (by simp) (by rfl) (by rfl) (by simp) (by omega)
  rintro e wa ⟨v, rfl, hv, hba⟩
  rw [ex1] at hv
  obtain ⟨av, cv, hve, hav⟩ := owns_ints hv (by simp)
  subst hve
  clear hv
  go_wp2_with fail
  refine (equali_c _ _ 1 1 _ _ [2] [2] _ (hav.alloc _) ?s3).mono ?_
  case s3 => exact ints_lit [2] (by simp) (by rfl) (by rfl) (by simp) (by omega)
  rintro e wb ⟨rfl, hbb⟩
  rw [decide_eq_true rfl]
  have hwb : Below w.heap.size w wb := bstep (bal (bstep (bal (Below.refl _ _) _) hba) _) hbb
  clear hba hbb hav
  go_wp2_with fail
  refine (CW.out _ (W0.out.below hwb)).mono ?_
  rintro e wc ⟨v, rfl, hv, hbc⟩
  obtain ⟨al, cl, hve, hal⟩ := owns_ints hv (fun x hx => by
    obtain ⟨i, hi, hx⟩ := List.getElem_of_mem hx
    have hl : l.length = N := by have := hv.1; simpa using this
    have := OK.out i (by omega)
    have e1 : gi l i = x := by unfold gi; rw [List.getD_eq_getElem?_getD, List.getElem?_eq_getElem hi, hx]; rfl
    omega)
  subst hve
  have hwc : Below w.heap.size w wc := bstep hwb hbc
  clear hv CW W0
  go_wp2_with fail
  refine (CM.out _).mono ?_; rintro e w' ⟨rfl, rfl⟩
  go_wp2_with (at_make; refine wpList_make_full wc rfl _ _ 22 rfl wc.heap.size 3 ib (.int .i64 0) 1 Try.underlying22 hib hz0 hz1 .i64 .i64 N N N rfl rfl rfl rfl (by rw [hz2]; omega) (by unfold maxLen; omega) (Nat.le_refl _) ?_; intro wd how hgr)
  have hbd : Below wc.heap.size wc wd := below_new hgr
  have e0 : (madeCells (Value.int .i64 0).cells (N * 1)).toList = tab (fun u => Value.int .i64 (evT l K N u 0)) N := by
    show (madeCells #[Value.int .i64 0] (N * 1)).toList = _
    rw [made_tab]; rfl
  rw [e0] at how
  have hgl : wc.heap.size < wd.heap.size := (how.lt wc.heap.size rfl).2
  clear e0 hgr
  have HALC := hidp (fun wr (hb : Below wc.heap.size wc wr) => hal.below hb)
  generalize hgg : wc.heap.size = g at *
  have HG := hidp hgg
  have hwg : w.heap.size ≤ g := by have := hwc.size; omega
  clear hgg
  refine (isum_c _ _ _ l _ (HALC.out wd hbd) (fun k hk => by have := SB.out k hk; omega)).mono ?_
  rintro e w' ⟨rfl, rfl⟩
  rw [← HAE.out]
  go_wp2_with fail
  go_loopg [42] A (fun gg s wr => ∃ t : Nat, t ≤ A ∧ A - t ≤ gg ∧ s = .int .i64 t ∧ wr.ownsRow g 3 1 (.slice (some ⟨g, 0, none⟩) N N) N (tab (fun u => Value.int .i64 (evT l K N u t)) N) ∧ Below g wc wr ∧ g < wr.heap.size)
  case atStart => exact ⟨0, by omega, by omega, rfl, how, hbd, hgl⟩
  case round =>
    obtain ⟨t, ht, hgt, rfl, ho, hbl, hgw⟩ := hrel
    by_cases hlt : t < A
    · go_wp2_with fail
      refine (CE.out _ _ t _ (HALC.out _ hbl) hlt).mono ?_
      rintro e we ⟨v, rfl, hv, hbe⟩
      obtain ⟨am, cm, hve, ham⟩ := owns_ints hv (fun x hx => by obtain ⟨i, hi, rfl⟩ := tab_mem _ _ _ hx; have := evM_bd l K t N i; omega)
      subst hve
      have hfar := owns_far hv
      obtain ⟨bm, om, rfl, hbm, hcm⟩ := ham.addr (by omega)
      have hbmg : g ≠ bm := by have := (hfar bm om rfl).1; omega
      have HM := hidp (fun i hi => show we.cell? ⟨bm, om + i, none⟩ = some (.int .i64 (evM l K t N i)) by have := hcm i hi; rw [tab_gi _ _ _ hi] at this; exact this)
      have ho2 := ho.kept (row := none) ⟨hbe.os, hbe.tape, hbe.output, hbe.size, fun k hk _ => hbe.block k hk⟩ (.inr (by simp [Value.ownBlock]))
      have ho3 : we.ownsRow g 3 1 (.slice (some ⟨g, 0, none⟩) N N) N (tab (fun u => Value.int .i64 (road l K N t 0 u)) N) := by
        rw [tab_congr _ (fun u => Value.int .i64 (evT l K N u t)) N (fun u _ => by unfold road; rw [if_neg (by omega)])]
        exact ho2
      have hbl2 : Below g wc we := hbl.trans (hbe.mono (by omega))
      have mcm := ham.max
      have lcm := ham.le
      have hne2 : ((N : Int) != (N : Int)) = false := by simp
      clear hv ham hfar hcm ho ho2 hbe
      go_wp2_with fail
      go_loopg [63] N (fun gg s wx => ∃ i : Nat, i ≤ N ∧ N - i ≤ gg ∧ s = .int .i64 i ∧ wx.ownsRow g 3 1 (.slice (some ⟨g, 0, none⟩) N N) N (tab (fun u => Value.int .i64 (road l K N t i u)) N) ∧ Below g wc wx ∧ g < wx.heap.size ∧ Hid (∀ i, i < N → wx.cell? ⟨bm, om + i, none⟩ = some (.int .i64 (evM l K t N i))))
      case atStart => exact ⟨0, by omega, by omega, rfl, ho3, hbl2, (ho3.lt g rfl).2, HM⟩
      case round =>
        obtain ⟨i, hi, hgi, rfl, hox, hbx, hgx, hmx⟩ := hrel
        by_cases hli : i < N
        · have q1 := hmx.out i hli
          have q2 := hox.cellAt i (by omega)
          rw [tab_get _ _ _ hli, show road l K N t i i = evT l K N i t by unfold road; rw [if_neg (by omega)]] at q2
          have q3 := hox.frozenAt i
          have E := hidp (show evT l K N i (t + 1) = evT l K N i t + evM l K t N i from rfl)
          obtain ⟨b1, b2⟩ := EB.out i t (by omega)
          have eb := evM_bd l K t N i
          obtain ⟨eb1, eb2⟩ := eb
          go_wp2_with fail
          go_roundg (N - (i + 1))
          case measure => omega
          case rel =>
            have st := own_store_tab hox i (.int .i64 (evT l K N i t + evM l K t N i))
            refine ⟨i + 1, by omega, by omega, by go_num, ?_, hbx.setCell (p := ⟨g, i, none⟩) (Nat.le_refl _) _, by simpa using hgx, hidp (fun u hu => ?_)⟩
            · rw [tab_congr _ (fun u => if u = i then Value.int .i64 (evT l K N i t + evM l K t N i) else Value.int .i64 (road l K N t i u)) N (fun u _ => by
                unfold road
                by_cases e : u = i
                · rw [if_pos e, if_pos (by omega), e, E.out]
                · rw [if_neg e]
                  by_cases e2 : u < i
                  · rw [if_pos e2, if_pos (by omega)]
                  · rw [if_neg e2, if_neg (by omega)])]
              exact st
            · rw [World.cell?_setCell_far _ _ _ _ hbmg]
              exact hmx.out u hu
        · obtain rfl : i = N := by omega
          go_wp2_with fail
          go_roundg (A - (t + 1))
          case measure => omega
          case rel =>
            refine ⟨t + 1, by omega, by omega, by go_num, ?_, hbx, hgx⟩
            rw [tab_congr _ (fun u => Value.int .i64 (road l K i t i u)) i (fun u hu => by unfold road; rw [if_pos hu])]
            exact hox
    · obtain rfl : t = A := by omega
      have hall := HALC.out _ hbl
      obtain ⟨bl, ol, rfl, hbb, hcl⟩ := hall.addr (by omega)
      have HL := hidp hcl
      have mcl := hall.max
      have lcl := hall.le
      have HO := hidp (fun i (hi : i < N) => show wr.cell? ⟨g, i, none⟩ = some (Value.int .i64 ((K : Int) * gi l i)) by rw [← EA.out i hi]; exact (ho.cellAt i (by omega)).trans (tab_get _ _ _ hi))
      have hfin : Below w.heap.size w wr := hwc.trans (hbl.mono hwg)
      clear hall hcl ho
      go_wp2_with fail
      go_loop [79] (fun s => ∃ i : Nat, i ≤ N ∧ s = .int .i64 i) (fun s => N - (intOf s).toNat)
      case atStart => exact ⟨0, by omega, rfl⟩
      case round =>
        obtain ⟨i, hi, rfl⟩ := hrel
        by_cases hli : i < N
        · have q1 := (HL.out i hli)
          have q2 := HO.out i hli
          obtain ⟨o1, o2⟩ := OK.out i hli
          have hkg : 0 ≤ (K : Int) * gi l i ∧ (K : Int) * gi l i ≤ 12000000000000 := by
            obtain ⟨G, hG⟩ := Int.eq_ofNat_of_zero_le o1
            rw [hG] at o2 ⊢
            exact ⟨Int.mul_nonneg (by omega) (by omega), mul_le_cast (A := 12) (B := 1000000000000) (by omega) (by omega)⟩
          have hne3 : ((K : Int) * gi l i != (K : Int) * gi l i) = false := by simp
          obtain ⟨kg1, kg2⟩ := hkg
          go_wp2_with fail
          go_round
          case rel => exact ⟨i + 1, by omega, by go_num⟩
          case measure => simp [intOf]; omega
        · obtain rfl : i = N := by omega
          go_wp2_with fail
          go_ret
          exact ⟨rfl, hfin⟩
end Go.Proofs.Ytmgagmnknhgkdaa.evenAll
