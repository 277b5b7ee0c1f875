/- The walk of AliasPicks: the law returns true at all inputs, and no old memory changes. -/
import Derived.Test.YtmgagmnknhgkdaaAliasUse
import Derived.Test.YtmgagmnknhgkdaaWown
import Derived.Deep.LoopGhost
import Derived.Deep.DeepCutAuto
namespace Go.Proofs.Ytmgagmnknhgkdaa.aliasPicks
open Go.ChangeShapes Go.WideShapes Go.ChangeAt Go.RowKit
set_option maxRecDepth 20000
open Go.Proofs.Ytmgagmnknhgkdaa

/-- How often a thing is picked by the first c columns, and by p parts of the next. -/
def ofI (own : Nat → Int) (rest : Nat → Nat) (A : Int) (c p j : Nat) : Int := shF own rest A c j + (if c = j then min (p : Int) (own c) else 0) + (if rest c = j then (p : Int) - min (p : Int) (own c) else 0)
theorem ofI_zero (own : Nat → Int) (rest : Nat → Nat) (A : Int) (c j : Nat) (h : 0 ≤ own c) : ofI own rest A c 0 j = shF own rest A c j := by
  unfold ofI
  split <;> split <;> omega
theorem ofI_end (own : Nat → Int) (rest : Nat → Nat) (A : Nat) (c j : Nat) (h : own c ≤ A) : ofI own rest A c A j = shF own rest A (c + 1) j := by
  unfold ofI shF
  simp only [Wk.sumT]
  generalize Wk.sumT (fun i => if rest i = j then (A : Int) - own i else 0) c = S
  have hm : min (A : Int) (own c) = own c := by omega
  rw [hm]
  by_cases e : c = j
  · subst e
    rw [if_pos (show c = c from rfl), if_neg (show ¬ c < c by omega), if_pos (show c < c + 1 by omega)]
    omega
  · rw [if_neg (show ¬ c = j from e)]
    by_cases e2 : j < c
    · rw [if_pos (show j < c from e2), if_pos (show j < c + 1 by omega)]
      omega
    · rw [if_neg (show ¬ j < c from e2), if_neg (show ¬ j < c + 1 by omega)]
      omega
theorem ofI_step (own : Nat → Int) (rest : Nat → Nat) (A : Int) (c p j : Nat) : (if j = apk own rest c p then ofI own rest A c p (apk own rest c p) + 1 else ofI own rest A c p j) = ofI own rest A c (p + 1) j := by
  have key : ofI own rest A c (p + 1) j = ofI own rest A c p j + (if j = apk own rest c p then 1 else 0) := by
    unfold ofI apk
    by_cases h : (p : Int) < own c
    · rw [if_pos h]
      have h1 : min ((p + 1 : Nat) : Int) (own c) = (p : Int) + 1 := by omega
      have h2 : min (p : Int) (own c) = (p : Int) := by omega
      rw [h1, h2]
      by_cases e : c = j
      · rw [if_pos e, if_pos e, if_pos e.symm]; split <;> omega
      · rw [if_neg e, if_neg e, if_neg (show ¬ j = c from fun h => e h.symm)]; split <;> omega
    · rw [if_neg h]
      have h1 : min ((p + 1 : Nat) : Int) (own c) = own c := by omega
      have h2 : min (p : Int) (own c) = own c := by omega
      rw [h1, h2]
      by_cases e : rest c = j
      · rw [if_pos e, if_pos e, if_pos e.symm]; split <;> omega
      · rw [if_neg e, if_neg e, if_neg (show ¬ j = rest c from fun h => e h.symm)]; split <;> omega
  rw [key]
  by_cases e : j = apk own rest c p
  · rw [if_pos e, if_pos e, ← e]
  · rw [if_neg e, if_neg e]; omega
theorem ofI_bd (own : Nat → Int) (rest : Nat → Nat) (A : Int) (n c p j : Nat) (hb : ∀ i, i < n → 0 ≤ own i ∧ own i ≤ A) (bA : A ≤ 40000000000000) (h0 : 0 ≤ A) (hc : c < n) (hj : j < n) (hn : n ≤ 40) (hp : (p : Int) ≤ A) : 0 ≤ ofI own rest A c p j ∧ ofI own rest A c p j ≤ 1800000000000000 := by
  have a := shF_bd own rest A n c j hb bA h0 (by omega) hj hn
  have b := hb c hc
  unfold ofI
  split <;> split <;> omega
theorem apk_lt (own : Nat → Int) (rest : Nat → Nat) (n c p : Nat) (hc : c < n) (hr : ∀ i, i < n → rest i < n) : apk own rest c p < n := by
  unfold apk
  split
  · exact hc
  · exact hr c hc
theorem sh_law {n : Nat} {A : Int} {V own : Nat → Int} {rest : Nat → Nat} (h : Wk.Fin n A V own rest) (j : Nat) (hj : j < n) : shF own rest A n j = V j := by
  rw [← h.sh j hj]
  unfold shF
  rw [if_pos hj]

set_option linter.unusedVariables false
set_option maxRecDepth 100000 in
set_option maxHeartbeats 4000000 in
theorem walk (a0 : Option Addr) (len0 cap0 : Nat) (z0 : List Int) (w : World)
    (w0 : IntsAt w a0 len0 cap0 z0) :
    Calls Try.prog 13 #[.slice a0 len0 cap0] w fun e w' => e = .returned (.bool true) ∧ Below w.heap.size w w' := by
  obtain ⟨ib, hib, hz0, hz1, hz2⟩ := info_parts info_int
  have mm := w0.max
  have ee := w0.le
  obtain ⟨N9, hN9⟩ : ∃ N9 : Nat, N9 = min len0 9 := ⟨_, rfl⟩
  have hmin : min (len0 : Int) 9 = (N9 : Int) := by omega
  have hN91 : N9 ≤ 9 := by omega
  have hN92 : N9 ≤ len0 := by omega
  have W0 := hidp (w0.take N9 hN92)
  have hok := wtL_ok (z0.take N9) 20 N9 (by omega) (by omega)
  have hpos := wtL_pos (z0.take N9) 20 N9 (by omega) (by omega)
  obtain ⟨N, hN⟩ : ∃ N : Nat, N = min N9 39 + 1 := ⟨_, rfl⟩
  have hN1 : 1 ≤ N ∧ N ≤ 10 := by omega
  have hl : (wtL (z0.take N9) 20 N9).length = N := by unfold wtL; rw [tab_len, hN]
  have CW := hidp (fun W h => wown_c a0 N9 cap0 (z0.take N9) 20 W h (by omega) (by omega))
  rw [← hN] at hok hpos CW
  obtain ⟨A, hAe⟩ : ∃ A : Nat, (A : Int) = sumK (wtL (z0.take N9) 20 N9) N := ⟨(sumK (wtL (z0.take N9) 20 N9) N).toNat, by omega⟩
  have hA1 : 1 ≤ A := by omega
  have hA2 := (sumK_ok _ N hok).2
  have CM := hidp (fun a c W h => make_c a N c (wtL (z0.take N9) 20 N9) W h (wtsE_ok _ _ (by omega) hok (by omega)))
  have SB := hidp (fun k (hk : k ≤ N) => sumK_ok (wtL (z0.take N9) 20 N9) k (okN_down _ N k hok hk))
  have OKA := hidp (okN_at (wtL (z0.take N9) 20 N9) N hok)
  have BD := hidp (fun k (hk : k < N) => prod_bd (gi (wtL (z0.take N9) 20 N9) k) N (by omega) (okN_at _ N hok k hk).1 (okN_at _ N hok k hk).2)
  have HL := hidp hl
  have HAE := hidp hAe
  have hA3 : A ≤ 10000000000000 := by omega
  clear hok hpos hN hAe w0 hN9 hl hA2
  generalize wtL (z0.take N9) 20 N9 = l at *
  go_enter Try.func13, Try.ntmps13
  go_wp2_with fail
  refine (apick_c w.heap.size (w.heap.size + 1) 2 4 (gi [2, 4]) (fun _ => 1) _ ?s0 0 2 (by omega) (by omega)).mono ?_
  case s0 =>
    have h1 : IntsAt (w.alloc (.cells #[.int .i64 2, .int .i64 4] 3)) (some ⟨w.heap.size, 0, none⟩) 2 2 [2, 4] := ints_lit [2, 4] rfl rfl rfl (by simp) (by omega)
    have h2 : IntsAt ((w.alloc (.cells #[.int .i64 2, .int .i64 4] 3)).alloc (.cells #[.int .i64 1, .int .i64 1] 3)) (some ⟨w.heap.size + 1, 0, none⟩) 2 2 [1, 1] := ints_lit [1, 1] (by simp) rfl rfl (by simp) (by omega)
    refine ⟨fun i hi => ?_, fun i hi => ?_, by omega, by omega, fun i hi => ?_, fun i hi => by omega⟩
    · have := ints_cell (h1.alloc (.cells #[.int .i64 1, .int .i64 1] 3)) i hi
      rw [Nat.zero_add] at this
      exact this
    · have := ints_cell h2 i hi
      rw [Nat.zero_add] at this
      have e : i = 0 ∨ i = 1 := by omega
      rcases e with rfl | rfl <;> exact this
    · have e : i = 0 ∨ i = 1 := by omega
      rcases e with rfl | rfl <;> decide
  rintro e wb ⟨rfl, hbb⟩
  rw [show apk (gi [2, 4]) (fun _ => 1) 0 2 = 1 from by decide]
  have hwb : Below w.heap.size w wb := bstep (bal (bal (Below.refl _ _) _) _) hbb
  clear hbb
  go_wp2_with fail
  refine (CW.out _ (W0.out.below hwb)).mono ?_
  rintro e wc ⟨v, rfl, hv, hbc⟩
  obtain ⟨al, cl, hve, hal⟩ := owns_ints hv (fun x hx => by
    obtain ⟨i, hi, hx⟩ := List.getElem_of_mem hx
    have hl := HL.out
    have := OKA.out i (by omega)
    have e1 : gi l i = x := by unfold gi; rw [List.getD_eq_getElem?_getD, List.getElem?_eq_getElem hi, hx]; rfl
    omega)
  subst hve
  have hwc : Below w.heap.size w wc := bstep hwb hbc
  have HAL := hidp hal
  clear hv CW W0 hal hwb hbc
  go_wp2_with fail
  refine (CM.out _ _ _ HAL.out).mono ?_
  rintro e wd ⟨g1, g2, own, rest, rfl, hF, -, o1, o2, hbd⟩
  rw [← HAE.out] at hF ⊢
  have HAA := hidp ((AliasAt.of hF o1 o2 ⟨by omega, by omega⟩ ⟨by omega, by omega⟩).below (W' := (wd.alloc (.cells #[.int .i64 (A : Nat), .slice (some ⟨g1, 0, none⟩) N N, .slice (some ⟨g2, 0, none⟩) N N] 24))) ((Below.refl _ _).alloc (Nat.le_refl _) _))
  have SH := hidp (fun j hj => sh_law hF j hj)
  have HAL2 := hidp (HAL.out.below (w' := (wd.alloc (.cells #[.int .i64 (A : Nat), .slice (some ⟨g1, 0, none⟩) N N, .slice (some ⟨g2, 0, none⟩) N N] 24))) (hbd.alloc (by have := hbd.size; omega) _))
  have hwe : Below w.heap.size w (wd.alloc (.cells #[.int .i64 (A : Nat), .slice (some ⟨g1, 0, none⟩) N N, .slice (some ⟨g2, 0, none⟩) N N] 24)) := bal (bstep hwc hbd) _
  have c0 : (wd.alloc (.cells #[.int .i64 (A : Nat), .slice (some ⟨g1, 0, none⟩) N N, .slice (some ⟨g2, 0, none⟩) N N] 24)).cell? ⟨wd.heap.size, 0, none⟩ = some (.int .i64 (A : Nat)) := by go_simp
  have c1 : (wd.alloc (.cells #[.int .i64 (A : Nat), .slice (some ⟨g1, 0, none⟩) N N, .slice (some ⟨g2, 0, none⟩) N N] 24)).cell? ⟨wd.heap.size, 1, none⟩ = some (.slice (some ⟨g1, 0, none⟩) N N) := by go_simp
  have c2 : (wd.alloc (.cells #[.int .i64 (A : Nat), .slice (some ⟨g1, 0, none⟩) N N, .slice (some ⟨g2, 0, none⟩) N N] 24)).cell? ⟨wd.heap.size, 2, none⟩ = some (.slice (some ⟨g2, 0, none⟩) N N) := by go_simp
  clear hF o1 o2 hbd HAL hwc CM
  go_upto_region 8 with fail
  generalize (wd.alloc (.cells #[.int .i64 (A : Nat), .slice (some ⟨g1, 0, none⟩) N N, .slice (some ⟨g2, 0, none⟩) N N] 24)) = we at *
  generalize wd.heap.size = P at *
  have C0 := hidp c0
  have C1 := hidp c1
  have C2 := hidp c2
  have HWE := hidp hwe
  clear c0 c1 c2 hwe
  go_wp2_with (at_make; refine wpList_make_full we rfl _ _ 22 rfl we.heap.size 3 ib (.int .i64 0) 1 Try.underlying22 hib hz0 hz1 .i64 .i64 N N N rfl rfl rfl rfl (by rw [hz2]; omega) (by unfold maxLen; omega) (Nat.le_refl _) ?_; intro wf how hgr)
  have hbf : Below we.heap.size we wf := below_new hgr
  have e0 : (madeCells (Value.int .i64 0).cells (N * 1)).toList = row (shF own rest A 0) N := by
    show (madeCells #[Value.int .i64 0] (N * 1)).toList = _
    rw [made_tab]
    exact tab_congr _ _ _ (fun i _ => by simp [shF, Wk.sumT])
  rw [e0] at how
  have hgl : we.heap.size < wf.heap.size := (how.lt we.heap.size rfl).2
  have hwg : w.heap.size ≤ we.heap.size := HWE.out.size
  clear e0 hgr
  have HC0 := hidp (fun wr (hb : Below we.heap.size we wr) => ck hb C0.out)
  have HC1 := hidp (fun wr (hb : Below we.heap.size we wr) => ck hb C1.out)
  have HC2 := hidp (fun wr (hb : Below we.heap.size we wr) => ck hb C2.out)
  have HAB := hidp (fun wr (hb : Below we.heap.size we wr) => HAA.out.below hb)
  have HALC := hidp (fun wr (hb : Below we.heap.size we wr) => HAL2.out.below hb)
  obtain ⟨bb, bo, hbz, hbx⟩ := HAL2.out.split
  obtain rfl : al = some ⟨bb, bo, none⟩ := hbz.resolve_left (by omega)
  have HBX := hidp (fun wr (hb : Below we.heap.size we wr) k (hk : k < N) => carry_cell (hbx k hk) hb)
  have OB := hidp (fun c p j hc hj hp => ofI_bd own rest A N c p j HAA.out.bd (by omega) (by omega) hc hj (by omega) hp)
  clear hbz hbx C0 C1 C2 HAL2
  generalize hgg : we.heap.size = g at *
  have HGG := hidp hgg
  clear hgg
  go_loopg [45] N (fun gg i wr => ∃ c : Nat, c ≤ N ∧ N - c ≤ gg ∧ i = .int .i64 c ∧ wr.ownsRow g 3 1 (.slice (some ⟨g, 0, none⟩) N N) N (row (shF own rest A c) N) ∧ Below g we wr ∧ g < wr.heap.size)
  case atStart => exact ⟨0, by omega, by omega, rfl, how, hbf, hgl⟩
  case round =>
    clear how hbf hgl
    obtain ⟨c, hc, hgc, rfl, ho, hbl, hgw⟩ := hrel
    by_cases hlt : c < N
    · go_wp2_with fail
      refine (isum_c _ _ _ l _ (HALC.out wr hbl) (fun k hk => by have := SB.out k hk; omega)).mono ?_
      rintro e w' ⟨rfl, rfl⟩
      rw [← HAE.out]
      have BDc := (HAA.out.bd c hlt)
      have ho0 : wr.ownsRow g 3 1 (.slice (some ⟨g, 0, none⟩) N N) N (row (ofI own rest A c 0) N) := by
        rw [show row (ofI own rest A c 0) N = row (shF own rest A c) N from tab_congr _ _ _ (fun j _ => by rw [ofI_zero _ _ _ _ _ BDc.1])]
        exact ho
      have EN := hidp (fun j => ofI_end own rest A c j BDc.2)
      have HO := hidp ho0
      clear ho ho0 BDc
      go_wp2_with fail
      go_loopg [50] A (fun gg s wx => ∃ p : Nat, p ≤ A ∧ A - p ≤ gg ∧ s = .int .i64 p ∧ wx.ownsRow g 3 1 (.slice (some ⟨g, 0, none⟩) N N) N (row (ofI own rest A c p) N) ∧ Below g we wx ∧ g < wx.heap.size)
      case atStart => exact ⟨0, by omega, by omega, rfl, HO.out, hbl, hgw⟩
      case round =>
        clear HO hbl hgw
        obtain ⟨p, hp, hgp, rfl, ho, hbl, hgw⟩ := hrel
        by_cases hlp : p < A
        · have q0 := HC0.out _ hbl
          have q1 := HC1.out _ hbl
          have q2 := HC2.out _ hbl
          go_wp2_with fail
          refine (apick_c g1 g2 N A own rest _ (HAB.out _ hbl) c p hlt (by omega)).mono ?_
          rintro e wy ⟨rfl, hby⟩
          have hk := apk_lt own rest N c p hlt HAA.out.rt
          have STEP := hidp (fun j => ofI_step own rest A c p j)
          have ho2 := ho.kept (row := none) ⟨hby.os, hby.tape, hby.output, hby.size, fun k hk _ => hby.block k hk⟩ (.inr (by simp [Value.ownBlock]))
          have hbl2 : Below g we wy := hbl.trans (hby.mono (by omega))
          have hgw2 : g < wy.heap.size := (ho2.lt g rfl).2
          generalize apk own rest c p = a at *
          obtain ⟨b1, b2⟩ := OB.out c p a hlt hk (by omega)
          have x2 := ho2.cellAt a (by omega)
          unfold row at x2
          rw [tab_get _ _ _ hk] at x2
          have x3 := ho2.frozenAt a
          have kI : (a : Int) < (N : Int) := by omega
          clear ho hby hbl q0 q1 q2
          go_wp2_with fail
          go_roundg (A - (p + 1))
          case measure => omega
          case rel =>
            have st := own_store_tab ho2 a (.int .i64 (ofI own rest A c p a + 1))
            refine ⟨p + 1, by omega, by omega, by go_num, ?_, hbl2.setCell (p := ⟨g, a, none⟩) (Nat.le_refl _) _, by simpa using hgw2⟩
            rw [show row (ofI own rest A c (p + 1)) N = tab (fun j => if j = a then Value.int .i64 (ofI own rest A c p a + 1) else Value.int .i64 (ofI own rest A c p j)) N from tab_congr _ _ _ (fun j _ => by
              rw [← STEP.out j]
              by_cases e : j = a
              · rw [if_pos e, if_pos e]
              · rw [if_neg e, if_neg e])]
            exact st
        · obtain rfl : p = A := by omega
          have ho2 : wr.ownsRow g 3 1 (.slice (some ⟨g, 0, none⟩) N N) N (row (shF own rest p (c + 1)) N) := by
            rw [show row (shF own rest p (c + 1)) N = row (ofI own rest p c p) N from tab_congr _ _ _ (fun j _ => by rw [EN.out])]
            exact ho
          clear ho
          go_wp2_with fail
          go_roundg (N - (c + 1))
          case measure => omega
          case rel => exact ⟨c + 1, by omega, by omega, by go_num, ho2, hbl, hgw⟩
    · obtain rfl : c = N := by omega
      have HOF := hidp ho
      have hfin : Below w.heap.size w wr := HWE.out.trans (hbl.mono hwg)
      clear ho
      go_wp2_with fail
      go_loop [82] (fun i => ∃ k : Nat, k ≤ c ∧ i = .int .i64 k) (fun i => c - (intOf i).toNat)
      case atStart => exact ⟨0, by omega, rfl⟩
      case round =>
        obtain ⟨k, hk, rfl⟩ := hrel
        by_cases hlk : k < c
        · have q1 := HBX.out _ hbl k hlk
          have q2 := HOF.out.cellAt k (by omega)
          unfold row at q2
          rw [tab_get _ _ _ hlk, SH.out k hlk] at q2
          unfold ws at q2
          obtain ⟨b1, b2⟩ := BD.out k hlk
          have hne : ((gi l k * (c : Int)) != (gi l k * (c : Int))) = false := by simp
          go_wp2_with fail
          go_round
          case rel => exact ⟨k + 1, by omega, by go_num⟩
          case measure => simp [intOf]; omega
        · obtain rfl : k = c := by omega
          go_wp2_with fail
          go_ret
          exact ⟨rfl, hfin⟩
end Go.Proofs.Ytmgagmnknhgkdaa.aliasPicks
