/- The walk of culkeep.BoardKeeps. -/
import Derived.Test.YtmlkhiffmkkmdaaRuled
import Derived.Test.YtmlkhiffmkkmdaaBoardKeepsMath
import Derived.Test.YtmlkhiffmkkmdaaBoardAsk
import Derived.Test.YtmlkhiffmkkmdaaRuleOpen
import Derived.Test.YtmlkhiffmkkmdaaEqR
namespace Go.Proofs.Ytmlkhiffmkkmdaa
open Go.ChangeShapes Go.WideShapes Go.ChangeAt Go.RowKit Go.Lib
set_option maxRecDepth 20000
def kl3 : List Rl := [(⟨#[97]⟩, 3, 2)]
theorem kl3_ok : BdOk kl3 := ⟨by unfold Srt kl3; decide +kernel, by decide, fun q hq => by
  rcases List.mem_cons.1 hq with rfl | hq
  · decide +kernel
  · cases hq⟩
theorem kl3_ask : askL kl3 ⟨#[97, 98]⟩ = 3 ∧ askE kl3 ⟨#[97, 98]⟩ = 0 := by decide +kernel
theorem kput1_c (w : World) : Calls Try.prog 25 #[.slice none 0 0, .agg #[.string ⟨#[97]⟩, .int .i64 3, .int .i64 2]] w fun e w' => (∃ a c, e = .returned (.tuple #[.slice a 1 c, .int .i64 0]) ∧ RulesAt w' a 1 c kl3) ∧ Below w.heap.size w w' := by
  refine (bdput_c none 0 0 [] ⟨#[97]⟩ 3 2 w (rules_nil w) bd_nil).mono ?_
  rintro e w' ⟨h1, hb⟩
  refine ⟨?_, hb⟩
  rcases h1 with ⟨_, v, rfl, hv⟩ | ⟨h2, _⟩
  · obtain ⟨a', c', rfl, hR⟩ := owns_rules hv
    exact ⟨a', c', rfl, hR⟩
  · exact absurd (by decide +kernel) h2
theorem kput_c (a : Option Addr) (n c : Nat) (L : List Rl) (s : ByteArray) (l e : Int) (w : World) (h : RulesAt w a n c L) (ho : BdOk L) :
    Calls Try.prog 25 #[.slice a n c, .agg #[.string s, .int .i64 l, .int .i64 e]] w fun ee w' => ((putE L (s, l, e) = 0 ∧ ∃ a' c', ee = .returned (.tuple #[.slice a' (bput L (s, l, e)).length c', .int .i64 0]) ∧ RulesAt w' a' (bput L (s, l, e)).length c' (bput L (s, l, e))) ∨ (putE L (s, l, e) ≠ 0 ∧ ∃ x : Int, (x != 0) = true ∧ ee = .returned (.tuple #[.slice none 0 0, .int .i64 x]))) ∧ Below w.heap.size w w' := by
  refine (bdput_c a n c L s l e w h ho).mono ?_
  rintro ee w' ⟨h1, hb⟩
  refine ⟨?_, hb⟩
  rcases h1 with ⟨h2, v, rfl, hv⟩ | ⟨h2, h3⟩
  · obtain ⟨a', c', rfl, hR⟩ := owns_rules hv
    exact .inl ⟨h2, a', c', rfl, hR⟩
  · exact .inr ⟨h2, _, by simpa using h2, h3⟩
theorem run_cutS (s : ByteArray) (k : Nat) (hk : k ≤ s.size) (W : World) : (Instr.slice 9 (.string s) none (some (.int .i64 (k : Int))) none).run Try.prog W = .ok (.string (s.extract 0 k)) W := by
  rw [run_slice_string_h W 9 s Try.underlying9 .i64 (k : Int) (by omega) (by omega)]
  simp
set_option maxHeartbeats 16000000 in
theorem boardKeeps.walk (a0 : Option Addr) (len0 cap0 : Nat) (z0 : List (List Int)) (pp : ByteArray) (lv ep : Int) (nm : ByteArray) (w : World)
    (w0 : RowsAt w a0 len0 cap0 z0) (w2 : nm.size ≤ maxLen) :
    Calls Try.prog 9 #[.slice a0 len0 cap0, .agg #[.string pp, .int .i64 lv, .int .i64 ep], .string nm] w fun e w' => e = .returned (.bool true) ∧ Below w.heap.size w w' := by
  have RU := hidp (fun W (hb : Below w.heap.size w W) => ruled_c a0 len0 cap0 z0 W (w0.below hb))
  have RO := hidp (ruled_ok (z0.take 30)).1
  have RL := hidp (ruled_len z0)
  have P1 := hidp kput1_c
  have A1 := hidp (fun a c W (h : RulesAt W a 1 c kl3) => ask_c a 1 c kl3 ⟨#[97, 98]⟩ W h kl3_ok (by decide))
  rw [kl3_ask.1, kl3_ask.2] at A1
  have P2 := hidp (fun a n c W (h : RulesAt W a n c (ruledL z0)) => kput_c a n c (ruledL z0) pp lv ep W h RO.out)
  obtain ⟨R, hR⟩ : ∃ R, R = ruledL z0 := ⟨_, rfl⟩
  have RO2 : Hid (BdOk R) := hidp (by rw [hR]; exact RO.out)
  have RL2 : Hid (R.length ≤ 7) := hidp (by rw [hR]; exact RL.out)
  rw [← hR] at RU P2
  clear hR RO RL w0 w2
  obtain ⟨M, hM⟩ : ∃ M, M = bput R (pp, lv, ep) := ⟨_, rfl⟩
  have HM := hidp hM
  rw [← hM] at P2
  clear hM
  have f0 : (w.alloc (.cells #[.string pp, .int .i64 lv, .int .i64 ep] 51)).cell? ⟨w.heap.size, 0, none⟩ = some (.string pp) := by simp
  have f1 : (w.alloc (.cells #[.string pp, .int .i64 lv, .int .i64 ep] 51)).cell? ⟨w.heap.size, 1, none⟩ = some (.int .i64 lv) := by simp
  have f2 : (w.alloc (.cells #[.string pp, .int .i64 lv, .int .i64 ep] 51)).cell? ⟨w.heap.size, 2, none⟩ = some (.int .i64 ep) := by simp
  have B0 := bal (Below.refl _ w) (.cells #[.string pp, .int .i64 lv, .int .i64 ep] 51)
  go_enter Try.func9, Try.ntmps9
  go_upto_region 1 with fail
  generalize w.alloc (.cells #[.string pp, .int .i64 lv, .int .i64 ep] 51) = v0 at *
  go_wp2_with fail
  refine (P1.out _).mono ?_
  rintro e v1 ⟨⟨aa, ca, rfl, hR⟩, hb⟩
  have B1 := bstep B0 hb
  have g0 := ck hb f0
  have g1 := ck hb f1
  have g2 := ck hb f2
  have HR := hidp hR
  clear hb f0 f1 f2 B0 hR P1
  go_wp2_with fail
  refine (A1.out _ _ _ HR.out).mono ?_
  rintro e v2 ⟨rfl, hb⟩
  have B2 := bstep B1 hb
  replace g0 := ck hb g0
  replace g1 := ck hb g1
  replace g2 := ck hb g2
  clear hb B1 HR A1
  go_wp2_with fail
  refine (RU.out _ B2).mono ?_
  rintro e v3 ⟨v, rfl, hv, hb⟩
  obtain ⟨ar, cr, rfl, hR⟩ := owns_rules hv
  have B3 := bstep B2 hb
  replace g0 := ck hb g0
  replace g1 := ck hb g1
  replace g2 := ck hb g2
  have HR := hidp hR
  clear hb B2 hv hR RU
  have PP := P2.out _ _ _ _ HR.out
  have PQ := hidp PP
  clear PP P2
  go_wp2_with fail
  refine PQ.out.mono ?_
  rintro e v4 ⟨hpost, hb⟩
  have B4 := bstep B3 hb
  replace g0 := ck hb g0
  replace g1 := ck hb g1
  replace g2 := ck hb g2
  have HR4 := hidp (HR.out.below hb)
  clear hb B3 PQ HR
  rcases hpost with ⟨hput, am, cm, rfl, hMM⟩ | ⟨_, x, hx, rfl⟩
  case inr =>
    clear HR4 g0 g1 g2
    go_wp2_with fail
    go_ret
    exact ⟨rfl, B4⟩
  case inl =>
    have HP := hidp hput
    have HMM := hidp hMM
    clear hput hMM
    by_cases h200 : (200 : Int) < (nm.size : Int)
    · go_wp2_with fail
      go_ret
      exact ⟨rfl, B4⟩
    · go_wp2_with fail
      have one0 := putE_one R (pp, lv, ep) HP.out
      have hml : M.length < 16 := by
        have h1 := bput_lt R (pp, lv, ep) RO2.out.srt
        have h2 := RL2.out
        rw [HM.out]; omega
      have MO : BdOk M := by rw [HM.out]; exact bput_ok R _ RO2.out one0 (by rw [← HM.out]; omega)
      refine (ask_c ar R.length cr R nm v4 HR4.out RO2.out (by omega)).mono ?_
      rintro e v5 ⟨rfl, hb⟩
      have B5 := bstep B4 hb
      replace g0 := ck hb g0
      replace g1 := ck hb g1
      replace g2 := ck hb g2
      have HM5 := hidp (HMM.out.below hb)
      clear hb B4 HR4 HMM
      go_wp2_with fail
      refine (ask_c am M.length cm M nm v5 HM5.out MO (by omega)).mono ?_
      rintro e v6 ⟨rfl, hb⟩
      have B6 := bstep B5 hb
      replace g0 := ck hb g0
      replace g1 := ck hb g1
      replace g2 := ck hb g2
      have HM6 := hidp (HM5.out.below hb)
      have FAR := hidp (fun hf => ask_far R (pp, lv, ep) nm RO2.out.srt hf)
      have NEAR := hidp (fun hf => ask_put R (pp, lv, ep) nm RO2.out.srt (put_stands R _ RO2.out.srt HP.out one0) hf)
      have AG := put_again R (pp, lv, ep) RO2.out.srt HP.out one0 (by rw [← HM.out]; omega)
      have P3 := hidp (kput_c am M.length cm M pp lv ep)
      rw [← HM.out] at FAR NEAR AG
      rw [AG.1, AG.2] at P3
      have MO6 := hidp MO
      clear hb B5 HM5 AG MO hml one0 HP RO2 RL2 HM
      generalize askL R nm = x0 at *
      generalize askE R nm = y0 at *
      generalize askL M nm = x1 at *
      generalize askE M nm = y1 at *
      go_upto_region 15 with fail
      by_cases hlt : nm.size < pp.size
      · have hlt' : (nm.size : Int) < (pp.size : Int) := by omega
        have hb0 : begins nm pp = false := by
          cases hb : begins nm pp
          · rfl
          · have := begins_size hb; omega
        obtain ⟨rfl, rfl⟩ := FAR.out hb0
        clear NEAR FAR hlt hb0
        go_quiet (fail)
        generalize hv7 : v6.drewN nq = v7
        have B7 : Below w.heap.size w v7 := by rw [← hv7]; exact below_drewN B6 nq
        clear g0 g1 g2 hv7 B6
        go_wp2_with fail
        go_ret
        exact ⟨rfl, B7⟩
      · have hlt' : ¬ (nm.size : Int) < (pp.size : Int) := by omega
        have RS := run_cutS nm pp.size (by omega)
        obtain ⟨x, hx⟩ : ∃ x, x = nm.extract 0 pp.size := ⟨_, rfl⟩
        rw [← hx] at RS
        have BX := hidp (begins_x nm pp x (by omega) hx)
        clear hx hlt
        by_cases hxp : x = pp
        · have hb1 := BX.out.1 hxp
          rw [hxp] at RS
          have N2 := NEAR.out hb1
          clear NEAR FAR BX hb1 hxp
          go_quiet (fail)
          generalize hv7 : v6.drewN nq = v7
          have B7 : Below w.heap.size w v7 := by rw [← hv7]; exact below_drewN B6 nq
          have h0 : v7.cell? ⟨w.heap.size, 0, none⟩ = some (.string pp) := by rw [← hv7]; exact g0
          have h1 : v7.cell? ⟨w.heap.size, 1, none⟩ = some (.int .i64 lv) := by rw [← hv7]; exact g1
          have h2 : v7.cell? ⟨w.heap.size, 2, none⟩ = some (.int .i64 ep) := by rw [← hv7]; exact g2
          have HM7 : Hid (RulesAt v7 am M.length cm M) := hidp (by rw [← hv7]; exact HM6.out.below (below_drewN (Below.refl _ v6) nq))
          clear g0 g1 g2 hv7 B6 HM6 RS
          go_wp2_with fail
          refine (P3.out _ HM7.out MO6.out).mono ?_
          rintro e v8 ⟨hpost, hb⟩
          rcases hpost with ⟨_, ay, cy, rfl, hy⟩ | ⟨h00, _⟩
          case inr => exact absurd rfl h00
          have B8 := bstep B7 hb
          replace h1 := ck hb h1
          have HM8 := hidp (HM7.out.below hb)
          have HY := hidp hy
          have EQ := hidp (eqr_c ay am M.length cy cm M v8 HY.out HM8.out)
          clear hb hy HY HM7 HM8 MO6 P3 B7 h0 h2
          obtain ⟨rfl, hN⟩ := N2
          by_cases hxl : x1 = lv
          · subst hxl
            clear hN
            go_wp2_with fail
            refine EQ.out.mono ?_
            rintro e v9 ⟨rfl, hb⟩
            have B9 := bstep B8 hb
            clear hb EQ B8
            go_wp2_with fail
            go_ret
            exact ⟨rfl, B9⟩
          · obtain ⟨rfl, rfl⟩ := hN.resolve_left hxl
            clear hN
            have hxl2 : (x0 == lv) = false := by simpa using hxl
            go_wp2_with fail
            refine EQ.out.mono ?_
            rintro e v9 ⟨rfl, hb⟩
            have B9 := bstep B8 hb
            clear hb EQ B8
            go_wp2_with fail
            go_ret
            exact ⟨rfl, B9⟩
        · have hb0 := BX.out.2 hxp
          obtain ⟨rfl, rfl⟩ := FAR.out hb0
          have q2 : (x.toList == pp.toList) = false := by
            rw [ByteArray.toList_eq, ByteArray.toList_eq]
            cases hc : (x.data.toList == pp.data.toList) with
            | false => rfl
            | true => exact absurd (data_injB (by simpa using hc)) hxp
          clear NEAR FAR BX hb0
          go_quiet (fail)
          generalize hv7 : v6.drewN nq = v7
          have B7 : Below w.heap.size w v7 := by rw [← hv7]; exact below_drewN B6 nq
          clear g0 g1 g2 hv7 B6
          go_wp2_with fail
          go_ret
          exact ⟨rfl, B7⟩
end Go.Proofs.Ytmlkhiffmkkmdaa
