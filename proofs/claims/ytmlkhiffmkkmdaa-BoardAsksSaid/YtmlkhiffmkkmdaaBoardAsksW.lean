/- The walk of culkeep.BoardAsks. -/
import Derived.Test.YtmlkhiffmkkmdaaRuled
import Derived.Test.YtmlkhiffmkkmdaaBoardAsksMath
import Derived.Test.YtmlkhiffmkkmdaaBoardAsk
namespace Go.Proofs.Ytmlkhiffmkkmdaa
open Go.ChangeShapes Go.WideShapes Go.ChangeAt Go.RowKit Go.Lib
set_option maxRecDepth 20000
theorem bdok_len {w : World} {v : Value} {n base : Nat} {e : TypeId} {L : List Rl} (h : w.ownsRow base e 3 v n (rsV L)) : L.length = n := by
  obtain ⟨_, _, _, h2⟩ := owns_rules h
  exact h2.len
theorem askput_c (a : Option Addr) (n c : Nat) (ls : List (List Int)) (s : ByteArray) (l : Int) (w : World) (h : RulesAt w a n c (ruledL ls)) (hs : txtE s = false) (h1 : 0 ≤ l) (h2 : l < 21) :
    Calls Try.prog 25 #[.slice a n c, .agg #[.string s, .int .i64 l, .int .i64 100]] w fun ee w' => (∃ a' m c', ee = .returned (.tuple #[.slice a' m c', .int .i64 0]) ∧ RulesAt w' a' m c' (bput (ruledL ls) (s, l, 100))) ∧ Below w.heap.size w w' := by
  have hp := asks_put ls s l hs h1 h2
  refine (bdput_c a n c _ s l 100 w h (ruled_ok (ls.take 30)).1).mono ?_
  rintro ee w' ⟨h3, hb⟩
  refine ⟨?_, hb⟩
  rcases h3 with ⟨_, v, rfl, hv⟩ | ⟨h4, _⟩
  · obtain ⟨a', c', rfl, hR⟩ := owns_rules hv
    exact ⟨a', _, c', rfl, hR⟩
  · exact absurd hp.1 h4
def lit2 : List Rl := [(⟨#[]⟩, 1, 1), (⟨#[97, 98]⟩, 2, 1)]
theorem lit2_ok : BdOk lit2 := ⟨by unfold Srt lit2; decide +kernel, by decide, by
  intro q hq
  rcases List.mem_cons.1 hq with rfl | hq
  · decide +kernel
  · rcases List.mem_cons.1 hq with rfl | hq
    · decide +kernel
    · cases hq⟩
theorem lit2_ask : askL lit2 ⟨#[97, 98, 99]⟩ = 2 ∧ askE lit2 ⟨#[97, 98, 99]⟩ = 0 := by decide +kernel
theorem lit2_at (w : World) (T : TypeId) : RulesAt (w.alloc (.cells #[.string ⟨#[]⟩, .int .i64 1, .int .i64 1, .string ⟨#[97, 98]⟩, .int .i64 2, .int .i64 1] T)) (some ⟨w.heap.size, 0, none⟩) 2 2 lit2 := by
  refine ⟨rfl, Nat.le_refl _, by omega, fun _ => ⟨_, _, rfl, by simp, fun i hi => ?_⟩⟩
  rcases (by omega : i = 0 ∨ i = 1) with rfl | rfl <;> (refine ⟨?_, ?_, ?_⟩ <;> (go_simp; try rfl))
set_option maxHeartbeats 8000000 in
theorem boardAsks.walk (a0 : Option Addr) (len0 cap0 : Nat) (z0 : List (List Int)) (a1 : ByteArray) (a2 : Int) (w : World)
    (w0 : RowsAt w a0 len0 cap0 z0) (w1 : a1.size ≤ maxLen) (w2 : (Lit.int .i64 a2).wf = true) :
    Calls Try.prog 8 #[.slice a0 len0 cap0, .string a1, .int .i64 a2] w fun e w' => e = .returned (.bool true) ∧ Below w.heap.size w w' := by
  have RU := hidp (fun W (hb : Below w.heap.size w W) => ruled_c a0 len0 cap0 z0 W (w0.below hb))
  have A0 := hidp (fun W (h : RulesAt W (some ⟨w.heap.size, 0, none⟩) 2 2 lit2) => ask_c (some ⟨w.heap.size, 0, none⟩) 2 2 lit2 ⟨#[97, 98, 99]⟩ W h lit2_ok (by decide))
  rw [lit2_ask.1, lit2_ask.2] at A0
  have WN := hidp (fun W => withinN_c a1.size 5 (by omega) (by omega) W)
  have WL := hidp (fun W => within_c a2 21 (by omega) (by omega) W)
  have ht := wn_lt a1.size 5 (by omega)
  have l1 := wi_lo a2 21 (by omega)
  have l2 := wi_hi a2 21 (by omega)
  generalize wn a1.size 5 = t at *
  generalize wi a2 21 = lv at *
  have ht5 : t < 5 := by omega
  have N5 := nm5_ok t ht5
  have FAR := hidp (ask_far (ruledL z0) (nm5 t ++ ⟨#[120]⟩, lv, 100) (nm5 t) (ruled_ok (z0.take 30)).1.srt N5.2.2.1)
  have P1 := hidp (asks_put z0 (nm5 t ++ ⟨#[120]⟩) lv N5.2.1 l1 l2)
  have P2 := hidp (asks_put z0 (nm5 t) lv N5.1 l1 l2)
  have NEAR := hidp (ask_near (ruledL z0) (nm5 t, lv, 100) (ruled_ok (z0.take 30)).1.srt P2.out.2.2)
  have RB := hidp (ruled_ok (z0.take 30)).1
  have N4 := N5.2.2.2
  have C1 := hidp (fun a n c W h => askput_c a n c z0 (nm5 t ++ ⟨#[120]⟩) lv W h N5.2.1 l1 l2)
  have C2 := hidp (fun a n c W h => askput_c a n c z0 (nm5 t) lv W h N5.1 l1 l2)
  have K0 := hidp (fun a n c W h => ask_c a n c (ruledL z0) (nm5 t) W h RB.out (by omega))
  have K1 := hidp (fun a n c W h => ask_c a n c (bput (ruledL z0) (nm5 t ++ ⟨#[120]⟩, lv, 100)) (nm5 t) W h P1.out.2.1 (by omega))
  have K2 := hidp (fun a n c W h => ask_c a n c (bput (ruledL z0) (nm5 t, lv, 100)) (nm5 t) W h P2.out.2.1 (by omega))
  have LF := fun (W : World) (T : TypeId) => show (W.alloc (.cells #[.string ⟨#[]⟩, .string ⟨#[97]⟩, .string ⟨#[97, 98, 99, 100]⟩, .string ⟨#[98, 97]⟩, .string ⟨#[122, 122]⟩] T)).cell? ⟨W.heap.size, t, none⟩ = some (.string (nm5 t)) from by
    rcases (by omega : t = 0 ∨ t = 1 ∨ t = 2 ∨ t = 3 ∨ t = 4) with rfl | rfl | rfl | rfl | rfl <;> (go_simp; rfl)
  generalize nm5 t = s at *
  generalize askL (ruledL z0) s = x0 at *
  generalize askE (ruledL z0) s = y0 at *
  generalize askL (bput (ruledL z0) (s ++ ⟨#[120]⟩, lv, 100)) s = x1 at *
  generalize askE (bput (ruledL z0) (s ++ ⟨#[120]⟩, lv, 100)) s = y1 at *
  rw [NEAR.out.1, NEAR.out.2] at K2
  obtain ⟨rfl, rfl⟩ := FAR.out
  generalize bput (ruledL z0) (s ++ ⟨#[120]⟩, lv, 100) = L1 at *
  clear N5 FAR P1 P2 NEAR RB w0 w1 w2
  go_enter Try.func8, Try.ntmps8
  go_wp2_with fail
  refine (A0.out _ (lit2_at _ _)).mono ?_
  rintro e wa ⟨rfl, hba⟩
  have B1 := bstep (bal (Below.refl _ w) _) hba
  clear A0 hba
  go_wp2_with fail
  refine (RU.out _ B1).mono ?_
  rintro e wb ⟨v, rfl, hv, hbb⟩
  obtain ⟨ar, cr, rfl, hR⟩ := owns_rules hv
  have HR := hidp hR
  have B2 := bstep B1 hbb
  clear RU hv hR hbb B1
  go_wp2_with fail
  refine (WN.out _).mono ?_
  rintro e w' ⟨rfl, rfl⟩
  go_wp2_with fail
  refine (WL.out _).mono ?_
  rintro e w' ⟨rfl, rfl⟩
  have B3 := bal B2 (.cells #[.string ⟨#[]⟩, .string ⟨#[97]⟩, .string ⟨#[97, 98, 99, 100]⟩, .string ⟨#[98, 97]⟩, .string ⟨#[122, 122]⟩] 9)
  have HR3 := hidp (HR.out.below (bal (Below.refl _ wb) (.cells #[.string ⟨#[]⟩, .string ⟨#[97]⟩, .string ⟨#[97, 98, 99, 100]⟩, .string ⟨#[98, 97]⟩, .string ⟨#[122, 122]⟩] 9)))
  clear HR B2 LF
  go_wp2_with fail
  refine (K0.out _ _ _ _ HR3.out).mono ?_
  rintro e wc ⟨rfl, hbc⟩
  have B4 := bstep B3 hbc
  have HR4 := hidp (HR3.out.below hbc)
  clear B3 HR3 hbc
  go_wp2_with fail
  refine (C1.out _ _ _ _ HR4.out).mono ?_
  rintro e wd ⟨⟨a5, m5, c5, rfl, h5⟩, hbd⟩
  have B5 := bstep B4 hbd
  have HR5 := hidp (HR4.out.below hbd)
  have H5 := hidp h5
  clear B4 HR4 hbd h5
  go_wp2_with fail
  refine (K1.out _ _ _ _ H5.out).mono ?_
  rintro e we ⟨rfl, hbe⟩
  have B6 := bstep B5 hbe
  have HR6 := hidp (HR5.out.below hbe)
  clear B5 HR5 hbe H5
  go_wp2_with fail
  refine (C2.out _ _ _ _ HR6.out).mono ?_
  rintro e wf ⟨⟨a7, m7, c7, rfl, h7⟩, hbf⟩
  have B7 := bstep B6 hbf
  have H7 := hidp h7
  clear B6 hbf h7
  go_wp2_with fail
  refine (K2.out _ _ _ _ H7.out).mono ?_
  rintro e wg ⟨rfl, hbg⟩
  have B8 := bstep B7 hbg
  clear B7 hbg H7
  go_wp2_with fail
  go_ret
  exact ⟨rfl, B8⟩
end Go.Proofs.Ytmlkhiffmkkmdaa
