/- The walk of BottomLess. -/
import Derived.Test.YtlikpakjjaeblaaBotFill
import Derived.Deep.DeepCutAuto
import Derived.Lib.MinMax
import Derived.BigQuiet
import Derived.Deep.QuietTactic
namespace Go.Proofs.Ytlikpakjjaeblaa.bottomLess
open Go.ChangeShapes Go.WideShapes Go.ChangeAt Go.RowKit
open Go.Proofs.Ytlikpakjjaeblaa
set_option maxRecDepth 20000
theorem sins_less (x : Int) : ∀ l : List Int, Rising l → ∀ i, i < l.length → gi (sins l x) i ≤ gi l i
  | [], _, i, hi => by simp at hi
  | y :: l, h, i, hi => by
    have hr := List.pairwise_cons.1 h
    unfold sins
    split
    · cases i with
      | zero => show x ≤ y; omega
      | succ j =>
        have := rising_at (y :: l) h j (j + 1) (by omega) hi
        show gi (y :: l) j ≤ gi (y :: l) (j + 1)
        omega
    · split
      · omega
      · cases i with
        | zero => show y ≤ y; omega
        | succ j => exact sins_less x l hr.2 j (by simpa using hi)
theorem gi_takes (l : List Int) (K i : Nat) (hi : i < K) : gi (l.take K) i = gi l i := by
  unfold gi
  rw [List.getD_eq_getElem?_getD, List.getD_eq_getElem?_getD, List.getElem?_take, if_pos hi]
theorem botL_take (M K : Nat) (h : M ≤ K) (D : List Int) : botL M D = (botL K D).take (min M (botL K D).length) := by
  unfold botL
  rw [List.take_take, List.length_take]
  by_cases h2 : (srt1 D).length ≤ M
  · rw [List.take_of_length_le h2, List.take_of_length_le]; omega
  · congr 1; omega
set_option maxHeartbeats 8000000 in
theorem walk (a0 : Int) (a1 : Int) (a2 : Option Addr) (n c : Nat) (zs : List Int) (a3 : Int) (w : World)
    (w0 : (Lit.int .i64 a0).wf = true) (w1 : (Lit.int .i64 a1).wf = true) (w2 : IntsAt w a2 n c zs) (w3 : (Lit.int .i64 a3).wf = true) :
    Calls Try.prog 3 #[.int .i64 a0, .int .i64 a1, .slice a2 n c, .int .i64 a3] w fun e w' => e = .returned (.bool true) ∧ Below w.heap.size w w' := by
  have DR := hidp w2
  have P1 := hidp (boput_c 2 (some ⟨w.heap.size, 0, none⟩) 2 2 [5, 9] 7 (w.alloc (.cells #[.int .i64 5, .int .i64 9] 3)) (ints_lit [5, 9] rfl rfl rfl (by simp) (by omega)) ⟨by omega, by omega, by simp, by simp [Rising], by simp⟩ (by omega))
  clear w0 w1 w2 w3
  obtain ⟨K, hK⟩ : ∃ K : Nat, 1 + ((wn a0 40 : Nat) : Int) = (K : Int) := ⟨1 + wn a0 40, by push_cast; rfl⟩
  have k0 := wn_lt a0 40 (by omega)
  obtain ⟨M, hM⟩ : ∃ M : Nat, 1 + ((wn a1 (K : Int) : Nat) : Int) = (M : Int) := ⟨1 + wn a1 K, by push_cast; rfl⟩
  have m0 := wn_lt a1 (K : Int) (by omega)
  have k1 : 1 ≤ K := by omega
  have k2 : K ≤ 40 := by omega
  have m1 : 1 ≤ M := by omega
  have m2 : M ≤ K := by omega
  unfold botV at *
  go_enter Try.func3, Try.ntmps3
  go_wp2_with fail
  refine P1.out.mono ?_
  rintro e wa ⟨g1, n1, c1, rfl, hv1, hb1⟩
  have h57 : bot 2 [5, 9] 7 = [5, 7] := by decide
  rw [h57] at hv1
  have hbA : Below w.heap.size w wa := bstep (bal (Below.refl _ _) _) hb1
  have I1 : IntsAt wa g1 n1 c1 [5, 7] := by
    obtain ⟨_, _, e, h⟩ := owns_ints hv1 (by simp)
    cases e; exact h
  have EQ1 := hidp (equali_c g1 (some ⟨wa.heap.size + 1, 0, none⟩) n1 2 c1 2 [5, 7] [5, 7] ((wa.alloc (.cells #[.int .i64 2, .slice g1 n1 c1] 24)).alloc (.cells #[.int .i64 5, .int .i64 7] 3)) ((I1.alloc _).alloc _) (ints_lit [5, 7] (by simp) rfl rfl (by simp) (by omega)))
  have hbB := hidp (bal (bal hbA (.cells #[.int .i64 2, .slice g1 n1 c1] 24)) (.cells #[.int .i64 5, .int .i64 7] 3))
  clear hv1 hb1 I1 h57 P1
  go_wp2_with fail
  have c0 : ((wa.alloc (.cells #[.int .i64 2, .slice g1 n1 c1] 24)).alloc (.cells #[.int .i64 5, .int .i64 7] 3)).cell? ⟨wa.heap.size, 0, none⟩ = some (.int .i64 2) := by go_simp
  have c1' : ((wa.alloc (.cells #[.int .i64 2, .slice g1 n1 c1] 24)).alloc (.cells #[.int .i64 5, .int .i64 7] 3)).cell? ⟨wa.heap.size, 1, none⟩ = some (.slice g1 n1 c1) := by go_simp
  have fz : ∀ o, ((wa.alloc (.cells #[.int .i64 2, .slice g1 n1 c1] 24)).alloc (.cells #[.int .i64 5, .int .i64 7] 3)).frozen? ⟨wa.heap.size, o, none⟩ = false := fun o => by go_simp
  refine EQ1.out.mono ?_
  rintro e wb ⟨rfl, hb2⟩
  have hP := hbA.size
  have hlb := ltc c0
  have fzb : ∀ o, wb.frozen? ⟨wa.heap.size, o, none⟩ = false := fun o => (hb2.frozen (p := ⟨wa.heap.size, o, none⟩) hlb).trans (fz o)
  replace c0 := ck hb2 c0
  replace c1' := ck hb2 c1'
  have hbb := bstep hbB.out hb2
  clear hb2 hbB EQ1 fz
  generalize wa.heap.size = P at *
  generalize hQ0 : (Value.slice g1 n1 c1) = q1 at *
  clear hlb
  go_wp2_with fail
  refine (withinN_c a0 40 (by omega) (by omega) _).mono ?_
  rintro e w' ⟨rfl, rfl⟩
  go_wp2_with fail
  refine (withinN_c a1 K (by omega) (by omega) _).mono ?_
  rintro e w' ⟨rfl, rfl⟩
  go_wp2_with fail
  refine (filled_c K a2 n c zs wb (DR.out.below hbb) k1 k2).mono ?_
  rintro e wc ⟨g3, n3, c3, rfl, hO3, hb3⟩
  obtain ⟨hI3, hg3⟩ := owns_bot hO3
  have hne3 : ∀ b o, g3 = some ⟨b, o, none⟩ → b ≠ P := fun b o e => by have := hg3 b o e; have := ltc c0; omega
  clear hO3 hg3
  have hlb := ltc c0
  have fzc : ∀ o, wc.frozen? ⟨P, o, none⟩ = false := fun o => (hb3.frozen (p := ⟨P, o, none⟩) hlb).trans (fzb o)
  replace c0 := ck hb3 c0
  replace c1' := ck hb3 c1'
  have hbc := bstep hbb hb3
  have hPc : P < wc.heap.size := ltc c0
  clear hb3 hbb fzb hlb
  unfold botV at *
  go_wp2_with fail
  have hR : wc.heap.size ≠ P := by omega
  have hR2 : P ≠ wc.heap.size := by omega
  have d0 : (wc.alloc (.cells #[.int .i64 (K : Nat), .slice g3 n3 c3] 24)).cell? ⟨wc.heap.size, 0, none⟩ = some (.int .i64 (K : Nat)) := by go_simp
  have d1 : (wc.alloc (.cells #[.int .i64 (K : Nat), .slice g3 n3 c3] 24)).cell? ⟨wc.heap.size, 1, none⟩ = some (.slice g3 n3 c3) := by go_simp
  have hbd := bal hbc (.cells #[.int .i64 (K : Nat), .slice g3 n3 c3] 24)
  replace hI3 := hI3.alloc (.cells #[.int .i64 (K : Nat), .slice g3 n3 c3] 24)
  have hal : Below wc.heap.size wc (wc.alloc (.cells #[.int .i64 (K : Nat), .slice g3 n3 c3] 24)) := bal (Below.refl _ _) _
  have fzd : ∀ o, (wc.alloc (.cells #[.int .i64 (K : Nat), .slice g3 n3 c3] 24)).frozen? ⟨P, o, none⟩ = false := fun o => (hal.frozen (p := ⟨P, o, none⟩) hPc).trans (fzc o)
  replace c0 := ca c0 (.cells #[.int .i64 (K : Nat), .slice g3 n3 c3] 24)
  replace c1' := ca c1' (.cells #[.int .i64 (K : Nat), .slice g3 n3 c3] 24)
  clear hbc hal fzc
  generalize (wc.alloc (.cells #[.int .i64 (K : Nat), .slice g3 n3 c3] 24)) = wd at *
  generalize wc.heap.size = R at *
  refine (filled_c M a2 n c zs wd (DR.out.below hbd) m1 (by omega)).mono ?_
  rintro e we ⟨g4, n4, c4, rfl, hO4, hb4⟩
  obtain ⟨hI4, hg4⟩ := owns_bot hO4
  have hne4 : ∀ b o, g4 = some ⟨b, o, none⟩ → b ≠ P := fun b o e => by have := hg4 b o e; have := ltc c0; omega
  clear hO4 hg4
  have hlb := ltc c0
  have fze : ∀ o, we.frozen? ⟨P, o, none⟩ = false := fun o => (hb4.frozen (p := ⟨P, o, none⟩) hlb).trans (fzd o)
  have f0 := fze 0
  have f1 := fze 1
  replace c0 := ck hb4 c0
  replace c1' := ck hb4 c1'
  replace d0 := ck hb4 d0
  replace d1 := ck hb4 d1
  replace hI3 := hI3.below hb4
  have hbe := bstep hbd hb4
  have s0 := (res2 (.int .i64 (M : Nat)) (.slice g4 n4 c4) c0 c1').1
  have s1 := (res2 (.int .i64 (M : Nat)) (.slice g4 n4 c4) c0 c1').2
  have t0 := coff (b' := P) (j := 1) (u := .slice g4 n4 c4) (coff (b' := P) (j := 0) (u := .int .i64 (M : Nat)) d0 hR) hR
  have t1 := coff (b' := P) (j := 1) (u := .slice g4 n4 c4) (coff (b' := P) (j := 0) (u := .int .i64 (M : Nat)) d1 hR) hR
  have hbf := below_set2 hbe P (by omega) (.int .i64 (M : Nat)) (.slice g4 n4 c4)
  clear hb4 hbd fzd fze hlb hR hR2
  unfold botV at *
  have hI3' := (hI3.setCell ⟨P, 0, none⟩ hne3 (.int .i64 (M : Nat))).setCell ⟨P, 1, none⟩ hne3 (.slice g4 n4 c4)
  have hI4' := (hI4.setCell ⟨P, 0, none⟩ hne4 (.int .i64 (M : Nat))).setCell ⟨P, 1, none⟩ hne4 (.slice g4 n4 c4)
  have hT := botL_take M K m2 ((zs.take 200).map drw)
  obtain ⟨mm, hmi⟩ : ∃ mm : Nat, min (M : Int) (n3 : Int) = (mm : Int) := ⟨min M n3, by omega⟩
  have hm3 : mm ≤ n3 := by omega
  have hl3 := hI3.len
  have hcc := hI3.le
  have hcm := hI3.max
  rw [hl3, show min M n3 = mm by omega] at hT
  have BK := hidp (BotOk.ofL k1 k2 (zs.take 200))
  generalize botL M ((zs.take 200).map drw) = LM at *
  generalize botL K ((zs.take 200).map drw) = LK at *
  clear hI3 hI4 hne3 hne4
  go_upto_region 8 with fail
  generalize ((we.setCell ⟨P, 0, none⟩ (.int .i64 (M : Nat))).setCell ⟨P, 1, none⟩ (.slice g4 n4 c4)) = wf at *
  clear c0 c1' d0 d1 hbe f0 f1
  have EQ2 := hidp (fun q => (equaliq_c g4 g3 n4 mm c4 c3 LM (LK.take mm) (wf.drewN q) (hI4'.below (below_drewN (Below.refl _ _) q)) ((hI3'.take mm hm3).below (below_drewN (Below.refl _ _) q))).mono (R' := fun e w' => e = .returned (.bool true) ∧ ∃ m, w' = (wf.drewN q).drewN m) (by
    rintro e w' ⟨rfl, h⟩
    exact ⟨by rw [decide_eq_true hT], h⟩))
  have I3 := hidp hI3'
  clear hI3' hI4' hT
  go_quiet ((go_at_call 13; exact Calls.quiet_of (EQ2.out _)))
  have hdw : Below wf.heap.size wf (wf.drewN nq) := below_drewN (Below.refl _ _) nq
  replace t0 := ck hdw t0
  replace t1 := ck hdw t1
  replace I3 := hidp (I3.out.below hdw)
  have HBG := hidp (bstep hbf hdw)
  clear hdw hbf s0 s1 EQ2
  generalize wf.drewN nq = wg at *
  go_wp2_with fail
  have r1 := nec t0
  obtain ⟨r1, r2⟩ := r1
  have r3 := ltc t0
  have PUT := hidp (fun W (hB : Below wg.heap.size wg W) => boput_c K g3 n3 c3 LK (drw a3) W (I3.out.below hB) BK.out (drw_bd _))
  go_cut [10, 14] (fun s10 s14 wx => s10 = .int .i64 0 ∧ ∃ (Q : Nat) (g2 : Option Addr) (n2 c2 : Nat), s14 = .pointer (some ⟨Q, 0, none⟩) ∧ wg.heap.size ≤ Q ∧ wx.cell? ⟨Q, 0, none⟩ = some (.int .i64 (K : Nat)) ∧ wx.cell? ⟨Q, 1, none⟩ = some (.slice g2 n2 c2) ∧ wx.ownsRow wg.heap.size 3 1 (.slice g2 n2 c2) n2 ((bot K LK (drw a3)).map (Value.int .i64)) ∧ Below wg.heap.size wg wx)
  case first =>
    go_region_with (first
      | (go_at_call 16; refine (draw_c a3 _).mono ?_; rintro e w' ⟨rfl, rfl⟩)
      | (go_at_call 12; go_loud (refine Calls.mono (PUT.out _ ?_) ?_; (first | exact (Below.refl _ _).drew | exact (bal (Below.refl _ _) _).drew); rintro e wb ⟨g2, n2, c2, rfl, hv, hbb⟩; (first | (have z := zz (P := wg.heap.size) rfl hbb; obtain ⟨z0, z1, zf, zl, hbv, zq⟩ := z; have zf0 := zf 0; have zf1 := zf 1) | (have hbv := bstep (Below.refl wg.heap.size wg).drew hbb)))))
    all_goals go_wp2
    all_goals go_meet
    all_goals first
      | exact ⟨rfl, _, _, _, _, rfl, by have := hbv.size; omega, by go_simp, by go_simp, owns_mono (hv.alloc _) (Nat.le_refl _), bal hbv _⟩
      | exact ⟨rfl, _, _, _, _, rfl, Nat.le_refl _, (res2 _ _ z0 z1).1, (res2 _ _ z0 z1).2, bp_own hv, below_set2 hbv wg.heap.size (Nat.le_refl _) _ _⟩
  case rest =>
    obtain ⟨rfl, Q, g2, n2, c2, rfl, hQ, d0, d1, hv2, hb2⟩ := hcut
    have hO := BK.out.put (drw a3) (drw_bd _)
    have I2 : IntsAt wc g2 n2 c2 (bot K LK (drw a3)) := by
      obtain ⟨_, _, e, h⟩ := owns_ints hv2 (fun y hy => by have := hO.bd y hy; omega)
      cases e; exact h
    have I3c := I3.out.below hb2
    have hbz := bstep HBG.out hb2
    replace t0 := ck hb2 t0
    replace t1 := ck hb2 t1
    have hl2 := I2.len
    have hlt : ¬ (n2 : Int) < (n3 : Int) := by
      have h1 := (sins_len (drw a3) LK).1
      have h2 := BK.out.ln
      unfold bot at hl2
      rw [List.length_take] at hl2
      omega
    have GE := hidp (fun i (hi : i < n3) => show gi (bot K LK (drw a3)) i ≤ gi LK i from by
      unfold bot
      have h2 := BK.out.ln
      rw [gi_takes _ _ _ (by omega)]
      exact sins_less _ _ BK.out.ris i (by omega))
    have hn2 : n3 ≤ n2 := by omega
    obtain ⟨b2, o2, hz2, hx2⟩ := I2.split
    obtain ⟨b3, o3, hz3, hx3⟩ := I3c.split
    have hz2' : Hid (n2 = 0) ∨ g2 = some ⟨b2, o2, none⟩ := hz2.imp_left hidp
    have hz3' : Hid (n3 = 0) ∨ g3 = some ⟨b3, o3, none⟩ := hz3.imp_left hidp
    have X2 := hidp hx2
    have X3 := hidp hx3
    have m2' := I2.max
    have e2' := I2.le
    have HBZ := hidp hbz
    clear hv2 hb2 hO I2 I3c I3 PUT hz2 hz3 hx2 hx3 HBG hl2 r1 r2 r3 hbz hmi hm3 hl3 BK
    go_upto_region 14 with fail
    go_loopw [91] (fun i wr => ∃ k : Nat, k ≤ n3 ∧ i = .int .i64 k ∧ Below wc.heap.size wc wr) (fun i _ => n3 - (intOf i).toNat)
    case atStart => exact ⟨0, by omega, rfl, Below.refl _ _⟩
    case round =>
      obtain ⟨k, hk, rfl, hbr⟩ := hrel
      replace t0 := ck hbr t0
      replace t1 := ck hbr t1
      replace d0 := ck hbr d0
      replace d1 := ck hbr d1
      have HBR := hidp hbr
      clear hbr
      by_cases hlt : k < n3
      · obtain rfl : g2 = some ⟨b2, o2, none⟩ := hz2'.resolve_left (fun e => by have := e.out; omega)
        obtain rfl : g3 = some ⟨b3, o3, none⟩ := hz3'.resolve_left (fun e => by have := e.out; omega)
        have q2 := ck HBR.out (X2.out k (by omega)).2
        have q3 := ck HBR.out (X3.out k hlt).2
        have hk2 : k < n2 := by omega
        have hge : ¬ gi LK k < gi (bot K LK (drw a3)) k := by have := GE.out k hlt; omega
        go_wp2_with fail
        go_quiet (fail)
        go_wp2
        go_roundw
        case rel => exact ⟨k + 1, by omega, by go_num, below_drewN HBR.out _⟩
        case measure => simp [intOf]; omega
      · obtain rfl : k = n3 := by omega
        go_wp2_with fail
        go_ret
        exact ⟨rfl, bstep HBZ.out HBR.out⟩
end Go.Proofs.Ytlikpakjjaeblaa.bottomLess
