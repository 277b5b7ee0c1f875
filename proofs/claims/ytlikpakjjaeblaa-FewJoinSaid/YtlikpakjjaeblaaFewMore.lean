/- Contracts of few.Ask, the laws' own heard, slices.Equal at equal counters, culref.SameFew. -/
import Derived.Test.YtlikpakjjaeblaaFewPutC
namespace Go.Proofs.Ytlikpakjjaeblaa
open Go.ChangeShapes Go.WideShapes Go.ChangeAt Go.RowKit
set_option maxRecDepth 20000
theorem occ_pos (z : Int) (L : List (Int × Int)) (h : ∀ p ∈ L, 0 ≤ p.2) : 0 ≤ occ L z := (occ_bd z L h).1
theorem FewOk.occ_le {K : Nat} {s : Int × List (Int × Int)} (h : FewOk K s) (z : Int) : 0 ≤ occ s.2 z ∧ occ s.2 z ≤ 1000000000000 := by
  rw [← ask_occ z s.2 h.ris]
  split
  · rename_i hh
    have hk := khas_key s.2 z hh
    have hm := cmem s.2 (kpos s.2 z) hk.1
    have h1 := h.pos _ hm
    have h2 := h.big _ hm
    have h3 : 1 ≤ cnum s.2 (kpos s.2 z) := h1
    have h4 : cnum s.2 (kpos s.2 z) ≤ 1000000000000 := h2
    omega
  · omega
set_option maxHeartbeats 4000000 in
theorem fask_c (K : Nat) (s : Int × List (Int × Int)) (a : Option Addr) (n c : Nat) (k : Int) (w : World) (h : CntAt w a n c s.2) (hok : FewOk K s) :
    Calls Try.prog 31 #[fewV K s.1 a n c, .int .i64 k] w fun e w' => e = .returned (.tuple #[.int .i64 (occ s.2 k), .int .i64 (occ s.2 k + s.1), .int .i64 0]) ∧ Below w.heap.size w w' := by
  have hb0 : Below w.heap.size w (w.alloc (.cells #[.int .i64 K, .int .i64 s.1, .slice a n c] 45)) := bal (Below.refl _ _) _
  have CK := hidp (fcheck_ok K s a n c _ (h.below hb0) hok)
  have hl := h.len
  have hln := hok.ln
  have hk2 := hok.k2
  have FN := hidp (fun W (hB : Below w.heap.size w W) => find_c a n c s.2 k W (h.below hB) hok.ris (by omega))
  have H := hidp h
  have ASK := hidp (ask_occ k s.2 hok.ris)
  have HK := hidp (khas_key s.2 k)
  have OB := hok.occ_le k
  have l0 := hok.l0
  have l1 := hok.l1
  have mm := h.max
  have ee := h.le
  have HB := hidp hb0
  clear h hok hb0
  obtain ⟨lost, L⟩ := s
  dsimp only at *
  unfold fewV at *
  go_enter Try.func31, Try.ntmps31
  go_wp2_with fail
  refine CK.out.mono ?_
  rintro e wa ⟨rfl, hba⟩
  have c1 : wa.cell? ⟨w.heap.size, 1, none⟩ = some (.int .i64 lost) := ck hba (by go_simp)
  have c2 : wa.cell? ⟨w.heap.size, 2, none⟩ = some (.slice a n c) := ck hba (by go_simp)
  have hwa := bstep HB.out hba
  clear hba HB CK
  go_wp2_with fail
  refine (FN.out _ hwa).mono ?_
  rintro e wb ⟨rfl, hbb⟩
  replace c1 := ck hbb c1
  replace c2 := ck hbb c2
  have hwb := bstep hwa hbb
  clear hbb hwa FN
  cases hh : khas L k with
  | true =>
    obtain ⟨k1, k2⟩ := HK.out hh
    rw [hl] at k1
    have AS := hidp (show cnum L (kpos L k) = occ L k by have := ASK.out; rw [if_pos hh] at this; exact this)
    obtain ⟨b, o, rfl, hbb, hx⟩ := (H.out.below hwb).cells (by omega)
    have q := (hx (kpos L k) k1).2
    rw [AS.out] at q
    obtain ⟨oc, hoc⟩ : ∃ oc, oc = occ L k := ⟨_, rfl⟩
    rw [← hoc] at q OB
    have HOC := hidp hoc
    clear hx ASK HK k2 AS H hh hoc
    generalize kpos L k = kp at *
    have WR : IntKind.i64.wrap (oc + lost) = oc + lost := IntWalk.i64_in _ (by omega)
    go_wp2_with fail
    go_quiet (fail)
    go_wp2
    exact bodyPost_ret (v := .tuple #[.int .i64 oc, .int .i64 (oc + lost), .int .i64 0]) (by simp [results, Try.results31, go_sem]) rfl ⟨by rw [← HOC.out], below_drewN hwb _⟩
  | false =>
    have AS := hidp (show occ L k = 0 by have := ASK.out; rw [if_neg (by rw [hh]; simp)] at this; exact this.symm)
    clear ASK HK OB H hh
    have WR : IntKind.i64.wrap (0 + lost) = lost := by rw [Int.zero_add]; exact IntWalk.i64_in _ (by omega)
    have Z := hidp (show (0 : Int) + lost = lost from Int.zero_add _)
    generalize kpos L k = kp at *
    go_wp2_with fail
    go_quiet (fail)
    go_wp2
    exact bodyPost_ret (v := .tuple #[.int .i64 0, .int .i64 lost, .int .i64 0]) (by simp [results, Try.results31, go_sem]) rfl ⟨by rw [AS.out, Z.out], below_drewN hwb _⟩
theorem eqcc_c (a1 a2 : Option Addr) (n c1 c2 : Nat) (L : List (Int × Int)) (w : World) (h1 : CntAt w a1 n c1 L) (h2 : CntAt w a2 n c2 L) :
    Calls Try.prog 27 #[.slice a1 n c1, .slice a2 n c2] w fun e w' => e = .returned (.bool true) ∧ Below w.heap.size w w' := by
  have m1 := h1.max
  have m2 := h2.max
  have e1 := h1.le
  have e2 := h2.le
  have hne : ((n : Int) != (n : Int)) = false := by simp
  have C1 := hidp h1.cells
  have C2 := hidp h2.cells
  clear h1 h2
  go_enter Try.func27, Try.ntmps27
  go_wp2_with fail
  go_loopw [13] (fun i wr => ∃ k : Nat, k ≤ n ∧ i = .int .i64 k ∧ Below w.heap.size w wr) (fun i _ => n - (intOf i).toNat)
  case atStart => exact ⟨0, by omega, rfl, Below.refl _ _⟩
  case round =>
    obtain ⟨k, hk, rfl, hbl⟩ := hrel
    by_cases hlt : k < n
    · obtain ⟨b, o, rfl, hb, hc⟩ := C1.out (by omega)
      obtain ⟨b', o', rfl, hb', hc'⟩ := C2.out (by omega)
      have q0 := carry_cell ⟨hb, (hc k hlt).1⟩ hbl
      have q1 := carry_cell ⟨hb, (hc k hlt).2⟩ hbl
      have q2 := carry_cell ⟨hb', (hc' k hlt).1⟩ hbl
      have q3 := carry_cell ⟨hb', (hc' k hlt).2⟩ hbl
      clear hc hc'
      go_wp2_with fail
      go_quiet (fail)
      go_wp2
      go_roundw
      case rel => exact ⟨k + 1, by omega, by go_num, below_drewN hbl _⟩
      case measure => simp [intOf]; omega
    · obtain rfl : k = n := by omega
      go_wp2
      go_ret
      exact ⟨rfl, hbl⟩
/-- Two fews of the same values are the same. -/
theorem samefew_c (K lost : Int) (a1 a2 : Option Addr) (n c1 c2 : Nat) (L : List (Int × Int)) (w : World) (h1 : CntAt w a1 n c1 L) (h2 : CntAt w a2 n c2 L) :
    Calls Try.prog 29 #[fewV K lost a1 n c1, fewV K lost a2 n c2] w fun e w' => e = .returned (.bool true) ∧ Below w.heap.size w w' := by
  have hb1 : Below w.heap.size w ((w.alloc (.cells #[.int .i64 K, .int .i64 lost, .slice a1 n c1] 45)).alloc (.cells #[.int .i64 K, .int .i64 lost, .slice a2 n c2] 45)) := bal (bal (Below.refl _ _) _) _
  have EQ := hidp (eqcc_c a1 a2 n c1 c2 L _ (h1.below hb1) (h2.below hb1))
  have HB := hidp hb1
  clear hb1 h1 h2
  unfold fewV
  go_enter Try.func29, Try.ntmps29
  go_wp2_with fail
  refine EQ.out.mono ?_
  rintro e w' ⟨rfl, hb'⟩
  have HB2 := hidp (bstep HB.out hb')
  clear hb' EQ HB
  go_wp2_with fail
  go_ret
  exact ⟨rfl, HB2.out⟩
/-- What stands while a few is heard: the result's cell H, the few at H + 1. -/
structure HeaS (W : World) (H : Nat) (K lost : Int) (v : Value) : Prop where
  o0 : W.cell? ⟨H + 1, 0, none⟩ = some (.int .i64 K)
  o1 : W.cell? ⟨H + 1, 1, none⟩ = some (.int .i64 lost)
  o2 : W.cell? ⟨H + 1, 2, none⟩ = some v
  r0 : ∃ u, W.cell? ⟨H, 0, none⟩ = some u
  r1 : ∃ u, W.cell? ⟨H, 1, none⟩ = some u
  r2 : ∃ u, W.cell? ⟨H, 2, none⟩ = some u
  fo : ∀ o, W.frozen? ⟨H + 1, o, none⟩ = false
  fr : ∀ o, W.frozen? ⟨H, o, none⟩ = false
theorem HeaS.below {W W' : World} {H : Nat} {K lost : Int} {v : Value} (h : HeaS W H K lost v) (hb : Below W.heap.size W W') : HeaS W' H K lost v :=
  ⟨ck hb h.o0, ck hb h.o1, ck hb h.o2, h.r0.imp (fun _ e => ck hb e), h.r1.imp (fun _ e => ck hb e), h.r2.imp (fun _ e => ck hb e), fun o => (hb.frozen (p := ⟨H + 1, o, none⟩) (show H + 1 < _ from ltc h.o0)).trans (h.fo o), fun o => by
    obtain ⟨u, e⟩ := h.r0
    exact (hb.frozen (p := ⟨H, o, none⟩) (show H < _ from ltc e)).trans (h.fr o)⟩
theorem HeaS.put {W : World} {H : Nat} {K lost : Int} {v : Value} (h : HeaS W H K lost v) (l2 : Int) (v2 : Value) : HeaS (((W.setCell ⟨H + 1, 0, none⟩ (.int .i64 K)).setCell ⟨H + 1, 1, none⟩ (.int .i64 l2)).setCell ⟨H + 1, 2, none⟩ v2) H K l2 v2 :=
  ⟨(res3 _ _ _ h.o0 h.o1 h.o2).1, (res3 _ _ _ h.o0 h.o1 h.o2).2.1, (res3 _ _ _ h.o0 h.o1 h.o2).2.2, h.r0.imp (fun _ e => coff3 e (by omega)), h.r1.imp (fun _ e => coff3 e (by omega)), h.r2.imp (fun _ e => coff3 e (by omega)), fun o => frs3 (h.fo o), fun o => frs3 (h.fr o)⟩
theorem csum_pre (D : List (Int × Int)) (h : ∀ p ∈ D, 1 ≤ p.2) (k : Nat) : csum (D.take k) ≤ csum D := (csum_take D (fun p hp => by have := h p hp; omega) k).1
set_option maxHeartbeats 8000000 in
theorem heard_c (K : Nat) (a : Option Addr) (n c : Nat) (D : List (Int × Int)) (w : World) (h : CntAt w a n c D) (k1 : 1 ≤ K) (k2 : K ≤ 16) (hD : ∀ p ∈ D, 1 ≤ p.2) (hS : csum D ≤ 1000000000000) :
    Calls Try.prog 23 #[.int .i64 K, .slice a n c] w fun e w' => ∃ g n' c', e = .returned (.tuple #[fewV K (fewL K D).1 g n' c', .bool true]) ∧ w'.ownsRow w.heap.size 51 2 (.slice g n' c') n' (cntV (fewL K D).2) ∧ Below w.heap.size w w' := by
  obtain ⟨b, o, hz, hx⟩ := h.split
  have hz' : Hid (n = 0) ∨ a = some ⟨b, o, none⟩ := hz.imp_left hidp
  have HX := hidp hx
  have mm := h.max
  have ee := h.le
  have LN := hidp h.len
  have IS := hidp (fun k => fewL_is K (D.take k) (fun p hp => hD p (List.mem_of_mem_take hp)))
  have OK := hidp (fun k => (IS.out k).ok k1 k2 (by have := csum_pre D hD k; omega))
  have ST := hidp (fun k (hk : k < n) => show fewL K (D.take (k + 1)) = fput K (fewL K (D.take k)) (ckey D k) (cnum D k) by
    rw [ctake D k (by rw [LN.out]; exact hk), fewL_snoc])
  have NB := hidp (fun k (hk : k < n) => show 1 ≤ cnum D k ∧ cnum D k ≤ 1000000000000 by
    have hm := cmem D k (by rw [LN.out]; exact hk)
    have h1 := hD _ hm
    have h2 := mem_csum D (fun p hp => by have := hD p hp; omega) _ hm
    have h3 : 1 ≤ cnum D k := h1
    have h4 : cnum D k ≤ csum D := h2
    omega)
  have TL := hidp (show D.take n = D by rw [← LN.out, List.take_length])
  clear hx hz h hD hS
  unfold fewV at *
  go_enter Try.func23, Try.ntmps23
  go_wp2_with fail
  have hb1 : Below w.heap.size w ((w.alloc few0).alloc (.cells #[.int .i64 (K : Nat), .int .i64 0, .slice none 0 0] 45)) := bal (bal (Below.refl _ _) _) _
  have hs1 : w.heap.size + 2 ≤ ((w.alloc few0).alloc (.cells #[.int .i64 (K : Nat), .int .i64 0, .slice none 0 0] 45)).heap.size := by simp
  have hw1 := hidp (show HeaS ((w.alloc few0).alloc (.cells #[.int .i64 (K : Nat), .int .i64 0, .slice none 0 0] 45)) w.heap.size K 0 (.slice none 0 0) from
    ⟨by go_simp, by go_simp, by go_simp, ⟨.int .i64 0, by go_simp⟩, ⟨.int .i64 0, by go_simp⟩, ⟨.slice none 0 0, by go_simp⟩, fun o => by go_simp, fun o => by go_simp⟩)
  generalize ((w.alloc few0).alloc (.cells #[.int .i64 (K : Nat), .int .i64 0, .slice none 0 0] 45)) = w1 at *
  go_loopg [15] n (fun gg i wr => ∃ (k : Nat) (g : Option Addr) (n' c' : Nat), k ≤ n ∧ n - k ≤ gg ∧ i = .int .i64 k ∧ Hid (HeaS wr w.heap.size K (fewL K (D.take k)).1 (.slice g n' c')) ∧ wr.ownsRow (w.heap.size + 2) 51 2 (.slice g n' c') n' (cntV (fewL K (D.take k)).2) ∧ Below w.heap.size w wr ∧ w.heap.size + 2 ≤ wr.heap.size)
  case atStart => exact ⟨0, none, 0, 0, by omega, by omega, rfl, hw1, World.ownsRow_nil _ _ _ _, hb1, hs1⟩
  case round =>
    clear hw1 hb1 hs1
    obtain ⟨k, g, n', c', hk, hgg, rfl, HS, hv, hbl, hsr⟩ := hrel
    by_cases hlt : k < n
    · obtain rfl : a = some ⟨b, o, none⟩ := hz'.resolve_left (fun e => by have := e.out; omega)
      obtain ⟨hbs, hc1, hc2⟩ := HX.out k hlt
      have q0 := carry_cell ⟨hbs, hc1⟩ hbl
      have q1 := carry_cell ⟨hbs, hc2⟩ hbl
      clear hc1 hc2
      have hI : CntAt wr g n' c' (fewL K (D.take k)).2 := by
        obtain ⟨_, _, e, h⟩ := owns_cnts hv
        cases e; exact h
      have nb := NB.out k hlt
      have OK1 := hidp (OK.out (k + 1))
      have PUT := hidp (fun W (hB : Below wr.heap.size wr W) => fput_c K (fewL K (D.take k)) g n' c' (ckey D k) (cnum D k) W (hI.below hB) (OK.out k) nb)
      rw [← ST.out k hlt] at PUT
      obtain ⟨F2, hF2⟩ : ∃ F2, F2 = fewL K (D.take (k + 1)) := ⟨_, rfl⟩
      rw [← hF2] at PUT OK1
      have HF2 := hidp hF2
      clear hF2
      have hbx := bal (Below.refl wr.heap.size wr) (.cells #[.int .i64 (ckey D k), .int .i64 (cnum D k)] 51)
      have x0 : (wr.alloc (.cells #[.int .i64 (ckey D k), .int .i64 (cnum D k)] 51)).cell? ⟨wr.heap.size, 0, none⟩ = some (.int .i64 (ckey D k)) := by go_simp
      have x1 : (wr.alloc (.cells #[.int .i64 (ckey D k), .int .i64 (cnum D k)] 51)).cell? ⟨wr.heap.size, 1, none⟩ = some (.int .i64 (cnum D k)) := by go_simp
      have HS2 := hidp (HS.out.below hbx)
      have PC := hidp (PUT.out _ hbx)
      have hb2 := bstep hbl hbx
      have hs2 := hbx.size
      clear nb hI PUT
      go_upto_region 5 with fail
      generalize (wr.alloc (.cells #[.int .i64 (ckey D k), .int .i64 (cnum D k)] 51)) = w2 at *
      generalize wr.heap.size = XB at *
      have o0 := HS2.out.o0
      have o1 := HS2.out.o1
      have o2 := HS2.out.o2
      clear q0 q1 hv hbl HS hbx
      generalize hF1 : fewL K (D.take k) = F1 at *
      generalize ckey D k = y1 at *
      generalize cnum D k = n1 at *
      go_wp2_with fail
      refine PC.out.mono ?_
      rintro e w4 ⟨⟨_, a4, n4, c4, rfl, hO4⟩ | ⟨hne, _⟩, hb4⟩
      · have hx4 : Below w4.heap.size w4 (w4.alloc (.cells #[.int .i64 (K : Nat), .int .i64 F2.1, .slice a4 n4 c4] 45)) := bal (Below.refl _ _) _
        have H4 := hidp ((HS2.out.below hb4).below hx4)
        have e0 := H4.out.o0
        have e1 := H4.out.o1
        have e2 := H4.out.o2
        have f0 := H4.out.fo 0
        have f1 := H4.out.fo 1
        have f2 := H4.out.fo 2
        have hO5 := hidp (owns_mono (own_set3 (hO4.alloc (.cells #[.int .i64 (K : Nat), .int .i64 F2.1, .slice a4 n4 c4] 45)) (w.heap.size + 1) (by omega) (.int .i64 (K : Nat)) (.int .i64 F2.1) (.slice a4 n4 c4)) (show w.heap.size + 2 ≤ w2.heap.size by omega))
        have BL := hidp (below_set3 (bstep (bstep hb2 hb4) hx4) (w.heap.size + 1) (by omega) (.int .i64 (K : Nat)) (.int .i64 F2.1) (.slice a4 n4 c4))
        have hsz := hb4.size
        clear o0 o1 o2 x0 x1 hO4 hb4 hx4 HS2 PC hb2
        go_wp2_with fail
        go_roundg (n - (k + 1))
        case measure => omega
        case rel => exact ⟨k + 1, a4, n4, c4, by omega, by omega, by go_num, by rw [← HF2.out]; exact hidp (H4.out.put F2.1 (.slice a4 n4 c4)), by rw [← HF2.out]; exact hO5.out, BL.out, by simp; omega⟩
      · exact absurd OK1.out hne
    · obtain rfl : k = n := by omega
      rw [TL.out] at HS hv
      obtain ⟨F, hF⟩ : ∃ F, F = fewL K D := ⟨_, rfl⟩
      rw [← hF] at HS hv
      have HF := hidp hF
      clear hF
      obtain ⟨o0, o1, o2, ⟨u0, r0⟩, ⟨u1, r1⟩, ⟨u2, r2⟩, fo, fr⟩ := HS.out
      have f0 := fr 0
      have f1 := fr 1
      have f2 := fr 2
      have hr := hidp (res3 (.int .i64 (K : Nat)) (.int .i64 F.1) (.slice g n' c') r0 r1 r2)
      have BL := hidp (below_set3 hbl w.heap.size (Nat.le_refl _) (.int .i64 (K : Nat)) (.int .i64 F.1) (.slice g n' c'))
      have HO := hidp (owns_mono (own_set3 hv w.heap.size (by omega) (.int .i64 (K : Nat)) (.int .i64 F.1) (.slice g n' c')) (show w.heap.size ≤ w.heap.size + 2 by omega))
      clear fo fr HS hv
      go_wp2_with fail
      obtain ⟨t0, t1, t2⟩ := hr.out
      have hB := BL.out
      have hO := HO.out
      clear hr BL HO
      generalize (((wr.setCell ⟨w.heap.size, 0, none⟩ (.int .i64 (K : Nat))).setCell ⟨w.heap.size, 1, none⟩ (.int .i64 F.1)).setCell ⟨w.heap.size, 2, none⟩ (.slice g n' c')) = w7 at *
      exact bodyPost_ret (v := .tuple #[.agg #[.int .i64 (K : Nat), .int .i64 F.1, .slice g n' c'], .bool true]) (by simp [results, Try.results23, go_sem, t0, t1, t2]) rfl ⟨g, n', c', by rw [← HF.out], by rw [← HF.out]; exact hO, hB⟩
end Go.Proofs.Ytlikpakjjaeblaa
