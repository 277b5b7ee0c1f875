/- Contracts of few.Ask, the laws' own heard, slices.Equal at equal counters, culref.SameFew. -/
import Derived.Test.YtcbklhicellepaaFewPutC
namespace Go.Proofs.Ytcbklhicellepaa
open Go.ChangeShapes Go.WideShapes Go.ChangeAt Go.RowKit
set_option maxRecDepth 20000
theorem occ_pos (z : Int) (L : List (Int × Int)) (h : ∀ p ∈ L, 0 ≤ p.2) : 0 ≤ occ L z := (occ_bd z L h).1
theorem FewOk.occ_le {K : Nat} {s : Int × List (Int × Int)} (h : FewOk K s) (z : Int) : 0 ≤ occ s.2 z ∧ occ s.2 z ≤ 1000000000000 := by
  rw [← ask_occ z s.2 h.ris]
  split
  · rename_i hh
    have hk := khas_key s.2 z hh
    have hm := cmem s.2 (kpos s.2 z) hk.1
    have h1 := h.pos _ hm
    have h2 := h.big _ hm
    have h3 : 1 ≤ cnum s.2 (kpos s.2 z) := h1
    have h4 : cnum s.2 (kpos s.2 z) ≤ 1000000000000 := h2
    omega
  · omega
set_option maxHeartbeats 4000000 in
theorem fask_c (K : Nat) (s : Int × List (Int × Int)) (a : Option Addr) (n c : Nat) (k : Int) (w : World) (h : CntAt w a n c s.2) (hok : FewOk K s) :
    Calls Try.prog 26 #[fewV K s.1 a n c, .int .i64 k] w fun e w' => e = .returned (.tuple #[.int .i64 (occ s.2 k), .int .i64 (occ s.2 k + s.1), .int .i64 0]) ∧ Below w.heap.size w w' := by
  have hb0 : Below w.heap.size w (w.alloc (.cells #[.int .i64 K, .int .i64 s.1, .slice a n c] 39)) := bal (Below.refl _ _) _
  have CK := hidp (fcheck_ok K s a n c _ (h.below hb0) hok)
  have hl := h.len
  have hln := hok.ln
  have hk2 := hok.k2
  have FN := hidp (fun W (hB : Below w.heap.size w W) => find_c a n c s.2 k W (h.below hB) hok.ris (by omega))
  have H := hidp h
  have ASK := hidp (ask_occ k s.2 hok.ris)
  have HK := hidp (khas_key s.2 k)
  have OB := hok.occ_le k
  have l0 := hok.l0
  have l1 := hok.l1
  have mm := h.max
  have ee := h.le
  have HB := hidp hb0
  clear h hok hb0
  obtain ⟨lost, L⟩ := s
  dsimp only at *
  unfold fewV at *
  go_enter Try.func26, Try.ntmps26
  go_wp2_with fail
  refine CK.out.mono ?_
  rintro e wa ⟨rfl, hba⟩
  have c1 : wa.cell? ⟨w.heap.size, 1, none⟩ = some (.int .i64 lost) := ck hba (by go_simp)
  have c2 : wa.cell? ⟨w.heap.size, 2, none⟩ = some (.slice a n c) := ck hba (by go_simp)
  have hwa := bstep HB.out hba
  clear hba HB CK
  go_wp2_with fail
  refine (FN.out _ hwa).mono ?_
  rintro e wb ⟨rfl, hbb⟩
  replace c1 := ck hbb c1
  replace c2 := ck hbb c2
  have hwb := bstep hwa hbb
  clear hbb hwa FN
  cases hh : khas L k with
  | true =>
    obtain ⟨k1, k2⟩ := HK.out hh
    rw [hl] at k1
    have AS := hidp (show cnum L (kpos L k) = occ L k by have := ASK.out; rw [if_pos hh] at this; exact this)
    obtain ⟨b, o, rfl, hbb, hx⟩ := (H.out.below hwb).cells (by omega)
    have q := (hx (kpos L k) k1).2
    rw [AS.out] at q
    obtain ⟨oc, hoc⟩ : ∃ oc, oc = occ L k := ⟨_, rfl⟩
    rw [← hoc] at q OB
    have HOC := hidp hoc
    clear hx ASK HK k2 AS H hh hoc
    generalize kpos L k = kp at *
    have WR : IntKind.i64.wrap (oc + lost) = oc + lost := IntWalk.i64_in _ (by omega)
    go_wp2_with fail
    go_quiet (fail)
    go_wp2
    exact bodyPost_ret (v := .tuple #[.int .i64 oc, .int .i64 (oc + lost), .int .i64 0]) (by simp [results, Try.results26, go_sem]) rfl ⟨by rw [← HOC.out], below_drewN hwb _⟩
  | false =>
    have AS := hidp (show occ L k = 0 by have := ASK.out; rw [if_neg (by rw [hh]; simp)] at this; exact this.symm)
    clear ASK HK OB H hh
    have WR : IntKind.i64.wrap (0 + lost) = lost := by rw [Int.zero_add]; exact IntWalk.i64_in _ (by omega)
    have Z := hidp (show (0 : Int) + lost = lost from Int.zero_add _)
    generalize kpos L k = kp at *
    go_wp2_with fail
    go_quiet (fail)
    go_wp2
    exact bodyPost_ret (v := .tuple #[.int .i64 0, .int .i64 lost, .int .i64 0]) (by simp [results, Try.results26, go_sem]) rfl ⟨by rw [AS.out, Z.out], below_drewN hwb _⟩
/-- What stands while a few is heard: the result's cell H, the few at H + 1. -/
structure HeaS (W : World) (H : Nat) (K lost : Int) (v : Value) : Prop where
  o0 : W.cell? ⟨H + 1, 0, none⟩ = some (.int .i64 K)
  o1 : W.cell? ⟨H + 1, 1, none⟩ = some (.int .i64 lost)
  o2 : W.cell? ⟨H + 1, 2, none⟩ = some v
  r0 : ∃ u, W.cell? ⟨H, 0, none⟩ = some u
  r1 : ∃ u, W.cell? ⟨H, 1, none⟩ = some u
  r2 : ∃ u, W.cell? ⟨H, 2, none⟩ = some u
  fo : ∀ o, W.frozen? ⟨H + 1, o, none⟩ = false
  fr : ∀ o, W.frozen? ⟨H, o, none⟩ = false
theorem HeaS.below {W W' : World} {H : Nat} {K lost : Int} {v : Value} (h : HeaS W H K lost v) (hb : Below W.heap.size W W') : HeaS W' H K lost v :=
  ⟨ck hb h.o0, ck hb h.o1, ck hb h.o2, h.r0.imp (fun _ e => ck hb e), h.r1.imp (fun _ e => ck hb e), h.r2.imp (fun _ e => ck hb e), fun o => (hb.frozen (p := ⟨H + 1, o, none⟩) (show H + 1 < _ from ltc h.o0)).trans (h.fo o), fun o => by
    obtain ⟨u, e⟩ := h.r0
    exact (hb.frozen (p := ⟨H, o, none⟩) (show H < _ from ltc e)).trans (h.fr o)⟩
theorem HeaS.put {W : World} {H : Nat} {K lost : Int} {v : Value} (h : HeaS W H K lost v) (l2 : Int) (v2 : Value) : HeaS (((W.setCell ⟨H + 1, 0, none⟩ (.int .i64 K)).setCell ⟨H + 1, 1, none⟩ (.int .i64 l2)).setCell ⟨H + 1, 2, none⟩ v2) H K l2 v2 :=
  ⟨(res3 _ _ _ h.o0 h.o1 h.o2).1, (res3 _ _ _ h.o0 h.o1 h.o2).2.1, (res3 _ _ _ h.o0 h.o1 h.o2).2.2, h.r0.imp (fun _ e => coff3 e (by omega)), h.r1.imp (fun _ e => coff3 e (by omega)), h.r2.imp (fun _ e => coff3 e (by omega)), fun o => frs3 (h.fo o), fun o => frs3 (h.fr o)⟩
theorem csum_pre (D : List (Int × Int)) (h : ∀ p ∈ D, 1 ≤ p.2) (k : Nat) : csum (D.take k) ≤ csum D := (csum_take D (fun p hp => by have := h p hp; omega) k).1
end Go.Proofs.Ytcbklhicellepaa
