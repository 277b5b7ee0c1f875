/- Contracts of few.Ask, the laws' own heard, slices.Equal at equal counters, culref.SameFew. -/
import Derived.Test.YtffocoflmbhknaaFewPutC
namespace Go.Proofs.Ytffocoflmbhknaa
open Go.ChangeShapes Go.WideShapes Go.ChangeAt Go.RowKit
set_option maxRecDepth 20000
theorem occ_pos (z : Int) (L : List (Int × Int)) (h : ∀ p ∈ L, 0 ≤ p.2) : 0 ≤ occ L z := (occ_bd z L h).1
theorem FewOk.occ_le {K : Nat} {s : Int × List (Int × Int)} (h : FewOk K s) (z : Int) : 0 ≤ occ s.2 z ∧ occ s.2 z ≤ 1000000000000 := by
  rw [← ask_occ z s.2 h.ris]
  split
  · rename_i hh
    have hk := khas_key s.2 z hh
    have hm := cmem s.2 (kpos s.2 z) hk.1
    have h1 := h.pos _ hm
    have h2 := h.big _ hm
    have h3 : 1 ≤ cnum s.2 (kpos s.2 z) := h1
    have h4 : cnum s.2 (kpos s.2 z) ≤ 1000000000000 := h2
    omega
  · omega
theorem eqcc_c (a1 a2 : Option Addr) (n c1 c2 : Nat) (L : List (Int × Int)) (w : World) (h1 : CntAt w a1 n c1 L) (h2 : CntAt w a2 n c2 L) :
    Calls Try.prog 5 #[.slice a1 n c1, .slice a2 n c2] w fun e w' => e = .returned (.bool true) ∧ Below w.heap.size w w' := by
  have m1 := h1.max
  have m2 := h2.max
  have e1 := h1.le
  have e2 := h2.le
  have hne : ((n : Int) != (n : Int)) = false := by simp
  have C1 := hidp h1.cells
  have C2 := hidp h2.cells
  clear h1 h2
  go_enter Try.func5, Try.ntmps5
  go_wp2_with fail
  go_loopw [13] (fun i wr => ∃ k : Nat, k ≤ n ∧ i = .int .i64 k ∧ Below w.heap.size w wr) (fun i _ => n - (intOf i).toNat)
  case atStart => exact ⟨0, by omega, rfl, Below.refl _ _⟩
  case round =>
    obtain ⟨k, hk, rfl, hbl⟩ := hrel
    by_cases hlt : k < n
    · obtain ⟨b, o, rfl, hb, hc⟩ := C1.out (by omega)
      obtain ⟨b', o', rfl, hb', hc'⟩ := C2.out (by omega)
      have q0 := carry_cell ⟨hb, (hc k hlt).1⟩ hbl
      have q1 := carry_cell ⟨hb, (hc k hlt).2⟩ hbl
      have q2 := carry_cell ⟨hb', (hc' k hlt).1⟩ hbl
      have q3 := carry_cell ⟨hb', (hc' k hlt).2⟩ hbl
      clear hc hc'
      go_wp2_with fail
      go_quiet (fail)
      go_wp2
      go_roundw
      case rel => exact ⟨k + 1, by omega, by go_num, below_drewN hbl _⟩
      case measure => simp [intOf]; omega
    · obtain rfl : k = n := by omega
      go_wp2
      go_ret
      exact ⟨rfl, hbl⟩
/-- Two fews of the same values are the same. -/
theorem samefew_c (K lost : Int) (a1 a2 : Option Addr) (n c1 c2 : Nat) (L : List (Int × Int)) (w : World) (h1 : CntAt w a1 n c1 L) (h2 : CntAt w a2 n c2 L) :
    Calls Try.prog 16 #[fewV K lost a1 n c1, fewV K lost a2 n c2] w fun e w' => e = .returned (.bool true) ∧ Below w.heap.size w w' := by
  have hb1 : Below w.heap.size w ((w.alloc (.cells #[.int .i64 K, .int .i64 lost, .slice a1 n c1] 30)).alloc (.cells #[.int .i64 K, .int .i64 lost, .slice a2 n c2] 30)) := bal (bal (Below.refl _ _) _) _
  have EQ := hidp (eqcc_c a1 a2 n c1 c2 L _ (h1.below hb1) (h2.below hb1))
  have HB := hidp hb1
  clear hb1 h1 h2
  unfold fewV
  go_enter Try.func16, Try.ntmps16
  go_wp2_with fail
  refine EQ.out.mono ?_
  rintro e w' ⟨rfl, hb'⟩
  have HB2 := hidp (bstep HB.out hb')
  clear hb' EQ HB
  go_wp2_with fail
  go_ret
  exact ⟨rfl, HB2.out⟩
/-- What stands while a few is heard: the result's cell H, the few at H + 1. -/
structure HeaS (W : World) (H : Nat) (K lost : Int) (v : Value) : Prop where
  o0 : W.cell? ⟨H + 1, 0, none⟩ = some (.int .i64 K)
  o1 : W.cell? ⟨H + 1, 1, none⟩ = some (.int .i64 lost)
  o2 : W.cell? ⟨H + 1, 2, none⟩ = some v
  r0 : ∃ u, W.cell? ⟨H, 0, none⟩ = some u
  r1 : ∃ u, W.cell? ⟨H, 1, none⟩ = some u
  r2 : ∃ u, W.cell? ⟨H, 2, none⟩ = some u
  fo : ∀ o, W.frozen? ⟨H + 1, o, none⟩ = false
  fr : ∀ o, W.frozen? ⟨H, o, none⟩ = false
theorem HeaS.below {W W' : World} {H : Nat} {K lost : Int} {v : Value} (h : HeaS W H K lost v) (hb : Below W.heap.size W W') : HeaS W' H K lost v :=
  ⟨ck hb h.o0, ck hb h.o1, ck hb h.o2, h.r0.imp (fun _ e => ck hb e), h.r1.imp (fun _ e => ck hb e), h.r2.imp (fun _ e => ck hb e), fun o => (hb.frozen (p := ⟨H + 1, o, none⟩) (show H + 1 < _ from ltc h.o0)).trans (h.fo o), fun o => by
    obtain ⟨u, e⟩ := h.r0
    exact (hb.frozen (p := ⟨H, o, none⟩) (show H < _ from ltc e)).trans (h.fr o)⟩
theorem HeaS.put {W : World} {H : Nat} {K lost : Int} {v : Value} (h : HeaS W H K lost v) (l2 : Int) (v2 : Value) : HeaS (((W.setCell ⟨H + 1, 0, none⟩ (.int .i64 K)).setCell ⟨H + 1, 1, none⟩ (.int .i64 l2)).setCell ⟨H + 1, 2, none⟩ v2) H K l2 v2 :=
  ⟨(res3 _ _ _ h.o0 h.o1 h.o2).1, (res3 _ _ _ h.o0 h.o1 h.o2).2.1, (res3 _ _ _ h.o0 h.o1 h.o2).2.2, h.r0.imp (fun _ e => coff3 e (by omega)), h.r1.imp (fun _ e => coff3 e (by omega)), h.r2.imp (fun _ e => coff3 e (by omega)), fun o => frs3 (h.fo o), fun o => frs3 (h.fr o)⟩
theorem csum_pre (D : List (Int × Int)) (h : ∀ p ∈ D, 1 ≤ p.2) (k : Nat) : csum (D.take k) ≤ csum D := (csum_take D (fun p hp => by have := h p hp; omega) k).1
end Go.Proofs.Ytffocoflmbhknaa
