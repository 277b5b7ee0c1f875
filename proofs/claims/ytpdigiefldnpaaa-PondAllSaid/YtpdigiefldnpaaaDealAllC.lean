/- What DealAll hands to each: contract of the closure, and what stands behind t ways. -/
import Derived.Test.YtpdigiefldnpaaaDealMath
import Derived.Test.YtpdigiefldnpaaaDRank
import Derived.Test.YtpdigiefldnpaaaEqI
import Derived.Test.YtpdigiefldnpaaaMapIN
namespace Go.Proofs.Ytpdigiefldnpaaa.dealAll
open Go.ChangeShapes Go.WideShapes Go.ChangeAt Go.RowKit Go.Maps OdoMath
open Go.Proofs.Ytpdigiefldnpaaa
set_option maxRecDepth 20000
theorem fct6 : ∀ n, n < 7 → fct n ≤ 720 := by decide +kernel
theorem zeroB (w : World) : (zeroValue 4).run Try.prog w = .ok (.bool false) w := by kernel_rfl
theorem key64 (n : Int) (h0 : 0 ≤ n) (h1 : n ≤ 9223372036854775807) : keyOf Try.prog 3 (.int .i64 n) = some (.int .i64 n) := keyOf_int_mk Try.underlying3 (WalkArith.wf_i64 (by omega))
theorem grown_of {B : Nat} {w w' : World} {row : Option Nat} (hb : Below B w w') (h : ∀ k, k < w.heap.size → some k ≠ row → w'.heap[k]? = w.heap[k]?) : w.grownBy w' row := ⟨hb.os, hb.tape, hb.output, hb.size, h⟩
theorem ints_grown {W W' : World} {a : Option Addr} {n c r : Nat} {xs : List Int} (h : IntsAt W a n c xs) (hg : W.grownBy W' (some r)) (hne : xs ≠ [] → ∀ b o, a = some ⟨b, o, none⟩ → b ≠ r) : IntsAt W' a n c xs := by
  refine ⟨h.len, h.le, h.max, fun hx => ?_, h.bd⟩
  obtain ⟨b, off, ha, hb, hc⟩ := h.cells hx
  refine ⟨b, off, ha, Nat.lt_of_lt_of_le hb hg.size, fun i v hi => gk hg (hc i v hi) ?_⟩
  intro e
  simp only [Option.some.injEq] at e
  exact hne (fun e2 => hx (by rw [e2]; rfl)) b off ha e.symm
theorem ints_setF {w : World} {a : Option Addr} {n c : Nat} {xs : List Int} (h : IntsAt w a n c xs) (p : Addr) (hne : xs ≠ [] → ∀ b o, a = some ⟨b, o, none⟩ → b ≠ p.block) (u : Value) : IntsAt (w.setCell p u) a n c xs := by
  refine ⟨h.len, h.le, h.max, fun hx => ?_, h.bd⟩
  obtain ⟨b, off, ha, hb, hc⟩ := h.cells hx
  refine ⟨b, off, ha, by simpa using hb, fun i v hi => ?_⟩
  rw [World.cell?_setCell_far _ _ _ _ (fun e => hne (fun e2 => hx (by rw [e2]; rfl)) b off ha e.symm)]
  exact hc i v hi
set_option maxHeartbeats 4000000 in
theorem clos_c (n t P6 P8 r : Nat) (ar ad : Option Addr) (cr cd : Nat) (W : World) (hn : n ≤ 6) (ht : t < fct n) (c6 : W.cell? ⟨P6, 0, none⟩ = some (.slice ar n cr)) (c8 : W.cell? ⟨P8, 0, none⟩ = some (.map (some r)))
    (iv : IntsAt W ar n cr (idn n)) (iw : IntsAt W ad n cd (way (bds n) n t)) (mp : MapN W Try.prog 3 4 .i64 r t (rks n t)) :
    Calls Try.prog 32 #[.slice ad n cd, .pointer (some ⟨P6, 0, none⟩), .pointer (some ⟨P8, 0, none⟩)] W fun e W' => e = .returned (.bool true) ∧ MapN W' Try.prog 3 4 .i64 r (t + 1) (rks n (t + 1)) ∧ W.grownBy W' (some r) := by
  have hf := fct6 n (by omega)
  have hrl : r < W.heap.size := by
    obtain ⟨D, h, _⟩ := mp
    exact h.lt
  have DC := hidp (deal_c ar ad n cr cd (idn n) (way (bds n) n t) W iv iw (by omega) (way_bd n t))
  have RC := hidp (fun a c w (h : IntsAt w a n c (dealt n t)) => drank_ok a n c (dealt n t) w h (dealt_ok n t (by omega)))
  have DB := hidp (show ∀ x ∈ dealt n t, -9223372036854775808 ≤ x ∧ x ≤ 9223372036854775807 from fun x hx => by
    obtain ⟨i, hi, rfl⟩ := tab_mem _ _ _ hx
    have := ((deal_perm n _ (way_bd n t) n (Nat.le_refl _)).1 i hi)
    omega)
  have RK := drk_lt n t (by omega)
  have NW := hidp (rks_new n t (by omega) ht)
  have AD := hidp (rks_add n t (by omega) ht)
  have ht2 : t < 1000000 := by omega
  obtain ⟨R, hR⟩ : ∃ R, R = drk n t := ⟨_, rfl⟩
  have RC2 := hidp (fun a c w (h : IntsAt w a n c (dealt n t)) => show Calls Try.prog 33 #[.slice a n c] w fun e w' => e = .returned (.tuple #[.int .i64 (R : Nat), .int .i64 0]) ∧ Below w.heap.size w w' from by
    rw [hR]; exact RC.out a c w h)
  have hRb : (R : Int) ≤ 479001600 := by omega
  rw [← hR] at NW AD
  have MP := hidp mp
  clear hR RC RK iv iw mp hf
  go_enter Try.func32, Try.ntmps32
  go_wp2_with fail
  refine DC.out.mono ?_
  rintro e w1 ⟨v, rfl, hv, hb1⟩
  obtain ⟨a, c, rfl, hI⟩ := owns_ints hv DB.out
  have RC3 := hidp (RC2.out _ _ _ hI)
  clear hI hv DC RC2
  go_wp2_with fail
  refine RC3.out.mono ?_
  rintro e w2 ⟨rfl, hb2⟩
  have hb := bstep hb1 hb2
  have d8 := ck hb c8
  have M2 := hidp (MP.out.below hb)
  have hl := M2.out.isB.run (t := 57) (int_keyed Try.underlying3) Try.underlying57 Try.underlying4 (zeroB _) (R : Int) (key64 _ (by omega) (by omega))
  rw [decide_eq_false NW.out] at hl
  clear hb1 hb2 MP c6 c8 RC3
  go_wp2_with (at_mapUpdate; refine wpList_mapUpdate_true rfl _ _ _ 57 rfl 3 4 (Maps.int_keyed Try.underlying3) Try.underlying57 Try.underlying4 r t _ .i64 rfl M2.out (by omega) _ rfl rfl (key64 _ (by omega) (by omega)) ?_; intro w3 hm3 hg3)
  go_ret
  rw [AD.out] at hm3
  exact ⟨rfl, hm3, grown_of ((hb.mono (show r ≤ W.heap.size by omega) |>.trans (Below.grown (Below.refl r w2) hg3 (by have := hb.size; omega) (fun g e => by cases e; exact Nat.le_refl _))) : Below r W w3) (fun k hk hne => (hg3.block k (Nat.lt_of_lt_of_le hk hb.size) hne).trans (hb.block k hk))⟩
/-- What stands behind t ways. -/
structure DInv (w0 : World) (P6 P8 r : Nat) (ar ab : Option Addr) (n cr cb t : Nat) (W : World) : Prop where
  c6 : W.cell? ⟨P6, 0, none⟩ = some (.slice ar n cr)
  c8 : W.cell? ⟨P8, 0, none⟩ = some (.map (some r))
  iv : IntsAt W ar n cr (idn n)
  ib : IntsAt W ab n cb (bds n)
  mp : MapN W Try.prog 3 4 .i64 r t (rks n t)
  bel : Below w0.heap.size w0 W
theorem DInv.below {w0 : World} {P6 P8 r : Nat} {ar ab : Option Addr} {n cr cb t : Nat} {W W' : World} (h : DInv w0 P6 P8 r ar ab n cr cb t W) (hb : Below W.heap.size W W') : DInv w0 P6 P8 r ar ab n cr cb t W' :=
  ⟨ck hb h.c6, ck hb h.c8, h.iv.below hb, h.ib.below hb, h.mp.below hb, bstep h.bel hb⟩
theorem DInv.set {w0 : World} {P6 P8 r : Nat} {ar ab : Option Addr} {n cr cb t : Nat} {W : World} (h : DInv w0 P6 P8 r ar ab n cr cb t W) (B : Nat) (hB : w0.heap.size ≤ B) (h6 : P6 < B) (h8 : P8 < B) (hr : r < B) (ha : idn n ≠ [] → ∀ b o, ar = some ⟨b, o, none⟩ → b < B) (hb : bds n ≠ [] → ∀ b o, ab = some ⟨b, o, none⟩ → b < B) (i : Nat) (v : Value) : DInv w0 P6 P8 r ar ab n cr cb t (W.setCell ⟨B, i, none⟩ v) := by
  have far : ∀ (p : Nat) (x : Value), p < B → W.cell? ⟨p, 0, none⟩ = some x → (W.setCell ⟨B, i, none⟩ v).cell? ⟨p, 0, none⟩ = some x := fun p x hp hx => by
    rw [World.cell?_setCell_far _ _ _ _ (by show B ≠ p; omega)]; exact hx
  exact ⟨far _ _ h6 h.c6, far _ _ h8 h.c8, ints_setF h.iv _ (fun e b o he => Nat.ne_of_lt (ha e b o he)) v, ints_setF h.ib _ (fun e b o he => Nat.ne_of_lt (hb e b o he)) v, h.mp.heap (Below.heap_setCell _ _ _ _ (by show r ≠ B; omega)), h.bel.setCell (p := ⟨B, i, none⟩) hB v⟩
theorem DInv.grown {w0 : World} {P6 P8 r : Nat} {ar ab : Option Addr} {n cr cb t : Nat} {W W' : World} (h : DInv w0 P6 P8 r ar ab n cr cb t W) (h6 : P6 ≠ r) (h8 : P8 ≠ r) (hr : w0.heap.size ≤ r) (ha : idn n ≠ [] → ∀ b o, ar = some ⟨b, o, none⟩ → b ≠ r) (hb : bds n ≠ [] → ∀ b o, ab = some ⟨b, o, none⟩ → b ≠ r)
    (hm : MapN W' Try.prog 3 4 .i64 r (t + 1) (rks n (t + 1))) (hg : W.grownBy W' (some r)) : DInv w0 P6 P8 r ar ab n cr cb (t + 1) W' :=
  ⟨gk hg h.c6 (fun e => h6 (by simp only [Option.some.injEq] at e; exact e.symm)), gk hg h.c8 (fun e => h8 (by simp only [Option.some.injEq] at e; exact e.symm)), ints_grown h.iv hg ha, ints_grown h.ib hg hb, hm, h.bel.grown hg h.bel.size (fun g e => by cases e; exact hr)⟩
end Go.Proofs.Ytpdigiefldnpaaa.dealAll
