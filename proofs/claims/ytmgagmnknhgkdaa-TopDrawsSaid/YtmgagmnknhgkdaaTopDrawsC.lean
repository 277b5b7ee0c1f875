/- What stands in memory while TopDraws draws: two rows of counts, a pond, a map of what came. -/
import Derived.Test.YtmgagmnknhgkdaaTopDrawsMath
import Derived.Test.YtmgagmnknhgkdaaPondS
import Derived.Test.YtmgagmnknhgkdaaPond
import Derived.Test.YtmgagmnknhgkdaaMapB
import Derived.Test.YtmgagmnknhgkdaaEqI
namespace Go.Proofs.Ytmgagmnknhgkdaa.topDraws
open Go.ChangeShapes Go.WideShapes Go.ChangeAt Go.RowKit Go.Maps
open Go.Proofs.Ytmgagmnknhgkdaa
set_option maxRecDepth 20000
theorem mapIs_heap {w w' : World} {P : Program} {k e : TypeId} {q : IntKind} {b n : Nat} {S : Int → Bool} (h : MapIs w P k e q b n S) (hb : w'.heap[b]? = w.heap[b]?) : MapIs w' P k e q b n S := by
  obtain ⟨D, ⟨es, clock, hh, F, hs, hD⟩, h2⟩ := h
  exact ⟨D, ⟨es, clock, hb.trans hh, F, hs, hD⟩, h2⟩
structure TD (B g1 c1 g2 c2 Pp M N : Nat) (F G : Nat → Int) (k : Nat) (S : Int → Bool) (a : Option Addr) (n c : Nat) (L : List Int) (W : World) : Prop where
  o1 : W.ownsRow B 3 1 (.slice (some ⟨g1, 0, none⟩) N c1) N (row F N)
  o2 : W.ownsRow B 3 1 (.slice (some ⟨g2, 0, none⟩) N c2) N (row G N)
  ps : PS W Pp 3 k (.slice a n c)
  it : IntsAt W a n c L
  mp : MapIs W Try.prog 3 4 .i64 M k S
  e12 : g1 ≠ g2
  e1p : g1 ≠ Pp
  e2p : g2 ≠ Pp
  e1m : g1 ≠ M
  e2m : g2 ≠ M
  epm : Pp ≠ M
  ne : ∀ b o, a = some ⟨b, o, none⟩ → b ≠ g1 ∧ b ≠ g2 ∧ b ≠ Pp ∧ b ≠ M
theorem TD.below {B g1 c1 g2 c2 Pp M N : Nat} {F G : Nat → Int} {k : Nat} {S : Int → Bool} {a : Option Addr} {n c : Nat} {L : List Int} {W W' : World} (h : TD B g1 c1 g2 c2 Pp M N F G k S a n c L W) (hb : Below W.heap.size W W') : TD B g1 c1 g2 c2 Pp M N F G k S a n c L W' :=
  ⟨h.o1.kept (row := none) ⟨hb.os, hb.tape, hb.output, hb.size, fun k hk _ => hb.block k hk⟩ (.inr (by simp [Value.ownBlock])),
   h.o2.kept (row := none) ⟨hb.os, hb.tape, hb.output, hb.size, fun k hk _ => hb.block k hk⟩ (.inr (by simp [Value.ownBlock])),
   h.ps.below hb, h.it.below hb, h.mp.below hb, h.e12, h.e1p, h.e2p, h.e1m, h.e2m, h.epm, h.ne⟩
theorem TD.lt {B g1 c1 g2 c2 Pp M N : Nat} {F G : Nat → Int} {k : Nat} {S : Int → Bool} {a : Option Addr} {n c : Nat} {L : List Int} {W : World} (h : TD B g1 c1 g2 c2 Pp M N F G k S a n c L W) : g1 < W.heap.size ∧ g2 < W.heap.size ∧ Pp < W.heap.size ∧ M < W.heap.size :=
  ⟨(h.o1.lt g1 rfl).2, (h.o2.lt g2 rfl).2, lt_of_cell h.ps.q0, h.mp.lt⟩
theorem TD.st1 {B g1 c1 g2 c2 Pp M N : Nat} {F G : Nat → Int} {k : Nat} {S : Int → Bool} {a : Option Addr} {n c : Nat} {L : List Int} {W : World} (h : TD B g1 c1 g2 c2 Pp M N F G k S a n c L W) (j : Nat) (v : Int) (F' : Nat → Int) (hF : ∀ u, u < N → F' u = if u = j then v else F u) : TD B g1 c1 g2 c2 Pp M N F' G k S a n c L (W.setCell ⟨g1, j, none⟩ (.int .i64 v)) := by
  refine ⟨?_, owns_heap h.o2 (Below.heap_setCell _ _ _ _ (show g2 ≠ g1 from fun e => h.e12 e.symm)), h.ps.setFar _ h.e1p _, h.it.setCell _ (fun b o e => (h.ne b o e).1) _, mapIs_heap h.mp (Below.heap_setCell _ _ _ _ (by show M ≠ g1; exact fun e => h.e1m e.symm)), h.e12, h.e1p, h.e2p, h.e1m, h.e2m, h.epm, h.ne⟩
  have := own_store_tab h.o1 j (.int .i64 v)
  rw [show row F' N = tab (fun u => if u = j then Value.int .i64 v else Value.int .i64 (F u)) N from tab_congr _ _ _ (fun u hu => by
    rw [hF u hu]; by_cases e : u = j
    · rw [if_pos e, if_pos e]
    · rw [if_neg e, if_neg e])]
  exact this
theorem TD.st2 {B g1 c1 g2 c2 Pp M N : Nat} {F G : Nat → Int} {k : Nat} {S : Int → Bool} {a : Option Addr} {n c : Nat} {L : List Int} {W : World} (h : TD B g1 c1 g2 c2 Pp M N F G k S a n c L W) (j : Nat) (v : Int) (G' : Nat → Int) (hG : ∀ u, u < N → G' u = if u = j then v else G u) : TD B g1 c1 g2 c2 Pp M N F G' k S a n c L (W.setCell ⟨g2, j, none⟩ (.int .i64 v)) := by
  refine ⟨owns_heap h.o1 (Below.heap_setCell _ _ _ _ (show g1 ≠ g2 from h.e12)), ?_, h.ps.setFar _ h.e2p _, h.it.setCell _ (fun b o e => (h.ne b o e).2.1) _, mapIs_heap h.mp (Below.heap_setCell _ _ _ _ (by show M ≠ g2; exact fun e => h.e2m e.symm)), h.e12, h.e1p, h.e2p, h.e1m, h.e2m, h.epm, h.ne⟩
  have := own_store_tab h.o2 j (.int .i64 v)
  rw [show row G' N = tab (fun u => if u = j then Value.int .i64 v else Value.int .i64 (G u)) N from tab_congr _ _ _ (fun u hu => by
    rw [hG u hu]; by_cases e : u = j
    · rw [if_pos e, if_pos e]
    · rw [if_neg e, if_neg e])]
  exact this
/-- A thing came: the map has grown, and what is put stands in the pond's cell. -/
theorem TD.put {B g1 c1 g2 c2 Pp M N : Nat} {F G : Nat → Int} {k : Nat} {S S' : Int → Bool} {a a2 : Option Addr} {n c n2 cc2 : Nat} {L L2 : List Int} {W W1 W2 : World} (h : TD B g1 c1 g2 c2 Pp M N F G k S a n c L W) (hm : MapIs W1 Try.prog 3 4 .i64 M (k + 1) S') (hg : W.grownBy W1 (some M))
    (hb : Below W1.heap.size W1 W2) (hi : IntsAt W2 a2 n2 cc2 L2) (hne : ∀ b o, a2 = some ⟨b, o, none⟩ → W.heap.size ≤ b) :
    TD B g1 c1 g2 c2 Pp M N F G (k + 1) S' a2 n2 cc2 L2 (((W2.setCell ⟨Pp, 0, none⟩ (.int .i64 3)).setCell ⟨Pp, 1, none⟩ (.int .i64 ((k : Int) + 1))).setCell ⟨Pp, 2, none⟩ (.slice a2 n2 cc2)) := by
  have hlt := h.lt
  have o1 := (h.o1.kept hg (.inr (by simp [Value.ownBlock]; exact h.e1m))).kept (row := none) ⟨hb.os, hb.tape, hb.output, hb.size, fun k hk _ => hb.block k hk⟩ (.inr (by simp [Value.ownBlock]))
  have o2 := (h.o2.kept hg (.inr (by simp [Value.ownBlock]; exact h.e2m))).kept (row := none) ⟨hb.os, hb.tape, hb.output, hb.size, fun k hk _ => hb.block k hk⟩ (.inr (by simp [Value.ownBlock]))
  have p1 := (h.ps.grown hg (fun e => h.epm e.symm)).below hb
  have n3 : ∀ b o, a2 = some ⟨b, o, none⟩ → b ≠ g1 ∧ b ≠ g2 ∧ b ≠ Pp ∧ b ≠ M := fun b o e => by have := hne b o e; omega
  refine ⟨owns_heap (owns_heap (owns_heap o1 (Below.heap_setCell _ _ _ _ h.e1p)) (Below.heap_setCell _ _ _ _ h.e1p)) (Below.heap_setCell _ _ _ _ h.e1p), owns_heap (owns_heap (owns_heap o2 (Below.heap_setCell _ _ _ _ h.e2p)) (Below.heap_setCell _ _ _ _ h.e2p)) (Below.heap_setCell _ _ _ _ h.e2p), by have := p1.put 3 ((k : Int) + 1) (.slice a2 n2 cc2); exact this, ints_set3 hi Pp (fun b o e => (n3 b o e).2.2.1) _ _ _, ?_, h.e12, h.e1p, h.e2p, h.e1m, h.e2m, h.epm, n3⟩
  have m2 := hm.below hb
  have hne2 : M ≠ Pp := fun e => h.epm e.symm
  exact mapIs_heap (mapIs_heap (mapIs_heap m2 (Below.heap_setCell _ _ _ _ hne2)) (Below.heap_setCell _ _ _ _ hne2)) (Below.heap_setCell _ _ _ _ hne2)
/-- What a pond of three holds when k came. -/
def Came3 (k : Nat) (L : List Int) : Prop := L.length = min 3 k ∧ ∀ x ∈ L, 0 ≤ x ∧ x < k
theorem came3_step {k : Nat} {L : List Int} (h : Came3 k L) (d : Int) : Came3 (k + 1) (pput 3 k L k d) := by
  obtain ⟨h1, h2⟩ := h
  unfold pput
  by_cases e : (k : Int) < 3
  · rw [if_pos e]
    refine ⟨by rw [List.length_append, h1]; simp; omega, fun x hx => ?_⟩
    rcases List.mem_append.1 hx with hx | hx
    · have := h2 x hx; omega
    · simp at hx; omega
  · rw [if_neg e]
    by_cases e2 : d < 3
    · rw [if_pos e2]
      refine ⟨by rw [List.length_set, h1]; omega, fun x hx => ?_⟩
      rcases List.mem_or_eq_of_mem_set hx with hx | hx
      · have := h2 x hx; omega
      · omega
    · rw [if_neg e2]
      exact ⟨by rw [h1]; omega, fun x hx => by have := h2 x hx; omega⟩
/-- The sum of a list of numbers (cultop's own). -/
theorem tsum_c (a : Option Addr) (n c : Nat) (xs : List Int) (w : World) (h : IntsAt w a n c xs) (hb : ∀ k, k ≤ n → -4611686018427387904 ≤ sumK xs k ∧ sumK xs k ≤ 4611686018427387904) :
    Calls Try.prog 30 #[.slice a n c] w fun e w' => e = .returned (.int .i64 (sumK xs n)) ∧ w = w' := by
  have HB := hidp hb
  clear hb
  have m := h.max
  have l := h.le
  rcases Nat.eq_zero_or_pos n with hz | hz
  · subst hz
    go_enter Try.func30, Try.ntmps30
    go_wp2_with fail
    refine wp_loop_rounds 1 ?_; rw [rounds_succ]
    go_wp2
    go_ret
    exact ⟨rfl, rfl⟩
  · obtain ⟨b, o, rfl, hb, hc⟩ := h.addr hz
    have C := hidp hc
    clear hc h
    go_enter Try.func30, Try.ntmps30
    go_wp2_with fail
    go_loop [3, 8] (fun s i => ∃ k : Nat, k ≤ n ∧ i = .int .i64 k ∧ s = .int .i64 (sumK xs k)) (fun _ i => n - (intOf i).toNat)
    case atStart => exact ⟨0, by omega, rfl, rfl⟩
    case round =>
      obtain ⟨k, hk, rfl, rfl⟩ := hrel
      obtain ⟨B1, B2⟩ := HB.out k hk
      by_cases hlt : k < n
      · have q := C.out k hlt
        have e : sumK xs (k + 1) = sumK xs k + gi xs k := rfl
        obtain ⟨B3, B4⟩ := HB.out (k + 1) (by omega)
        rw [e] at B3 B4
        clear e
        go_wp2
        go_round
        case rel => exact ⟨k + 1, by omega, by go_num, rfl⟩
        case measure => simp [intOf]; omega
      · obtain rfl : k = n := by omega
        go_wp2
        go_ret
        exact ⟨rfl, rfl⟩
end Go.Proofs.Ytmgagmnknhgkdaa.topDraws
