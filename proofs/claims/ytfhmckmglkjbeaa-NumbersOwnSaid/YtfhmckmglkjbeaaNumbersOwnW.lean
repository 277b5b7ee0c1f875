/- The walk of NumbersOwn. -/
import Derived.Test.YtfhmckmglkjbeaaMgOrder
import Derived.Test.YtfhmckmglkjbeaaMgApart
import Derived.Test.YtfhmckmglkjbeaaSharesAny
import Derived.Test.YtfhmckmglkjbeaaNumAny2
import Derived.Test.YtfhmckmglkjbeaaNumAny3
import Derived.Test.YtfhmckmglkjbeaaBotAny
import Derived.Test.YtfhmckmglkjbeaaEstAny
namespace Go.Proofs.Ytfhmckmglkjbeaa.numbersOwn
open Go.ChangeShapes Go.WideShapes Go.ChangeAt Go.RowKit
open Go.Proofs.Ytfhmckmglkjbeaa
set_option maxRecDepth 20000
/-- A list with room behind it: what stands in the list. -/
theorem roomy_ints {W : World} {B g n : Nat} {x : Int} {xs : List Int} (h : W.ownsRow B 3 1 (.slice (some ⟨g, 0, none⟩) (n + 3) (n + 3)) (n + 3) ((xs ++ [x, x, x]).map (Value.int .i64))) (hl : xs.length = n) (hb : Bd xs) :
    W.ownsRow B 3 1 (.slice (some ⟨g, 0, none⟩) n (n + 3)) n (xs.map (Value.int .i64)) ∧ IntsAt W (some ⟨g, 0, none⟩) n (n + 3) xs ∧ ∀ i, i < 3 → W.cell? ⟨g, n + i, none⟩ = some (.int .i64 x) := by
  have h1 := owns_short h n (by omega)
  rw [Nat.mul_one, List.map_append, List.take_left' (by simp [hl])] at h1
  obtain ⟨a, c, hv, hI⟩ := owns_ints h1 hb
  simp only [Value.slice.injEq] at hv
  obtain ⟨rfl, _, rfl⟩ := hv
  refine ⟨h1, hI, fun i hi => ?_⟩
  rw [h.cellAt (n + i) (by omega), List.map_append, List.getElem?_append_right (by simp [hl])]
  have h3 : i = 0 ∨ i = 1 ∨ i = 2 := by omega
  simp only [List.length_map, hl, Nat.add_sub_cancel_left]
  rcases h3 with e | e | e <;> rw [e] <;> rfl
/-- p and q, and what was answered so far. -/
structure PQ (B gp gq n m : Nat) (xs ys : List Int) (W : World) (L : List Ent) : Prop where
  sep : Sep B W (ei (.slice (some ⟨gp, 0, none⟩) (n + 3) (n + 3)) (n + 3) (xs ++ [-7, -7, -7]) :: ei (.slice (some ⟨gq, 0, none⟩) (m + 3) (m + 3)) (m + 3) (ys ++ [-8, -8, -8]) :: L)
  hn : xs.length = n
  hm : ys.length = m
  bx : Bd xs
  by_ : Bd ys
  ii : ∀ x ∈ L, IsI x
theorem PQ.p {B gp gq n m : Nat} {xs ys : List Int} {W : World} {L : List Ent} (h : PQ B gp gq n m xs ys W L) : IntsAt W (some ⟨gp, 0, none⟩) n (n + 3) xs :=
  (roomy_ints (h.sep.own (ei (.slice (some ⟨gp, 0, none⟩) (n + 3) (n + 3)) (n + 3) (xs ++ [-7, -7, -7])) (by simp)) h.hn h.bx).2.1
theorem PQ.q {B gp gq n m : Nat} {xs ys : List Int} {W : World} {L : List Ent} (h : PQ B gp gq n m xs ys W L) : IntsAt W (some ⟨gq, 0, none⟩) m (m + 3) ys :=
  (roomy_ints (h.sep.own (ei (.slice (some ⟨gq, 0, none⟩) (m + 3) (m + 3)) (m + 3) (ys ++ [-8, -8, -8])) (by simp)) h.hm h.by_).2.1
theorem PQ.below {B gp gq n m : Nat} {xs ys : List Int} {W W' : World} {L : List Ent} (h : PQ B gp gq n m xs ys W L) (hb : Below W.heap.size W W') : PQ B gp gq n m xs ys W' L := ⟨h.sep.below hb, h.hn, h.hm, h.bx, h.by_, h.ii⟩
theorem PQ.step {B gp gq n m : Nat} {xs ys : List Int} {W W' : World} {L : List Ent} {v : Value} (h : PQ B gp gq n m xs ys W L) (hB : B ≤ W.heap.size) (hb : Below W.heap.size W W') (hv : Fr W.heap.size W' v) : ∃ x : Ent, x.v = v ∧ PQ B gp gq n m xs ys W' (L ++ [x]) := by
  obtain ⟨k, zs, hO, hk, hZ⟩ := hv
  refine ⟨ei v k zs, rfl, h.sep.snoc (x := ei v k zs) hB hb hO, h.hn, h.hm, h.bx, h.by_, fun x hx => ?_⟩
  rcases List.mem_append.1 hx with hx | hx
  · exact h.ii x hx
  · simp at hx; subst hx; exact ⟨k, zs, rfl, hk, hZ⟩
theorem PQ.step2 {B gp gq n m : Nat} {xs ys : List Int} {W W' : World} {L : List Ent} {v u : Value} (h : PQ B gp gq n m xs ys W L) (hB : B ≤ W.heap.size) (hb : Below W.heap.size W W') (hv : Fr W.heap.size W' v) (hu : Fr W.heap.size W' u) (ha : Apart v u) : ∃ x y : Ent, x.v = v ∧ y.v = u ∧ PQ B gp gq n m xs ys W' (L ++ [x, y]) := by
  obtain ⟨k, zs, hO, hk, hZ⟩ := hv
  obtain ⟨k2, zs2, hO2, hk2, hZ2⟩ := hu
  have h1 := h.sep.snoc (x := ei v k zs) hB hb hO
  refine ⟨ei v k zs, ei u k2 zs2, rfl, rfl, ⟨fun z hz => ?_, ?_⟩, h.hn, h.hm, h.bx, h.by_, fun x hx => ?_⟩
  · have hz' : z ∈ (ei (.slice (some ⟨gp, 0, none⟩) (n + 3) (n + 3)) (n + 3) (xs ++ [-7, -7, -7]) :: ei (.slice (some ⟨gq, 0, none⟩) (m + 3) (m + 3)) (m + 3) (ys ++ [-8, -8, -8]) :: L) ++ [ei v k zs] ∨ z = ei u k2 zs2 := by
      simp only [List.mem_cons, List.mem_append, List.not_mem_nil, or_false, List.cons_append] at hz ⊢
      rcases hz with h | h | h | h | h
      · exact .inl (.inl h)
      · exact .inl (.inr (.inl h))
      · exact .inl (.inr (.inr (.inl h)))
      · exact .inl (.inr (.inr (.inr h)))
      · exact .inr h
    rcases hz' with hz' | rfl
    · exact h1.own z hz'
    · exact owns_mono hO2 hB
  · have e : (ei (.slice (some ⟨gp, 0, none⟩) (n + 3) (n + 3)) (n + 3) (xs ++ [-7, -7, -7]) :: ei (.slice (some ⟨gq, 0, none⟩) (m + 3) (m + 3)) (m + 3) (ys ++ [-8, -8, -8]) :: (L ++ [ei v k zs, ei u k2 zs2])) = ((ei (.slice (some ⟨gp, 0, none⟩) (n + 3) (n + 3)) (n + 3) (xs ++ [-7, -7, -7]) :: ei (.slice (some ⟨gq, 0, none⟩) (m + 3) (m + 3)) (m + 3) (ys ++ [-8, -8, -8]) :: L) ++ [ei v k zs]) ++ [ei u k2 zs2] := by simp
    rw [e, List.pairwise_append]
    refine ⟨h1.ap, by simp, fun a ha' b hb' => ?_⟩
    simp at hb'; subst hb'
    rcases List.mem_append.1 ha' with hx | hx
    · exact apart_new (h.sep.own a hx) hO2 (Nat.le_refl _)
    · simp at hx; subst hx; exact ha
  · rcases List.mem_append.1 hx with hx | hx
    · exact h.ii x hx
    · simp at hx
      rcases hx with rfl | rfl
      · exact ⟨k, zs, rfl, hk, hZ⟩
      · exact ⟨k2, zs2, rfl, hk2, hZ2⟩
theorem hd_lit (W : World) (L : List Ent) (T : TypeId) (cs : Array Value) (h : cs = (L.map (·.v)).toArray) : Hd W.heap.size 0 (W.alloc (.cells cs T)) L := by
  subst h
  refine ⟨by simp, fun i x hx => ?_⟩
  have hh : (W.alloc (.cells (L.map (·.v)).toArray T)).heap[W.heap.size]? = some (.cells (L.map (·.v)).toArray T) := heap_alloc_new W _
  unfold World.cell?
  rw [hh]
  simp [hx]
theorem ent_form {B : Nat} {W : World} {x : Ent} (h : W.ownsRow B x.e x.s x.v x.n x.cs) : ∃ a c, x.v = .slice a x.n c := by
  obtain ⟨a, c, h1, _⟩ := owns_form h
  exact ⟨a, c, h1⟩
theorem PQ.stepS {B gp gq n m : Nat} {xs ys : List Int} {W W' : World} {L : List Ent} {v : Value} (h : PQ B gp gq n m xs ys W L) (hB : B ≤ W.heap.size) (hb : Below W.heap.size W W') (hv : Fr W.heap.size W' v) : ∃ a k c zs, v = .slice a k c ∧ PQ B gp gq n m xs ys W' (L ++ [⟨3, 1, .slice a k c, k, zs⟩]) := by
  obtain ⟨x, rfl, hS⟩ := h.step hB hb hv
  obtain ⟨k, zs, hx, _, _⟩ := hS.ii x (by simp)
  obtain ⟨a, c, hf⟩ := ent_form (hS.sep.own x (by simp))
  obtain ⟨e, sz, v, n', cs⟩ := x
  simp only [ei, Ent.mk.injEq] at hx
  obtain ⟨rfl, rfl, _, rfl, rfl⟩ := hx
  simp only at hf
  subst hf
  exact ⟨_, _, _, _, rfl, hS⟩
theorem PQ.step2S {B gp gq n m : Nat} {xs ys : List Int} {W W' : World} {L : List Ent} {v u : Value} (h : PQ B gp gq n m xs ys W L) (hB : B ≤ W.heap.size) (hb : Below W.heap.size W W') (hv : Fr W.heap.size W' v) (hu : Fr W.heap.size W' u) (ha : Apart v u) : ∃ a k c zs a' k' c' zs', v = .slice a k c ∧ u = .slice a' k' c' ∧ PQ B gp gq n m xs ys W' (L ++ [⟨3, 1, .slice a k c, k, zs⟩, ⟨3, 1, .slice a' k' c', k', zs'⟩]) := by
  obtain ⟨x, y, rfl, rfl, hS⟩ := h.step2 hB hb hv hu ha
  obtain ⟨k, zs, hx, _, _⟩ := hS.ii x (by simp)
  obtain ⟨k', zs', hy, _, _⟩ := hS.ii y (by simp)
  obtain ⟨a, c, hf⟩ := ent_form (hS.sep.own x (by simp))
  obtain ⟨a', c', hf'⟩ := ent_form (hS.sep.own y (by simp))
  obtain ⟨e, sz, v, n', cs⟩ := x
  obtain ⟨e', sz', v', n'', cs'⟩ := y
  simp only [ei, Ent.mk.injEq] at hx hy
  obtain ⟨rfl, rfl, _, rfl, rfl⟩ := hx
  obtain ⟨rfl, rfl, _, rfl, rfl⟩ := hy
  simp only at hf hf'
  subst hf hf'
  exact ⟨_, _, _, _, _, _, _, _, rfl, rfl, hS⟩
/-- A struct is laid in a new block. -/
theorem close2 (W : World) (v0 v1 : Value) (T : TypeId) : Below W.heap.size W (W.alloc (.cells #[v0, v1] T)) ∧ (W.alloc (.cells #[v0, v1] T)).cell? ⟨W.heap.size, 1, none⟩ = some v1 :=
  ⟨bal (Below.refl _ _) _, by go_simp⟩
theorem close3 (W : World) (v0 v1 v2 : Value) (T : TypeId) : Below W.heap.size W (W.alloc (.cells #[v0, v1, v2] T)) ∧ (W.alloc (.cells #[v0, v1, v2] T)).cell? ⟨W.heap.size, 1, none⟩ = some v1 ∧ (W.alloc (.cells #[v0, v1, v2] T)).cell? ⟨W.heap.size, 2, none⟩ = some v2 :=
  ⟨bal (Below.refl _ _) _, by go_simp, by go_simp⟩
set_option maxHeartbeats 16000000 in
theorem walk (a0 : Option Addr) (n c0 : Nat) (xs : List Int) (a1 : Option Addr) (m c1 : Nat) (ys : List Int) (a2 : Int) (w : World)
    (w0 : IntsAt w a0 n c0 xs) (w1 : IntsAt w a1 m c1 ys) (w2 : (Lit.int .i64 a2).wf = true) (z0 : a0 = none → c0 = 0) (z1 : a1 = none → c1 = 0) (s0 : n ≤ 17592186043904) (s1 : m ≤ 17592186043904) :
    Calls Try.prog 3 #[.slice a0 n c0, .slice a1 m c1, .int .i64 a2] w fun e w' => e = .returned (.bool true) ∧ Below w.heap.size w w' := by
  have hw2 := wf_bd w2
  have H0 := hidp w0
  have H1 := hidp w1
  have O1 := hidp (order_c 2 1 2 1 rfl rfl (by omega) (by decide) w)
  have Z0 := hidp z0
  have Z1 := hidp z1
  have m0 := w0.max
  have l0 := w0.le
  have m1 := w1.max
  have l1 := w1.le
  clear w0 w1 w2 z0 z1
  go_enter Try.func3, Try.ntmps3
  go_wp2_with fail
  refine O1.out.mono ?_
  rintro e wa ⟨v1, rfl, ho, hba⟩
  have e1 : ordL 2 1 (idn 2) = [1, 0] := by decide
  rw [e1] at ho
  obtain ⟨av, cv, rfl, hI⟩ := owns_ints ho (by simp)
  have EQ := hidp (equali_t av (some ⟨wa.heap.size, 0, none⟩) 2 2 cv 2 [1, 0] (wa.alloc (.cells #[.int .i64 1, .int .i64 0] 3)) (hI.alloc _) (ints_lit [1, 0] rfl rfl rfl (by simp) (by omega)))
  have hbb : Below w.heap.size w (wa.alloc (.cells #[.int .i64 1, .int .i64 0] 3)) := bal hba _
  clear ho hI O1 e1
  go_wp2_with fail
  refine EQ.out.mono ?_
  rintro e wb ⟨rfl, hb⟩
  have hb2 := bstep hbb hb
  clear EQ hbb hb hba
  have R1 := hidp (roomyi_c a0 n c0 xs (-7) wb (H0.out.below hb2) Z0.out s0)
  go_wp2_with fail
  refine R1.out.mono ?_
  rintro e wc ⟨gp, rfl, hO1, hb⟩
  have S1 := hidp ((Sep.nil w.heap.size wb).snoc (x := ei (.slice (some ⟨gp, 0, none⟩) (n + 3) (n + 3)) (n + 3) (xs ++ [-7, -7, -7])) hb2.size hb hO1)
  have hb3 := bstep hb2 hb
  have R2 := hidp (roomyi_c a1 m c1 ys (-8) wc (H1.out.below hb3) Z1.out s1)
  clear R1 hO1 hb
  go_wp2_with fail
  refine R2.out.mono ?_
  rintro e wd ⟨gq, rfl, hO2, hb⟩
  have S2 := hidp (show PQ w.heap.size gp gq n m xs ys wd [] from ⟨S1.out.snoc (x := ei (.slice (some ⟨gq, 0, none⟩) (m + 3) (m + 3)) (m + 3) (ys ++ [-8, -8, -8])) hb3.size hb hO2, H0.out.len, H1.out.len, H0.out.bd, H1.out.bd, fun x hx => by simp at hx⟩)
  have hb4 := bstep hb3 hb
  clear R2 hO2 hb S1 hb3 hb2
  have F := hidp (deal_any (some ⟨gp, 0, none⟩) (some ⟨gq, 0, none⟩) n m (n + 3) (m + 3) xs ys wd S2.out.p S2.out.q)
  go_wp2_with fail
  refine F.out.mono ?_
  rintro e w1 ⟨v1, r1, rfl, hf, hb⟩
  obtain ⟨a11, i1, j1, z1, rfl, t1⟩ := S2.out.stepS hb4.size hb hf
  have T1 := hidp t1
  have b1 := bstep hb4 hb
  clear F hf hb t1 S2 hb4
  have F := hidp (some_any n a2 (by omega) w1)
  go_wp2_with fail
  refine F.out.mono ?_
  rintro e w2 ⟨v1, r2, rfl, hf, hb⟩
  obtain ⟨a12, i2, j2, z2, rfl, t2⟩ := T1.out.stepS b1.size hb hf
  have T2 := hidp t2
  have b2 := bstep b1 hb
  clear F hf hb t2 T1 b1
  have F := hidp (pput_any (some ⟨gp, 0, none⟩) n (n + 3) xs w2 T2.out.p)
  go_wp2_with fail
  refine F.out.mono ?_
  rintro e y3 ⟨k3, q3, v1, r3, rfl, hf, hb⟩
  obtain ⟨a13, i3, j3, z3, rfl, t3⟩ := T2.out.stepS b2.size hb hf
  have b3 := bstep b2 hb
  clear F hf hb T2 b2
  go_upto_region 8 with fail
  obtain ⟨hb, d1, d2⟩ := close3 y3 (.int .i64 k3) (.int .i64 q3) (.slice a13 i3 j3) 30
  have T3 := hidp (t3.below hb)
  have c3 := bstep b3 hb
  clear hb t3 b3
  generalize (y3.alloc (.cells #[.int .i64 k3, .int .i64 q3, .slice a13 i3 j3] 30)) = w3 at *
  generalize y3.heap.size = P3 at *
  have g1 := d2
  clear d1 d2
  have F := hidp (make_any (some ⟨gp, 0, none⟩) n (n + 3) xs w3 T3.out.p)
  go_wp2_with fail
  refine F.out.mono ?_
  rintro e y4 ⟨k4, v1, v2, r4, rfl, hf, hf2, hap, hb⟩
  obtain ⟨a14, i4, j4, z4, aa4, ii4, jj4, zz4, rfl, rfl, t4⟩ := T3.out.step2S c3.size hb hf hf2 hap
  have b4 := bstep c3 hb
  replace g1 := ck hb g1
  clear F hf hf2 hap hb T3 c3
  go_upto_region 9 with fail
  obtain ⟨hb, d1, d2⟩ := close3 y4 (.int .i64 k4) (.slice a14 i4 j4) (.slice aa4 ii4 jj4) 34
  have T4 := hidp (t4.below hb)
  have c4 := bstep b4 hb
  replace g1 := ck hb g1
  clear hb t4 b4
  generalize (y4.alloc (.cells #[.int .i64 k4, .slice a14 i4 j4, .slice aa4 ii4 jj4] 34)) = w4 at *
  generalize y4.heap.size = P4 at *
  have g2 := d1
  have g3 := d2
  clear d1 d2
  have F := hidp (shares_any gp gq n m (n + 3) (m + 3) 9 xs ys w4 (fun i hi => by have := ints_cell T4.out.p i hi; rwa [Nat.zero_add] at this) (fun i hi => by have := ints_cell T4.out.q i hi; rwa [Nat.zero_add] at this) (by omega) (by omega))
  go_wp2_with fail
  refine F.out.mono ?_
  rintro e w5 ⟨v1, r5, rfl, hf, hb⟩
  obtain ⟨a15, i5, j5, z5, rfl, t5⟩ := T4.out.stepS c4.size hb hf
  have T5 := hidp t5
  have b5 := bstep c4 hb
  replace g1 := ck hb g1
  replace g2 := ck hb g2
  replace g3 := ck hb g3
  clear F hf hb t5 T4 c4
  have F := hidp (even_any (some ⟨gp, 0, none⟩) n (n + 3) xs 3 a2 w5 T5.out.p)
  go_wp2_with fail
  refine F.out.mono ?_
  rintro e w6 ⟨v1, r6, rfl, hf, hb⟩
  obtain ⟨a16, i6, j6, z6, rfl, t6⟩ := T5.out.stepS b5.size hb hf
  have T6 := hidp t6
  have b6 := bstep b5 hb
  replace g1 := ck hb g1
  replace g2 := ck hb g2
  replace g3 := ck hb g3
  clear F hf hb t6 T5 b5
  have F := hidp (boput_any n (some ⟨gp, 0, none⟩) n (n + 3) xs a2 w6 T6.out.p)
  go_wp2_with fail
  refine F.out.mono ?_
  rintro e y7 ⟨k7, v1, r7, rfl, hf, hb⟩
  obtain ⟨a17, i7, j7, z7, rfl, t7⟩ := T6.out.stepS b6.size hb hf
  have b7 := bstep b6 hb
  replace g1 := ck hb g1
  replace g2 := ck hb g2
  replace g3 := ck hb g3
  clear F hf hb T6 b6
  go_upto_region 12 with fail
  obtain ⟨hb, d1⟩ := close2 y7 (.int .i64 k7) (.slice a17 i7 j7) 40
  have T7 := hidp (t7.below hb)
  have c7 := bstep b7 hb
  replace g1 := ck hb g1
  replace g2 := ck hb g2
  replace g3 := ck hb g3
  clear hb t7 b7
  generalize (y7.alloc (.cells #[.int .i64 k7, .slice a17 i7 j7] 40)) = w7 at *
  generalize y7.heap.size = P7 at *
  have g4 := d1
  clear d1
  have F := hidp (botjoin_any n n (some ⟨gp, 0, none⟩) (some ⟨gq, 0, none⟩) n (n + 3) m (m + 3) xs ys w7 T7.out.p T7.out.q)
  go_wp2_with fail
  refine F.out.mono ?_
  rintro e y8 ⟨k8, v1, r8, rfl, hf, hb⟩
  obtain ⟨a18, i8, j8, z8, rfl, t8⟩ := T7.out.stepS c7.size hb hf
  have b8 := bstep c7 hb
  replace g1 := ck hb g1
  replace g2 := ck hb g2
  replace g3 := ck hb g3
  replace g4 := ck hb g4
  clear F hf hb T7 c7
  go_upto_region 13 with fail
  obtain ⟨hb, d1⟩ := close2 y8 (.int .i64 k8) (.slice a18 i8 j8) 40
  have T8 := hidp (t8.below hb)
  have c8 := bstep b8 hb
  replace g1 := ck hb g1
  replace g2 := ck hb g2
  replace g3 := ck hb g3
  replace g4 := ck hb g4
  clear hb t8 b8
  generalize (y8.alloc (.cells #[.int .i64 k8, .slice a18 i8 j8] 40)) = w8 at *
  generalize y8.heap.size = P8 at *
  have g5 := d1
  clear d1
  have hbs := bal c8 (.cells #[.slice (some ⟨gp, 0, none⟩) n (n + 3), .slice (some ⟨gp, 0, none⟩) n (n + 3)] 22)
  have TS := hidp (T8.out.below (bal (Below.refl _ _) (.cells #[.slice (some ⟨gp, 0, none⟩) n (n + 3), .slice (some ⟨gp, 0, none⟩) n (n + 3)] 22)))
  replace g1 := ca g1 (.cells #[.slice (some ⟨gp, 0, none⟩) n (n + 3), .slice (some ⟨gp, 0, none⟩) n (n + 3)] 22)
  replace g2 := ca g2 (.cells #[.slice (some ⟨gp, 0, none⟩) n (n + 3), .slice (some ⟨gp, 0, none⟩) n (n + 3)] 22)
  replace g3 := ca g3 (.cells #[.slice (some ⟨gp, 0, none⟩) n (n + 3), .slice (some ⟨gp, 0, none⟩) n (n + 3)] 22)
  replace g4 := ca g4 (.cells #[.slice (some ⟨gp, 0, none⟩) n (n + 3), .slice (some ⟨gp, 0, none⟩) n (n + 3)] 22)
  replace g5 := ca g5 (.cells #[.slice (some ⟨gp, 0, none⟩) n (n + 3), .slice (some ⟨gp, 0, none⟩) n (n + 3)] 22)
  have F := hidp (sign_any (some ⟨gp, 0, none⟩) (some ⟨gq, 0, none⟩) 2 2 m (m + 3) (fun _ => n) (fun _ => n + 3) (fun _ => some ⟨gp, 0, none⟩) (fun _ => xs) w8.heap.size 0 ys (w8.alloc (.cells #[.slice (some ⟨gp, 0, none⟩) n (n + 3), .slice (some ⟨gp, 0, none⟩) n (n + 3)] 22)) (by omega) (by omega) (by omega) (fun i hi => by
    have hI := TS.out.p
    have h2 : i = 0 ∨ i = 1 := by omega
    rcases h2 with e | e
    · subst e; exact ⟨by go_simp, hI⟩
    · subst e; exact ⟨by go_simp, hI⟩) (by simp) TS.out.q)
  go_wp2_with fail
  refine F.out.mono ?_
  rintro e w9 ⟨v1, r9, rfl, hf, hb⟩
  obtain ⟨a19, i9, j9, z9, rfl, t9⟩ := TS.out.stepS hbs.size hb hf
  have T9 := hidp t9
  have b9 := bstep hbs hb
  replace g1 := ck hb g1
  replace g2 := ck hb g2
  replace g3 := ck hb g3
  replace g4 := ck hb g4
  replace g5 := ck hb g5
  clear F hf hb t9 TS hbs T8 c8
  have F := hidp (rput_any (some ⟨gp, 0, none⟩) n (n + 3) xs a2 w9 T9.out.p)
  go_wp2_with fail
  refine F.out.mono ?_
  rintro e w10 ⟨v1, r10, rfl, hf, hb⟩
  obtain ⟨a20, i10, j10, z10, rfl, t10⟩ := T9.out.stepS b9.size hb hf
  have T10 := hidp t10
  have b10 := bstep b9 hb
  replace g1 := ck hb g1
  replace g2 := ck hb g2
  replace g3 := ck hb g3
  replace g4 := ck hb g4
  replace g5 := ck hb g5
  clear F hf hb t10 T9 b9
  have F := hidp (rjoin_any (some ⟨gp, 0, none⟩) (some ⟨gq, 0, none⟩) n (n + 3) m (m + 3) xs ys w10 T10.out.p T10.out.q)
  go_wp2_with fail
  refine F.out.mono ?_
  rintro e w11 ⟨v1, r11, rfl, hf, hb⟩
  obtain ⟨a21, i11, j11, z11, rfl, t11⟩ := T10.out.stepS b10.size hb hf
  have T11 := hidp t11
  have b11 := bstep b10 hb
  replace g1 := ck hb g1
  replace g2 := ck hb g2
  replace g3 := ck hb g3
  replace g4 := ck hb g4
  replace g5 := ck hb g5
  clear F hf hb t11 T10 b10
  have F := hidp (fair_any a2 (some ⟨gp, 0, none⟩) n (n + 3) xs w11 T11.out.p)
  go_wp2_with fail
  refine F.out.mono ?_
  rintro e w12 ⟨v1, r12, rfl, hf, hb⟩
  obtain ⟨a22, i12, j12, z12, rfl, t12⟩ := T11.out.stepS b11.size hb hf
  have T12 := hidp t12
  have b12 := bstep b11 hb
  replace g1 := ck hb g1
  replace g2 := ck hb g2
  replace g3 := ck hb g3
  replace g4 := ck hb g4
  replace g5 := ck hb g5
  clear F hf hb t12 T11 b11
  have F := hidp (sum_e (some ⟨gp, 0, none⟩) (some ⟨gq, 0, none⟩) (some ⟨gq, 0, none⟩) n m m (n + 3) (m + 3) (m + 3) xs ys ys w12 T12.out.p T12.out.q T12.out.q)
  go_wp2_with fail
  refine F.out.mono ?_
  rintro e w13 ⟨rfl, hb⟩
  have T13 := hidp (T12.out.below hb)
  have b13 := bstep b12 hb
  replace g1 := ck hb g1
  replace g2 := ck hb g2
  replace g3 := ck hb g3
  replace g4 := ck hb g4
  replace g5 := ck hb g5
  clear F hb T12 b12
  have F := hidp (spread_any (some ⟨gp, 0, none⟩) (some ⟨gq, 0, none⟩) n m (n + 3) (m + 3) xs ys w13 T13.out.p T13.out.q)
  go_wp2_with fail
  refine F.out.mono ?_
  rintro e w14 ⟨⟨sv, sr, rfl⟩, rfl⟩
  clear F
  have F := hidp (most_any (some ⟨gp, 0, none⟩) n (n + 3) xs w13 T13.out.p)
  go_wp2_with fail
  refine F.out.mono ?_
  rintro e w15 ⟨⟨mv, mb, mr, rfl⟩, rfl⟩
  clear F
  have F := hidp (drank_any (some ⟨gp, 0, none⟩) n (n + 3) xs w13 T13.out.p)
  go_wp2_with fail
  refine F.out.mono ?_
  rintro e w16 ⟨⟨dv, dr, rfl⟩, hb⟩
  have T16 := hidp (T13.out.below hb)
  have b16 := bstep b13 hb
  replace g1 := ck hb g1
  replace g2 := ck hb g2
  replace g3 := ck hb g3
  replace g4 := ck hb g4
  replace g5 := ck hb g5
  clear F hb T13 b13
  have F := hidp (equali_t (some ⟨gp, 0, none⟩) a0 n n (n + 3) c0 xs w16 T16.out.p (H0.out.below b16))
  go_wp2_with fail
  refine F.out.mono ?_
  rintro e w17 ⟨rfl, hb⟩
  have T17 := hidp (T16.out.below hb)
  have b17 := bstep b16 hb
  replace g1 := ck hb g1
  replace g2 := ck hb g2
  replace g3 := ck hb g3
  replace g4 := ck hb g4
  replace g5 := ck hb g5
  clear F hb T16 b16
  have F := hidp (equali_t (some ⟨gq, 0, none⟩) a1 m m (m + 3) c1 ys w17 T17.out.q (H1.out.below b17))
  go_wp2_with fail
  refine F.out.mono ?_
  rintro e w18 ⟨rfl, hb⟩
  have T18 := hidp (T17.out.below hb)
  have b18 := bstep b17 hb
  replace g1 := ck hb g1
  replace g2 := ck hb g2
  replace g3 := ck hb g3
  replace g4 := ck hb g4
  replace g5 := ck hb g5
  clear F hb T17 b17
  have F := hidp (markedi_c gp n (-7) w18 s0 (roomy_ints (T18.out.sep.own (ei (.slice (some ⟨gp, 0, none⟩) (n + 3) (n + 3)) (n + 3) (xs ++ [-7, -7, -7])) (by simp)) T18.out.hn T18.out.bx).2.2)
  go_wp2_with fail
  refine F.out.mono ?_
  rintro e w19 ⟨rfl, hb⟩
  have T19 := hidp (T18.out.below hb)
  have b19 := bstep b18 hb
  replace g1 := ck hb g1
  replace g2 := ck hb g2
  replace g3 := ck hb g3
  replace g4 := ck hb g4
  replace g5 := ck hb g5
  clear F hb T18 b18
  have F := hidp (markedi_c gq m (-8) w19 s1 (roomy_ints (T19.out.sep.own (ei (.slice (some ⟨gq, 0, none⟩) (m + 3) (m + 3)) (m + 3) (ys ++ [-8, -8, -8])) (by simp)) T19.out.hm T19.out.by_).2.2)
  go_wp2_with fail
  refine F.out.mono ?_
  rintro e w20 ⟨rfl, hb⟩
  have T20 := hidp (T19.out.below hb)
  have b20 := bstep b19 hb
  replace g1 := ck hb g1
  replace g2 := ck hb g2
  replace g3 := ck hb g3
  replace g4 := ck hb g4
  replace g5 := ck hb g5
  clear F hb T19 b19
  go_upto_region 24 with fail
  obtain ⟨L, hL⟩ : ∃ L : List Ent, L = [⟨3, 1, .slice a11 i1 j1, i1, z1⟩, ⟨3, 1, .slice a12 i2 j2, i2, z2⟩, ⟨3, 1, .slice a13 i3 j3, i3, z3⟩, ⟨3, 1, .slice a14 i4 j4, i4, z4⟩, ⟨3, 1, .slice aa4 ii4 jj4, ii4, zz4⟩, ⟨3, 1, .slice a15 i5 j5, i5, z5⟩, ⟨3, 1, .slice a16 i6 j6, i6, z6⟩, ⟨3, 1, .slice a17 i7 j7, i7, z7⟩, ⟨3, 1, .slice a18 i8 j8, i8, z8⟩, ⟨3, 1, .slice a19 i9 j9, i9, z9⟩, ⟨3, 1, .slice a20 i10 j10, i10, z10⟩, ⟨3, 1, .slice a21 i11 j11, i11, z11⟩, ⟨3, 1, .slice a22 i12 j12, i12, z12⟩] := ⟨_, rfl⟩
  have TL := hidp (show PQ w.heap.size gp gq n m xs ys w20 L by rw [hL]; exact T20.out)
  have hL13 : L.length = 13 := by rw [hL]; rfl
  have HD := hidp (hd_lit w20 L 22 #[.slice a11 i1 j1, .slice a12 i2 j2, .slice a13 i3 j3, .slice a14 i4 j4, .slice aa4 ii4 jj4, .slice a15 i5 j5, .slice a16 i6 j6, .slice a17 i7 j7, .slice a18 i8 j8, .slice a19 i9 j9, .slice a20 i10 j10, .slice a21 i11 j11, .slice a22 i12 j12] (by rw [hL]; rfl))
  have HN := hidp (show ∀ x ∈ ei (.slice (some ⟨gp, 0, none⟩) (n + 3) (n + 3)) (n + 3) (xs ++ [-7, -7, -7]) :: ei (.slice (some ⟨gq, 0, none⟩) (m + 3) (m + 3)) (m + 3) (ys ++ [-8, -8, -8]) :: L, x.v.ownBlock ≠ some w20.heap.size from fun x hx e => by have := (TL.out.sep.own x hx).lt _ e; omega)
  have TB := hidp (TL.out.below (bal (Below.refl _ _) (.cells #[.slice a11 i1 j1, .slice a12 i2 j2, .slice a13 i3 j3, .slice a14 i4 j4, .slice aa4 ii4 jj4, .slice a15 i5 j5, .slice a16 i6 j6, .slice a17 i7 j7, .slice a18 i8 j8, .slice a19 i9 j9, .slice a20 i10 j10, .slice a21 i11 j11, .slice a22 i12 j12] 22)))
  have hbB := bal b20 (.cells #[.slice a11 i1 j1, .slice a12 i2 j2, .slice a13 i3 j3, .slice a14 i4 j4, .slice aa4 ii4 jj4, .slice a15 i5 j5, .slice a16 i6 j6, .slice a17 i7 j7, .slice a18 i8 j8, .slice a19 i9 j9, .slice a20 i10 j10, .slice a21 i11 j11, .slice a22 i12 j12] 22)
  have hBb := b20.size
  clear TL hL T20 b20 g1 g2 g3 g4 g5 H0 H1 Z0 Z1 hw2
  generalize (w20.alloc (.cells #[.slice a11 i1 j1, .slice a12 i2 j2, .slice a13 i3 j3, .slice a14 i4 j4, .slice aa4 ii4 jj4, .slice a15 i5 j5, .slice a16 i6 j6, .slice a17 i7 j7, .slice a18 i8 j8, .slice a19 i9 j9, .slice a20 i10 j10, .slice a21 i11 j11, .slice a22 i12 j12] 22)) = w0 at *
  generalize w20.heap.size = b at *
  go_wp2_with fail
  obtain ⟨P0, hP0⟩ : ∃ P0 : Ent, P0 = ei (.slice (some ⟨gp, 0, none⟩) (n + 3) (n + 3)) (n + 3) (xs ++ [-7, -7, -7]) := ⟨_, rfl⟩
  obtain ⟨Q0, hQ0⟩ : ∃ Q0 : Ent, Q0 = ei (.slice (some ⟨gq, 0, none⟩) (m + 3) (m + 3)) (m + 3) (ys ++ [-8, -8, -8]) := ⟨_, rfl⟩
  have PV := hidp (show P0.v.ownBlock = some gp by rw [hP0]; rfl)
  have QV := hidp (show Q0.v.ownBlock = some gq by rw [hQ0]; rfl)
  have S0 := hidp (show Sep w.heap.size w0 (P0 :: Q0 :: L) by rw [hP0, hQ0]; exact TB.out.sep)
  have HI := hidp (show ∀ x ∈ L, IsI x from TB.out.ii)
  have HO := hidp (show ∀ x ∈ P0 :: Q0 :: L, x.v.ownBlock ≠ some b by rw [hP0, hQ0]; exact HN.out)
  have HX := hidp (And.intro TB.out.hn (And.intro TB.out.bx (And.intro TB.out.hm TB.out.by_)))
  have HP := hidp hP0
  have HQ := hidp hQ0
  have HL := hidp hL13
  have HH := HD
  have hB := hbB.size
  clear TB HN hP0 hQ0 hL13 HD
  go_loopw [197, 36] (fun i s36 wr => ∃ (k : Nat) (M : List Ent), k ≤ 13 ∧ i = .int .i64 k ∧ Hid (M.length = k) ∧ wr.ownsRow w0.heap.size 22 1 s36 k (M.map (·.v)) ∧ Hid (Sep w.heap.size wr ((P0 :: Q0 :: L) ++ M)) ∧ Hid (Off s36 ((P0 :: Q0 :: L) ++ M)) ∧ Hid (Twin L M) ∧ Hid (∀ x ∈ M, IsI x) ∧ Hid (Hd b 0 wr L) ∧ Below w0.heap.size w0 wr) (fun i _ _ => 13 - (intOf i).toNat)
  case atStart => exact ⟨0, [], by omega, rfl, rfl, World.ownsRow_nil _ _ _ _, by rw [List.append_nil]; exact S0, Off.nil _, Twin.nil _, fun x hx => by simp at hx, HH, Below.refl _ _⟩
  case round =>
    obtain ⟨k, M, hk, rfl, ML, hW, S1, O1, T1, I1, H1, hBl⟩ := hrel
    by_cases hlt : k < 13
    · have hlL := HL.out
      obtain ⟨y, hy⟩ : ∃ y, L[k]? = some y := ⟨L[k]'(by omega), List.getElem?_eq_getElem (by omega)⟩
      have hyL : y ∈ L := List.mem_of_getElem? hy
      obtain ⟨a', n', c', xs', rfl, hI', hn'⟩ := S1.out.ints (x := y) (List.mem_append_left _ (by simp [hyL])) (HI.out y hyL)
      have c1 : wr.cell? ⟨b, k, none⟩ = some (.slice a' n' c') := by have := H1.out.at_ k _ hy; rwa [Nat.zero_add] at this
      have HY := hidp hy
      have CC := hidp (clonei_c a' n' c' xs' wr hI' (by omega))
      clear hy hyL hlL
      have hlb := hidp hI'.bd
      clear hI'
      go_wp2_with fail
      refine CC.out.mono ?_
      rintro e w2 ⟨v2, rfl, hv2, hb2⟩
      have hd2 := owns_below' hW hb2
      have hbs := bstep hBl hb2
      have hgs := hbs.size
      have S2 := hidp (S1.out.snoc (x := ei v2 n' xs') (Nat.le_trans hB hBl.size) hb2 hv2)
      have O2 := hidp (Off.snoc (x := ei v2 n' xs') O1.out ((apart_new hW hv2 (Nat.le_refl _)).symm))
      have H2 := hidp (H1.out.below hb2)
      obtain ⟨a2', c2, rfl, _, _⟩ := owns_form hv2
      clear CC c1
      go_wp2_with (at_builtin; refine wpList_append_new rfl (.tmp 201) (.tmp 204) 45 rfl w0.heap.size 22 _ 1 24 info_slc rfl (by decide) Try.underlying45 u36 k _ rfl hd2 rfl (one_slc _ _ _) rfl rfl (by omega) (by decide) hgs ?_; intro v3 w3 nv g3 d3)
      have S3 := hidp (S2.out.off O2.out g3)
      have O3 := hidp (O2.out.grown S2.out d3)
      have H3 := hidp (H2.out.grown g3 (fun e => by
        have h1 := (hd2.lt b e).1
        have h2 := HH.out.lt
        omega))
      have bl3 := append_step hd2 hbs (Nat.le_refl _) g3
      go_roundw
      case measure => simp [intOf]; omega
      case rel =>
        have hml := ML.out
        refine ⟨k + 1, M ++ [ei (.slice a2' n' c2) n' xs'], by omega, by go_num, hidp (by simp [hml]), by rw [vmap_snoc]; exact nv, hidp (by rw [← List.append_assoc]; exact S3.out), hidp (by rw [← List.append_assoc]; exact O3.out), hidp (T1.out.snoc (x := ei (.slice a' n' c') n' xs') (by rw [hml]; exact HY.out) rfl rfl rfl rfl), hidp (fun z hz => ?_), H3, bl3⟩
        rcases List.mem_append.1 hz with hz | hz
        · exact I1.out z hz
        · simp at hz; subst hz; exact ⟨n', xs', rfl, hn', hlb.out⟩
    · obtain rfl : k = 13 := by omega
      have hml := ML.out
      obtain ⟨gw, cw, rfl, hgw, hgl, hcw, hcm⟩ := owns_addr hW (by omega)
      clear ML S0 HH
      obtain ⟨X1, X2, X3, X4⟩ := HX.out
      have R1 := hidp (roomy_ints (x := -7) (show wr.ownsRow w.heap.size 3 1 (.slice (some ⟨gp, 0, none⟩) (n + 3) (n + 3)) (n + 3) ((xs ++ [-7, -7, -7]).map (Value.int .i64)) from by
        have := S1.out.own P0 (by simp)
        rw [HP.out] at this
        exact this) X1 X2).1
      have F1 := hidp (spoili_c (.slice (some ⟨gp, 0, none⟩) n (n + 3)) n w.heap.size (xs.map (Value.int .i64)) 3 wr R1.out)
      have GP := hidp ((R1.out.lt gp rfl).1)
      clear X1 X2 X3 X4 R1
      go_wp2_with fail
      refine F1.out.mono ?_
      rintro e w4 ⟨rfl, hg⟩
      have hg' : wr.grownBy w4 P0.v.ownBlock := by rw [PV.out]; exact hg
      have S2 := hidp (Sep.head (L := (Q0 :: L) ++ M) S1.out hg')
      have hW2 := hW.kept hg' ((O1.out P0 (by simp)).symm)
      have H2 := hidp (H1.out.grown hg' (HO.out P0 (by simp)))
      have bl2 : Below w.heap.size w w4 := (hbB.trans (hBl.mono hB)).grown hg (Nat.le_trans hB hBl.size) (fun q hq => by cases hq; exact GP.out)
      have hs2 := hg.size
      clear F1 hg hg' hW H1 S1
      obtain ⟨X1, X2, X3, X4⟩ := HX.out
      have R1 := hidp (roomy_ints (x := -8) (show w4.ownsRow w.heap.size 3 1 (.slice (some ⟨gq, 0, none⟩) (m + 3) (m + 3)) (m + 3) ((ys ++ [-8, -8, -8]).map (Value.int .i64)) from by
        have := S2.out.own Q0 (by simp)
        rw [HQ.out] at this
        exact this) X3 X4).1
      have F1 := hidp (spoili_c (.slice (some ⟨gq, 0, none⟩) m (m + 3)) m w.heap.size (ys.map (Value.int .i64)) 4 w4 R1.out)
      have GQ := hidp ((R1.out.lt gq rfl).1)
      clear X1 X2 X3 X4 R1
      go_wp2_with fail
      refine F1.out.mono ?_
      rintro e w5 ⟨rfl, hg⟩
      have hg' : w4.grownBy w5 Q0.v.ownBlock := by rw [QV.out]; exact hg
      have S3 := hidp (Sep.head (L := L ++ M) S2.out hg')
      have hW3 := hW2.kept hg' ((O1.out Q0 (by simp)).symm)
      have H3 := hidp (H2.out.grown hg' (HO.out Q0 (by simp)))
      have bl3 : Below w.heap.size w w5 := bl2.grown hg bl2.size (fun q hq => by cases hq; exact GQ.out)
      have hs3 := hg.size
      clear F1 hg hg' hW2 H2 S2 bl2
      go_wp2_with fail
      go_loopw [213] (fun i wx => ∃ (k : Nat), k ≤ 13 ∧ i = .int .i64 k ∧ wx.ownsRow w0.heap.size 22 1 (.slice (some ⟨gw, 0, none⟩) 13 cw) 13 (M.map (·.v)) ∧ Hid (Sep w.heap.size wx (L ++ M)) ∧ Hid (Hd b 0 wx L) ∧ Below w.heap.size w wx) (fun i _ => 13 - (intOf i).toNat)
      case atStart => exact ⟨0, by omega, rfl, hW3, S3, H3, bl3⟩
      case round =>
        obtain ⟨k, hk, rfl, hW, S1, H1, hBl2⟩ := hrel
        clear hW3 S3 H3 bl3
        by_cases hlt : k < 13
        · have hlL := HL.out
          obtain ⟨y, hy⟩ : ∃ y, L[k]? = some y := ⟨L[k]'(by omega), List.getElem?_eq_getElem (by omega)⟩
          have hyL : y ∈ L := List.mem_of_getElem? hy
          obtain ⟨z, hz⟩ : ∃ z, M[k]? = some z := ⟨M[k]'(by omega), List.getElem?_eq_getElem (by omega)⟩
          have hzM : z ∈ M := List.mem_of_getElem? hz
          have hYI := HI.out y hyL
          have hZI := I1.out z hzM
          obtain ⟨y', hy', t1, t2, t3, t4⟩ := T1.out k z hz
          have hyy : y' = y := by rw [hy] at hy'; exact (Option.some.inj hy').symm
          subst hyy
          obtain ⟨ay, ny, cy, xy, rfl, hIy, hny⟩ := S1.out.ints (List.mem_append_left _ hyL) hYI
          obtain ⟨az, nz, cz, xz, rfl, hIz, hnz⟩ := S1.out.ints (x := z) (List.mem_append_right _ hzM) hZI
          obtain rfl : ny = nz := t3
          have hxx : xy = xz := by
            have hinj : ∀ u v : Int, Value.int .i64 u = Value.int .i64 v → u = v := fun u v e => by cases e; rfl
            have h4 : xy.map (Value.int .i64) = xz.map (Value.int .i64) := t4
            exact List.map_inj_right hinj |>.1 h4
          subst hxx
          have c1 : wr.cell? ⟨b, k, none⟩ = some (.slice ay ny cy) := by have := H1.out.at_ k _ hy; rwa [Nat.zero_add] at this
          have c2 : wr.cell? ⟨gw, k, none⟩ = some (.slice az ny cz) := by
            rw [hW.cellAt k (by omega), List.getElem?_map, hz]; rfl
          have EQ := hidp (equali_t ay az ny ny cy cz xy wr hIy hIz)
          clear hy hyL hz hzM t1 t2 t4 hIy hIz hYI hZI hlL
          go_wp2_with fail
          refine EQ.out.mono ?_
          rintro e w2 ⟨rfl, hb2⟩
          have S3 := hidp (S1.out.below hb2)
          have hW2 := owns_below' hW hb2
          have H2 := hidp (H1.out.below hb2)
          have hBl3 : Below w.heap.size w w2 := bstep hBl2 hb2
          clear EQ S1 H1 hW hb2 c1 c2
          go_wp2_with fail
          go_roundw
          case measure => simp [intOf]; omega
          case rel => exact ⟨k + 1, by omega, by go_num, hW2, S3, H2, hBl3⟩
        · obtain rfl : k = 13 := by omega
          have AP := hidp (aparti_c w.heap.size b 0 13 13 9 L wr HL.out (by omega) (by omega) (by omega) (by omega) hBl2.size H1.out (fun x hx => HO.out x (by simp [hx])) (S1.out.sub (List.sublist_append_left L M)) HI.out)
          go_wp2_with fail
          refine AP.out.mono ?_
          rintro e w6 ⟨rfl, hb6⟩
          go_wp2
          go_ret
          exact ⟨rfl, hBl2.trans hb6⟩

end Go.Proofs.Ytfhmckmglkjbeaa.numbersOwn
