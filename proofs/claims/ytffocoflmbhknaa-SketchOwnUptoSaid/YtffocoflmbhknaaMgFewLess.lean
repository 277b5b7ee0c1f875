/- Merged: InsI, Num, Bottom, FewLess. -/
import Derived.Test.YtffocoflmbhknaaInsKit
import Derived.Test.YtffocoflmbhknaaBase
import Derived.Test.YtffocoflmbhknaaBotMath
import Derived.Test.YtffocoflmbhknaaClone
import Derived.Test.YtffocoflmbhknaaShelf
import Derived.Deep.RegionHeld3
import Derived.Deep.DeepCutAuto
import Derived.Lib.MinMax
import Derived.WalkSmall
import Derived.Test.YtffocoflmbhknaaFewFind
/- Contract of slices.Insert of one element (an integer) into a slice of the call's own. -/
namespace Go.Proofs.Ytffocoflmbhknaa
open Go.ChangeShapes Go.WideShapes Go.ChangeAt Go.RowKit
set_option maxRecDepth 20000
end Go.Proofs.Ytffocoflmbhknaa

/- Contract of hexa.Num: is it a number that is drawn? -/
namespace Go.Proofs.Ytffocoflmbhknaa
open Go.ChangeShapes Go.WideShapes Go.ChangeAt Go.RowKit
set_option maxRecDepth 20000

end Go.Proofs.Ytffocoflmbhknaa

/- Contracts of package bottom at bottoms that may be: Check, Put. -/
namespace Go.Proofs.Ytffocoflmbhknaa
open Go.ChangeShapes Go.WideShapes Go.ChangeAt Go.RowKit
set_option maxRecDepth 20000
theorem coff {W : World} {b b' i j : Nat} {v u : Value} (h : W.cell? ⟨b, i, none⟩ = some v) (hne : b ≠ b') : (W.setCell ⟨b', j, none⟩ u).cell? ⟨b, i, none⟩ = some v := by
  rw [World.cell?_setCell_far _ _ _ _ (fun e => hne e.symm)]; exact h
theorem con {W : World} {b i j : Nat} {v u : Value} (h : W.cell? ⟨b, i, none⟩ = some v) (hne : i ≠ j) : (W.setCell ⟨b, j, none⟩ u).cell? ⟨b, i, none⟩ = some v := by
  rw [World.cell?_setCell_other _ _ _ _ (fun e => hne (by simp only [Addr.mk.injEq] at e; omega))]; exact h
theorem cset {W : World} {b i : Nat} {v u : Value} (h : W.cell? ⟨b, i, none⟩ = some v) : (W.setCell ⟨b, i, none⟩ u).cell? ⟨b, i, none⟩ = some u := World.cell?_setCell_same _ _ _ h
theorem frs {W : World} {p q : Addr} {u : Value} (h : W.frozen? q = false) : (W.setCell p u).frozen? q = false := by rw [← h]; simp
theorem ltc {W : World} {P i : Nat} {v : Value} (h : W.cell? ⟨P, i, none⟩ = some v) : P < W.heap.size := lt_of_cell h
theorem nec {W : World} {P i : Nat} {v : Value} (h : W.cell? ⟨P, i, none⟩ = some v) : ¬ P = W.heap.size ∧ ¬ W.heap.size = P := by
  have h1 : P < W.heap.size := lt_of_cell h
  omega
theorem owns_below {w w' : World} {base : Nat} {e : TypeId} {size : Nat} {v : Value} {n : Nat} {xs : List Value} (h : w.ownsRow base e size v n xs) (hb : Below w.heap.size w w') : w'.ownsRow base e size v n xs := by
  rcases h.2 with ⟨rfl, h0⟩ | ⟨g, cap, cur, rfl, hg, hh, r⟩
  · exact ⟨h.1, .inl ⟨rfl, h0⟩⟩
  · exact ⟨h.1, .inr ⟨g, cap, cur, rfl, hg, (hb.block g (Array.getElem?_eq_some_iff.1 hh).1).trans hh, r⟩⟩
theorem res2 {W : World} {P : Nat} {u0 u1 : Value} (x0 x1 : Value) (h0 : W.cell? ⟨P, 0, none⟩ = some u0) (h1 : W.cell? ⟨P, 1, none⟩ = some u1) :
    ((W.setCell ⟨P, 0, none⟩ x0).setCell ⟨P, 1, none⟩ x1).cell? ⟨P, 0, none⟩ = some x0 ∧ ((W.setCell ⟨P, 0, none⟩ x0).setCell ⟨P, 1, none⟩ x1).cell? ⟨P, 1, none⟩ = some x1 :=
  ⟨con (cset h0) (by omega), cset (con h1 (by omega))⟩
theorem below_set2 {w W : World} (h : Below w.heap.size w W) (P : Nat) (hP : w.heap.size ≤ P) (x0 x1 : Value) : Below w.heap.size w ((W.setCell ⟨P, 0, none⟩ x0).setCell ⟨P, 1, none⟩ x1) :=
  (h.setCell (p := ⟨P, 0, none⟩) hP _).setCell (p := ⟨P, 1, none⟩) hP _
theorem gk2 {W w1 : World} {row : Option Nat} {b o : Nat} {v : Value} (hg : W.grownBy w1 row) (h : W.cell? ⟨b, o, none⟩ = some v) (hne : row ≠ some b) : w1.cell? ⟨b, o, none⟩ = some v := gk hg h hne
theorem gf2 {W w1 : World} {row : Option Nat} {b o : Nat} {ob : Obj} (hg : (W.alloc ob).grownBy w1 row) (h : W.frozen? ⟨b, o, none⟩ = false) (hlt : b < W.heap.size) (hne : row ≠ some b) : w1.frozen? ⟨b, o, none⟩ = false :=
  gf hg (((bal (Below.refl _ _) ob).frozen (p := ⟨b, o, none⟩) hlt).trans h) (by simp; omega) hne
/-- A bottom that may be. -/
structure BotOk (K : Nat) (xs : List Int) : Prop where
  k1 : 1 ≤ K
  k2 : K ≤ 40
  ln : xs.length ≤ K
  ris : Rising xs
  bd : ∀ x ∈ xs, 0 ≤ x ∧ x < 72057594037927936
theorem rising_at (xs : List Int) (h : Rising xs) (i j : Nat) (hij : i < j) (hj : j < xs.length) : gi xs i < gi xs j := by
  have := List.pairwise_iff_getElem.1 h i j (by omega) hj hij
  have e1 : gi xs i = xs[i] := by unfold gi; rw [List.getD_eq_getElem?_getD, List.getElem?_eq_getElem (by omega)]; rfl
  have e2 : gi xs j = xs[j] := by unfold gi; rw [List.getD_eq_getElem?_getD, List.getElem?_eq_getElem hj]; rfl
  rw [e1, e2]; exact this
theorem BotOk.put {K : Nat} {xs : List Int} (h : BotOk K xs) (x : Int) (hx : 0 ≤ x ∧ x < 72057594037927936) : BotOk K (bot K xs x) :=
  ⟨h.k1, h.k2, by unfold bot; rw [List.length_take]; omega, rising_take (sins_rising x xs h.ris) K, fun y hy => by
    rcases (sins_mem y x xs).1 (List.mem_of_mem_take hy) with rfl | hy
    · exact hx
    · exact h.bd y hy⟩
abbrev botV (K : Nat) (a : Option Addr) (n c : Nat) : Value := .agg #[.int .i64 (K : Nat), .slice a n c]
theorem bp_fr0 {W V : World} {R o : Nat} {u : Value} (hb : Below W.heap.size W V) (h : W.cell? ⟨R, 0, none⟩ = some u) (hf : W.frozen? ⟨R, o, none⟩ = false) : V.frozen? ⟨R, o, none⟩ = false := (hb.frozen (p := ⟨R, o, none⟩) (show R < _ from ltc h)).trans hf
theorem bp_fr {W V : World} {R o : Nat} {u : Value} (hb : Below W.heap.size W V) (h : W.cell? ⟨R, 0, none⟩ = some u) (hf : W.frozen? ⟨R, o, none⟩ = false) (ob : Obj) : (V.alloc ob).frozen? ⟨R, o, none⟩ = false := bp_fr0 (bal hb ob) h hf
theorem bp_ne {W V : World} {o : Obj} {e : TypeId} {n : Nat} {v : Value} {xs : List Value} (hv : V.ownsRow (W.alloc o).drew.heap.size e 1 v n xs) (h : v.ownBlock = some W.heap.size) : False := by
  have := (hv.lt _ h).1
  have h2 : (W.alloc o).drew.heap.size = W.heap.size + 1 := by simp
  omega
theorem bp_own {W V : World} {o : Obj} {e : TypeId} {n : Nat} {v x0 x1 : Value} {xs : List Value} (hv : V.ownsRow (W.alloc o).drew.heap.size e 1 v n xs) : ((V.setCell ⟨W.heap.size, 0, none⟩ x0).setCell ⟨W.heap.size, 1, none⟩ x1).ownsRow W.heap.size e 1 v n xs := by
  have h2 : (W.alloc o).drew.heap.size = W.heap.size + 1 := by simp
  exact owns_mono (ownsRow_setCell_below (ownsRow_setCell_below hv (a := ⟨W.heap.size, 0, none⟩) (by show W.heap.size < _; omega) _) (a := ⟨W.heap.size, 1, none⟩) (by show W.heap.size < _; omega) _) (by omega)
theorem rising_le {xs : List Int} (h : Rising xs) : xs.Pairwise (· ≤ ·) := h.imp (fun h => by omega)
/-- What stands while a bottom is put to. -/
structure BotS (W : World) (P R Q K n : Nat) (a : Option Addr) (c : Nat) (v : Value) : Prop where
  c0 : W.cell? ⟨P, 0, none⟩ = some (.int .i64 (K : Nat))
  c1 : W.cell? ⟨P, 1, none⟩ = some (.slice a n c)
  r0 : ∃ u, W.cell? ⟨R, 0, none⟩ = some u
  r1 : ∃ u, W.cell? ⟨R, 1, none⟩ = some u
  o0 : W.cell? ⟨Q, 0, none⟩ = some (.int .i64 (K : Nat))
  o1 : W.cell? ⟨Q, 1, none⟩ = some v
  fr : ∀ o, W.frozen? ⟨R, o, none⟩ = false
  fo : ∀ o, W.frozen? ⟨Q, o, none⟩ = false
end Go.Proofs.Ytffocoflmbhknaa

/- Contracts of slices.MinFunc at counters and of few.less. -/
namespace Go.Proofs.Ytffocoflmbhknaa
open Go.ChangeShapes Go.WideShapes Go.ChangeAt Go.RowKit
set_option maxRecDepth 20000
theorem kmn_snoc (p : Int × Int) : ∀ l : List (Int × Int), 0 < l.length → kmn (l ++ [p]) = min (kmn l) p.2
  | [], h => by simp at h
  | [q], _ => rfl
  | q :: r :: l, _ => by
    have ih := kmn_snoc p (r :: l) (by simp)
    show min q.2 (kmn ((r :: l) ++ [p])) = min (min q.2 (kmn (r :: l))) p.2
    rw [ih]; omega
theorem kmn_bd (B : Int) : ∀ l : List (Int × Int), (∀ p ∈ l, 0 ≤ p.2 ∧ p.2 ≤ B) → 0 ≤ B → 0 ≤ kmn l ∧ kmn l ≤ B
  | [], _, hB => ⟨Int.le_refl _, hB⟩
  | [p], h, _ => h p (by simp)
  | p :: q :: l, h, hB => by
    have ih := kmn_bd B (q :: l) (fun r hr => h r (by simp only [List.mem_cons] at hr ⊢; exact .inr hr)) hB
    have := h p (by simp)
    show 0 ≤ min p.2 (kmn (q :: l)) ∧ min p.2 (kmn (q :: l)) ≤ B
    omega
/-- What stands while the least is sought. -/
structure MinS (W : World) (H : Nat) (y m : Int) : Prop where
  r0 : ∃ u, W.cell? ⟨H, 0, none⟩ = some u
  r1 : ∃ u, W.cell? ⟨H, 1, none⟩ = some u
  o0 : W.cell? ⟨H + 1, 0, none⟩ = some (.int .i64 y)
  o1 : W.cell? ⟨H + 1, 1, none⟩ = some (.int .i64 m)
  fr : ∀ o, W.frozen? ⟨H, o, none⟩ = false
  fo : ∀ o, W.frozen? ⟨H + 1, o, none⟩ = false
theorem MinS.below {W W' : World} {H : Nat} {y m : Int} (h : MinS W H y m) (hb : Below W.heap.size W W') : MinS W' H y m :=
  ⟨h.r0.imp (fun _ e => ck hb e), h.r1.imp (fun _ e => ck hb e), ck hb h.o0, ck hb h.o1, fun o => by
    obtain ⟨u, e⟩ := h.r0
    exact (hb.frozen (p := ⟨H, o, none⟩) (show H < _ from ltc e)).trans (h.fr o), fun o => (hb.frozen (p := ⟨H + 1, o, none⟩) (show H + 1 < _ from ltc h.o0)).trans (h.fo o)⟩
theorem MinS.put {W : World} {H : Nat} {y m : Int} (h : MinS W H y m) (y' m' : Int) : MinS ((W.setCell ⟨H + 1, 0, none⟩ (.int .i64 y')).setCell ⟨H + 1, 1, none⟩ (.int .i64 m')) H y' m' :=
  ⟨h.r0.imp (fun _ e => coff (coff e (by omega)) (by omega)), h.r1.imp (fun _ e => coff (coff e (by omega)) (by omega)), (res2 _ _ h.o0 h.o1).1, (res2 _ _ h.o0 h.o1).2, fun o => frs (frs (h.fr o)), fun o => frs (frs (h.fo o))⟩
set_option maxHeartbeats 8000000 in
theorem minfunc_c (a : Option Addr) (n c : Nat) (L : List (Int × Int)) (w : World) (h : CntAt w a n c L) (hn0 : 1 ≤ n) (hn : n ≤ 1000) (hN : ∀ p ∈ L, 0 ≤ p.2 ∧ p.2 ≤ 4000000000000) :
    Calls Try.prog 30 #[.slice a n c, .func (.func 31) #[] #[]] w fun e w' => ∃ y, e = .returned (.agg #[.int .i64 y, .int .i64 (kmn L)]) ∧ Below w.heap.size w w' := by
  obtain ⟨b, o, hz, hx⟩ := h.split
  obtain rfl : a = some ⟨b, o, none⟩ := hz.resolve_left (by omega)
  have HX := hidp hx
  have mm := h.max
  have ee := h.le
  have LN := hidp h.len
  have KB := hidp (fun k => kmn_bd 4000000000000 (L.take k) (fun p hp => hN p (List.mem_of_mem_take hp)) (by omega))
  have HN := hidp (fun i (hi : i < n) => hN _ (cmem L i (by rw [h.len]; exact hi)))
  have ST := hidp (fun i (h0 : 0 < i) (hi : i < n) => show kmn (L.take (i + 1)) = min (kmn (L.take i)) (cnum L i) by
    rw [ctake L i (by rw [LN.out]; exact hi)]
    exact kmn_snoc _ _ (by rw [List.length_take, LN.out]; omega))
  have TL := hidp (show kmn (L.take n) = kmn L by rw [← LN.out, List.take_length])
  have T1 := hidp (show kmn (L.take 1) = cnum L 0 by
    have := ctake L 0 (by rw [LN.out]; omega)
    rw [this]; rfl)
  obtain ⟨hbs0, hc0, hc1⟩ := hx 0 (by omega)
  rw [Nat.zero_mul, Nat.add_zero] at hc0 hc1
  have b0 := HN.out 0 (by omega)
  clear hx hz h hN
  go_enter Try.func30, Try.ntmps30
  go_upto_region 4 with fail
  have hb1 : Below w.heap.size w ((w.alloc (.cells #[.int .i64 0, .int .i64 0] 36)).alloc (.cells #[.int .i64 (ckey L 0), .int .i64 (cnum L 0)] 36)) := bal (bal (Below.refl _ _) _) _
  have hs1 : w.heap.size + 2 ≤ ((w.alloc (.cells #[.int .i64 0, .int .i64 0] 36)).alloc (.cells #[.int .i64 (ckey L 0), .int .i64 (cnum L 0)] 36)).heap.size := by simp
  have hw1 : MinS ((w.alloc (.cells #[.int .i64 0, .int .i64 0] 36)).alloc (.cells #[.int .i64 (ckey L 0), .int .i64 (cnum L 0)] 36)) w.heap.size (ckey L 0) (cnum L 0) :=
    ⟨⟨.int .i64 0, by go_simp⟩, ⟨.int .i64 0, by go_simp⟩, by go_simp, by go_simp, fun o => by go_simp, fun o => by go_simp⟩
  generalize ((w.alloc (.cells #[.int .i64 0, .int .i64 0] 36)).alloc (.cells #[.int .i64 (ckey L 0), .int .i64 (cnum L 0)] 36)) = w1 at *
  go_wp2_with fail
  go_loopg [6] n (fun gg i wr => ∃ (k : Nat) (y : Int), 1 ≤ k ∧ k ≤ n ∧ n - k ≤ gg ∧ i = .int .i64 k ∧ Hid (MinS wr w.heap.size y (kmn (L.take k))) ∧ Below w.heap.size w wr ∧ w.heap.size + 2 ≤ wr.heap.size)
  case atStart => exact ⟨1, _, by omega, by omega, by omega, rfl, by rw [T1.out]; exact hidp hw1, hb1, hs1⟩
  case round =>
    obtain ⟨k, y, hk1, hk, hgg, rfl, MS, hbl, hsr⟩ := hrel
    clear hw1 hb1 hs1
    by_cases hlt : k < n
    · obtain ⟨hbs, hc1, hc2⟩ := HX.out k hlt
      have q0 := carry_cell ⟨hbs, hc1⟩ hbl
      have q1 := carry_cell ⟨hbs, hc2⟩ hbl
      clear hc1 hc2
      have o0 := MS.out.o0
      have o1 := MS.out.o1
      have m1 := KB.out k
      have m2 := HN.out k hlt
      have m2' : 0 ≤ cnum L k ∧ cnum L k ≤ 4000000000000 := m2
      clear m2
      have SS := hidp (ST.out k (by omega) hlt)
      have MF := hidp (fun W => minf_c (ckey L k) (cnum L k) y (kmn (L.take k)) W (by omega) (by omega))
      have bw : b < wr.heap.size := by have := hbl.size; omega
      generalize ckey L k = y1 at *
      generalize cnum L k = n1 at *
      generalize kmn (L.take k) = m at *
      go_upto_region 7 with fail
      go_region_with (go_at_call 31; go_loud (refine (MF.out _).mono ?_; rintro e w' ⟨rfl, hb2⟩))
      all_goals have hb3 := bstep (Below.refl wr.heap.size wr).drew hb2
      all_goals have MS2 := hidp (MS.out.below hb3)
      all_goals have p0 := ck hb3 q0
      all_goals have p1 := ck hb3 q1
      all_goals have x0 := MS2.out.o0
      all_goals have x1 := MS2.out.o1
      all_goals have f0 := MS2.out.fo 0
      all_goals have f1 := MS2.out.fo 1
      all_goals have hbw := bstep hbl hb3
      all_goals have hsw := hb3.size
      all_goals clear hb2 hb3 q0 q1 o0 o1 MS
      all_goals by_cases hc : n1 - m < 0
      all_goals go_wp2
      all_goals go_roundg (n - (k + 1))
      all_goals first
        | omega
        | exact ⟨k + 1, y1, by omega, by omega, by omega, by go_num, by rw [SS.out, show min m n1 = n1 by omega]; exact hidp (MS2.out.put y1 n1), below_set2 hbw (w.heap.size + 1) (by omega) _ _, by simp; omega⟩
        | exact ⟨k + 1, y, by omega, by omega, by omega, by go_num, by rw [SS.out, show min m n1 = m by omega]; exact MS2, hbw, by omega⟩
    · obtain rfl : k = n := by omega
      obtain ⟨⟨u0, r0⟩, ⟨u1, r1⟩, o0, o1, fr, fo⟩ := MS.out
      have f0 := fr 0
      have f1 := fr 1
      rw [TL.out] at o1
      have hr := hidp (res2 (.int .i64 y) (.int .i64 (kmn L)) r0 r1)
      have hbv := hidp (below_set2 hbl w.heap.size (Nat.le_refl _) (.int .i64 y) (.int .i64 (kmn L)))
      clear fr fo MS
      go_wp2_with fail
      obtain ⟨t0, t1⟩ := hr.out
      have hbx := hbv.out
      clear hr hbv
      generalize ((wr.setCell ⟨w.heap.size, 0, none⟩ (.int .i64 y)).setCell ⟨w.heap.size, 1, none⟩ (.int .i64 (kmn L))) = w7 at *
      exact bodyPost_ret (v := .agg #[.int .i64 y, .int .i64 (kmn L)]) (by simp [results, Try.results30, go_sem, t0, t1]) rfl ⟨y, rfl, hbx⟩
set_option maxHeartbeats 8000000 in
theorem fewless_c (a : Option Addr) (n c : Nat) (L : List (Int × Int)) (d : Int) (w : World) (h : CntAt w a n c L) (hn : n ≤ 1000) (hd : 0 ≤ d ∧ d ≤ 4000000000000) (hN : ∀ p ∈ L, 0 ≤ p.2 ∧ p.2 ≤ 4000000000000) :
    Calls Try.prog 32 #[.slice a n c, .int .i64 d] w fun e w' => ∃ v, e = .returned v ∧ w'.ownsRow w.heap.size 36 2 v (kless d L).length (cntV (kless d L)) ∧ Below w.heap.size w w' := by
  obtain ⟨b, o, hz, hx⟩ := h.split
  have hz' : Hid (n = 0) ∨ a = some ⟨b, o, none⟩ := hz.imp_left hidp
  have HX := hidp hx
  have mm := h.max
  have ee := h.le
  have LN := hidp h.len
  have HN := hidp (fun i (hi : i < n) => hN _ (cmem L i (by rw [h.len]; exact hi)))
  have KL := hidp (fun k => show (kless d (L.take k)).length ≤ k by
    rw [kless_len]
    exact Nat.le_trans List.countP_le_length (by rw [List.length_take]; omega))
  have ST := hidp (fun i (hi : i < n) => show kless d (L.take (i + 1)) = kless d (L.take i) ++ (if d < cnum L i then [(ckey L i, cnum L i - d)] else []) by
    rw [ctake L i (by rw [LN.out]; exact hi), kless_append]; rfl)
  have TL := hidp (show kless d (L.take n) = kless d L by rw [← LN.out, List.take_length])
  clear hx hz h hN
  go_enter Try.func32, Try.ntmps32
  go_wp2_with fail
  go_loopg [5, 10] n (fun gg v i wr => ∃ k : Nat, k ≤ n ∧ n - k ≤ gg ∧ i = .int .i64 k ∧ wr.ownsRow w.heap.size 36 2 v (kless d (L.take k)).length (cntV (kless d (L.take k))) ∧ Below w.heap.size w wr)
  case atStart => exact ⟨0, by omega, by omega, rfl, World.ownsRow_nil _ _ _ _, Below.refl _ _⟩
  case round =>
    obtain ⟨k, hk, hgg, rfl, hv, hbl⟩ := hrel
    by_cases hlt : k < n
    · obtain rfl : a = some ⟨b, o, none⟩ := hz'.resolve_left (fun e => by have := e.out; omega)
      obtain ⟨hbs, hc1, hc2⟩ := HX.out k hlt
      have q0 := carry_cell ⟨hbs, hc1⟩ hbl
      have q1 := carry_cell ⟨hbs, hc2⟩ hbl
      clear hc1 hc2
      have m2 : 0 ≤ cnum L k ∧ cnum L k ≤ 4000000000000 := HN.out k hlt
      have SS := ST.out k hlt
      have kl := KL.out k
      generalize ckey L k = y1 at *
      generalize cnum L k = n1 at *
      generalize kless d (L.take k) = M at *
      by_cases hc : d < n1
      · rw [if_pos hc] at SS
        have S2 := hidp SS
        clear SS
        have WR : IntKind.i64.wrap (n1 - d) = n1 - d := IntWalk.i64_in _ (by omega)
        have hvx := hv.alloc (.cells #[.int .i64 y1, .int .i64 n1] 36)
        have hbx := bal hbl (.cells #[.int .i64 y1, .int .i64 n1] 36)
        have x0 : (wr.alloc (.cells #[.int .i64 y1, .int .i64 n1] 36)).cell? ⟨wr.heap.size, 0, none⟩ = some (.int .i64 y1) := by go_simp
        have x1 : (wr.alloc (.cells #[.int .i64 y1, .int .i64 n1] 36)).cell? ⟨wr.heap.size, 1, none⟩ = some (.int .i64 n1) := by go_simp
        go_upto_region 6 with fail
        generalize (wr.alloc (.cells #[.int .i64 y1, .int .i64 n1] 36)) = wx at *
        generalize wr.heap.size = XB at *
        clear hv hbl q0 q1
        have hgs := hbx.size
        go_wp2_with (at_builtin; refine wpList_append_new rfl (.tmp 18) (.tmp 26) 28 rfl w.heap.size 36 _ 2 16 info_cnt rfl (by decide) Try.underlying28 _ M.length _ rfl hvx rfl (one_two y1 (n1 - d)) rfl rfl (by omega) (by decide) hgs ?_; intro v0 x0 nw g0 d0)
        go_roundg (n - (k + 1))
        case measure => omega
        case rel => exact ⟨k + 1, by omega, by omega, by go_num, by rw [S2.out, cntV_snoc, List.length_append]; exact nw, append_step hvx hbx (Nat.le_refl _) g0⟩
      · rw [if_neg hc, List.append_nil] at SS
        have S2 := hidp SS
        clear SS
        have hvx := hv.alloc (.cells #[.int .i64 y1, .int .i64 n1] 36)
        go_wp2
        go_roundg (n - (k + 1))
        case measure => omega
        case rel => exact ⟨k + 1, by omega, by omega, by go_num, by rw [S2.out]; exact hvx, bal hbl _⟩
    · obtain rfl : k = n := by omega
      rw [TL.out] at hv
      go_wp2
      go_ret
      exact ⟨_, rfl, hv, hbl⟩
end Go.Proofs.Ytffocoflmbhknaa
