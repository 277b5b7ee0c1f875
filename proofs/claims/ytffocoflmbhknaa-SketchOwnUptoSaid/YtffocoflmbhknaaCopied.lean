/- Contract of own.go's copied: a table with room behind its rows. -/
import Derived.Test.YtffocoflmbhknaaMgTablePut2
import Derived.Test.YtffocoflmbhknaaRoomy
import Derived.Test.YtffocoflmbhknaaApart
namespace Go.Proofs.Ytffocoflmbhknaa
open Go.ChangeShapes Go.WideShapes Go.ChangeAt Go.RowKit
set_option maxRecDepth 20000
/-- Rows of integers, with what is known of nil rows and of lengths. -/
structure RowsZ (w : World) (a : Option Addr) (n cap : Nat) (xs : List (List Int)) : Prop where
  len : xs.length = n
  le : n ≤ cap
  max : cap ≤ 9223372036854775807
  cells : 0 < n → ∃ b off, a = some ⟨b, off, none⟩ ∧ b < w.heap.size ∧ ∀ i, i < n → ∃ ai ni ci, w.cell? ⟨b, off + i, none⟩ = some (.slice ai ni ci) ∧ IntsAt w ai ni ci (gl xs i) ∧ (ai = none → ci = 0) ∧ ni ≤ 17592186043904
theorem RowsZ.rows {w : World} {a : Option Addr} {n cap : Nat} {xs : List (List Int)} (h : RowsZ w a n cap xs) : RowsAt w a n cap xs := ⟨h.len, h.le, h.max, fun hn => by
  obtain ⟨b, o, e, hb, hc⟩ := h.cells hn
  exact ⟨b, o, e, hb, fun i hi => by obtain ⟨ai, ni, ci, q1, q2, _⟩ := hc i hi; exact ⟨ai, ni, ci, q1, q2⟩⟩⟩
theorem RowsZ.below {w w' : World} {a : Option Addr} {n cap : Nat} {xs : List (List Int)} (h : RowsZ w a n cap xs) (hb : Below w.heap.size w w') : RowsZ w' a n cap xs := ⟨h.len, h.le, h.max, fun hn => by
  obtain ⟨b, o, e, hlt, hc⟩ := h.cells hn
  exact ⟨b, o, e, Nat.lt_of_lt_of_le hlt hb.size, fun i hi => by obtain ⟨ai, ni, ci, q1, q2, q3⟩ := hc i hi; exact ⟨ai, ni, ci, (hb.cell (p := ⟨b, o + i, none⟩) hlt).trans q1, q2.below hb, q3⟩⟩⟩
/-- The rows of a copied table, room and all; and as the table names them. -/
def rowsE (xs : List (List Int)) (G : Nat → Nat) (k : Nat) : List Ent := tab (fun i => ei (.slice (some ⟨G i, 0, none⟩) ((gl xs i).length + 3) ((gl xs i).length + 3)) ((gl xs i).length + 3) (gl xs i ++ [-7, -7, -7])) k
def rowsV (xs : List (List Int)) (G : Nat → Nat) (k : Nat) : List Value := tab (fun i => Value.slice (some ⟨G i, 0, none⟩) (gl xs i).length ((gl xs i).length + 3)) k
/-- The table's own slice of rows. -/
def hdrE (v : Value) (n : Nat) (vs : List Value) : Ent := ⟨53, 1, v, n, vs⟩
def gx (G : Nat → Nat) (k g : Nat) : Nat → Nat := fun i => if i = k then g else G i
theorem rowsE_snoc (xs : List (List Int)) (G : Nat → Nat) (k g : Nat) : rowsE xs (gx G k g) (k + 1) = rowsE xs G k ++ [ei (.slice (some ⟨g, 0, none⟩) ((gl xs k).length + 3) ((gl xs k).length + 3)) ((gl xs k).length + 3) (gl xs k ++ [-7, -7, -7])] := by
  unfold rowsE
  rw [tab_snoc, tab_congr _ (fun i => ei (.slice (some ⟨G i, 0, none⟩) ((gl xs i).length + 3) ((gl xs i).length + 3)) ((gl xs i).length + 3) (gl xs i ++ [-7, -7, -7])) k (fun i hi => by unfold gx; rw [if_neg (by omega)])]
  unfold gx
  rw [if_pos rfl]
theorem rowsV_snoc (xs : List (List Int)) (G : Nat → Nat) (k g : Nat) : rowsV xs (gx G k g) (k + 1) = rowsV xs G k ++ [.slice (some ⟨g, 0, none⟩) (gl xs k).length ((gl xs k).length + 3)] := by
  unfold rowsV
  rw [tab_snoc, tab_congr _ (fun i => Value.slice (some ⟨G i, 0, none⟩) (gl xs i).length ((gl xs i).length + 3)) k (fun i hi => by unfold gx; rw [if_neg (by omega)])]
  unfold gx
  rw [if_pos rfl]
/-- The first row is written, or laid anew. -/
theorem Sep.hdr {B : Nat} {W W' : World} {h h' : Ent} {L : List Ent} (hs : Sep B W (h :: L)) (hg : W.grownBy W' h.v.ownBlock) (ho : W'.ownsRow B h'.e h'.s h'.v h'.n h'.cs) (hd : h'.v.ownBlock = h.v.ownBlock ∨ ∃ q, h'.v.ownBlock = some q ∧ W.heap.size ≤ q) : Sep B W' (h' :: L) := by
  have hp := List.pairwise_cons.1 hs.ap
  have hL : Sep B W L := hs.sub (List.sublist_cons_self h L)
  have hoff : Off h.v L := fun y hy => (hp.1 y hy).symm
  have hL' := hL.off hoff hg
  refine ⟨fun x hx => ?_, List.pairwise_cons.2 ⟨fun y hy => ((hoff.grown hL hd) y hy).symm, hL'.ap⟩⟩
  rcases List.mem_cons.1 hx with rfl | hx
  · exact ho
  · exact hL'.own x hx
theorem Sep.setBelow {B : Nat} {W : World} {L : List Ent} (h : Sep B W L) {p : Addr} (hp : p.block < B) (u : Value) : Sep B (W.setCell p u) L := ⟨fun x hx => ownsRow_setCell_below (h.own x hx) hp u, h.ap⟩
theorem Sep.base {B B' : Nat} {W : World} {L : List Ent} (h : Sep B W L) (hB : B' ≤ B) : Sep B' W L := ⟨fun x hx => owns_mono (h.own x hx) hB, h.ap⟩
/-- What stands while a table is copied: the table at Q, the result's block R. -/
structure CopR (W : World) (R Q k : Nat) (wd : Int) (v : Value) (G : Nat → Nat) (xs : List (List Int)) : Prop where
  lt : Q + 1 ≤ W.heap.size
  rq : R < Q
  o0 : W.cell? ⟨Q, 0, none⟩ = some (.int .i64 wd)
  o1 : W.cell? ⟨Q, 1, none⟩ = some v
  z0 : ∃ u, W.cell? ⟨R, 0, none⟩ = some u
  z1 : ∃ u, W.cell? ⟨R, 1, none⟩ = some u
  fo : ∀ o, W.frozen? ⟨Q, o, none⟩ = false
  fz : ∀ o, W.frozen? ⟨R, o, none⟩ = false
  sep : Sep (Q + 1) W (hdrE v k (rowsV xs G k) :: rowsE xs G k)
theorem CopR.step {W W2 W3 : World} {R Q k : Nat} {wd : Int} {v v' : Value} {G : Nat → Nat} {xs : List (List Int)} {g : Nat} (h : CopR W R Q k wd v G xs) (hb : Below W.heap.size W W2)
    (hr : W2.ownsRow W.heap.size 3 1 (.slice (some ⟨g, 0, none⟩) ((gl xs k).length + 3) ((gl xs k).length + 3)) ((gl xs k).length + 3) ((gl xs k ++ [-7, -7, -7]).map (Value.int .i64)))
    (hn : W3.ownsRow (Q + 1) 53 1 v' (k + 1) (rowsV xs G k ++ [.slice (some ⟨g, 0, none⟩) (gl xs k).length ((gl xs k).length + 3)]))
    (hg : W2.grownBy W3 v.ownBlock) (hd : v'.ownBlock = v.ownBlock ∨ ∃ q, v'.ownBlock = some q ∧ W2.heap.size ≤ q) : CopR (W3.setCell ⟨Q, 1, none⟩ v') R Q (k + 1) wd v' (gx G k g) xs := by
  have hs2 := hb.size
  have hs3 := hg.size
  have hlt := h.lt
  have hrq := h.rq
  have hq : v.ownBlock ≠ some Q := fun e => by have := ((h.sep.own (hdrE v k (rowsV xs G k)) (by simp)).lt Q e).1; omega
  have hr' : v.ownBlock ≠ some R := fun e => by have := ((h.sep.own (hdrE v k (rowsV xs G k)) (by simp)).lt R e).1; omega
  have c3 : ∀ p i u, p < W.heap.size → v.ownBlock ≠ some p → W.cell? ⟨p, i, none⟩ = some u → W3.cell? ⟨p, i, none⟩ = some u := fun p i u _ hne hc => gk hg (ck hb hc) hne
  have f3 : ∀ p o, p < W.heap.size → v.ownBlock ≠ some p → W.frozen? ⟨p, o, none⟩ = false → W3.frozen? ⟨p, o, none⟩ = false := fun p o hp hne hf => gf hg ((hb.frozen (p := ⟨p, o, none⟩) hp).trans hf) (Nat.lt_of_lt_of_le hp hs2) hne
  refine ⟨by simp; omega, hrq, con (c3 Q 0 _ (by omega) hq h.o0) (by omega), cset (c3 Q 1 _ (by omega) hq h.o1), ?_, ?_, fun o => frs (f3 Q o (by omega) hq (h.fo o)), fun o => frs (f3 R o (by omega) hr' (h.fz o)), ?_⟩
  · obtain ⟨u, hu⟩ := h.z0
    exact ⟨u, coff (c3 R 0 u (by omega) hr' hu) (by omega)⟩
  · obtain ⟨u, hu⟩ := h.z1
    exact ⟨u, coff (c3 R 1 u (by omega) hr' hu) (by omega)⟩
  · have s1 := h.sep.snoc (x := ei (.slice (some ⟨g, 0, none⟩) ((gl xs k).length + 3) ((gl xs k).length + 3)) ((gl xs k).length + 3) (gl xs k ++ [-7, -7, -7])) hlt hb hr
    rw [List.cons_append] at s1
    have s2 := s1.hdr (h' := hdrE v' (k + 1) (rowsV xs G k ++ [Value.slice (some ⟨g, 0, none⟩) (gl xs k).length ((gl xs k).length + 3)])) hg hn hd
    rw [rowsE_snoc, rowsV_snoc]
    exact s2.setBelow (by show Q < Q + 1; omega) _
set_option maxHeartbeats 4000000 in
theorem kcopied_c (wd : Int) (a : Option Addr) (n c : Nat) (xs : List (List Int)) (w : World) (h : RowsZ w a n c xs) (hn : n ≤ 100000000) :
    Calls Try.prog 7 #[tabV wd a n c] w fun e w' => ∃ av cp G, e = .returned (tabV wd av n cp) ∧ Sep w.heap.size w' (hdrE (.slice av n cp) n (rowsV xs G n) :: rowsE xs G n) ∧ Below w.heap.size w w' := by
  have mm := h.max
  have ee := h.le
  obtain ⟨b, o, hz, hlt, hc⟩ : ∃ b o, (Hid (n = 0) ∨ a = some ⟨b, o, none⟩) ∧ (0 < n → b < w.heap.size) ∧ ∀ i, i < n → ∃ ai ni ci, w.cell? ⟨b, o + i, none⟩ = some (.slice ai ni ci) ∧ IntsAt w ai ni ci (gl xs i) ∧ (ai = none → ci = 0) ∧ ni ≤ 17592186043904 := by
    rcases Nat.eq_zero_or_pos n with h0 | h0
    · exact ⟨0, 0, .inl h0, fun h => by omega, fun i hi => by omega⟩
    · obtain ⟨b, o, ha, hb, hc⟩ := h.cells h0
      exact ⟨b, o, .inr ha, fun _ => hb, hc⟩
  have R := hidp hc
  have HLT := hidp hlt
  clear hc h hlt
  unfold tabV
  go_enter Try.func7, Try.ntmps7
  go_wp2_with fail
  have hs0 : CopR (((w.alloc (.cells #[.int .i64 wd, .slice a n c] 27)).alloc (.cells #[.int .i64 0, .slice none 0 0] 27)).alloc (.cells #[.int .i64 wd, .slice none 0 0] 27)) (w.heap.size + 1) (w.heap.size + 1 + 1) 0 wd (.slice none 0 0) (fun _ => 0) xs :=
    ⟨by simp, by omega, by go_simp, by go_simp, ⟨.int .i64 0, by go_simp⟩, ⟨.slice none 0 0, by go_simp⟩, fun o => by go_simp, fun o => by go_simp, ⟨fun x hx => by simp [rowsE, tab] at hx; subst hx; exact World.ownsRow_nil _ _ _ _, by simp [rowsE, tab]⟩⟩
  have hb0 : Below w.heap.size w (((w.alloc (.cells #[.int .i64 wd, .slice a n c] 27)).alloc (.cells #[.int .i64 0, .slice none 0 0] 27)).alloc (.cells #[.int .i64 wd, .slice none 0 0] 27)) := bal (bal (bal (Below.refl _ _) _) _) _
  generalize (((w.alloc (.cells #[.int .i64 wd, .slice a n c] 27)).alloc (.cells #[.int .i64 0, .slice none 0 0] 27)).alloc (.cells #[.int .i64 wd, .slice none 0 0] 27)) = w1 at *
  have HS := hidp hs0
  have HB := hidp hb0
  clear hs0 hb0
  go_loopw [12] (fun i wr => ∃ (k : Nat) (v : Value) (G : Nat → Nat), k ≤ n ∧ i = .int .i64 k ∧ Hid (CopR wr (w.heap.size + 1) (w.heap.size + 1 + 1) k wd v G xs) ∧ Below w.heap.size w wr) (fun i _ => n - (intOf i).toNat)
  case atStart => exact ⟨0, _, _, by omega, rfl, HS, HB.out⟩
  case round =>
    clear HS HB
    obtain ⟨k, v, G, hk, rfl, HS, hbl⟩ := hrel
    by_cases hlt2 : k < n
    · obtain rfl : a = some ⟨b, o, none⟩ := hz.resolve_left (fun e => by have := e.out; omega)
      have hbs := HLT.out (by omega)
      obtain ⟨ai, ni, ci, q0, q1, q2, q3⟩ := R.out k hlt2
      have q := carry_cell ⟨hbs, q0⟩ hbl
      have hl := q1.len
      have CL := hidp (fun W (hB : Below wr.heap.size wr W) => roomyi_c ai ni ci (gl xs k) (-7) W ((q1.below hbl).below hB) q2 q3)
      have o1 := HS.out.o1
      have fo := HS.out.fo 1
      have hdr := hidp (HS.out.sep.own (hdrE v k (rowsV xs G k)) (by simp))
      have l3 := HS.out.lt
      have NB := hidp (show v.ownBlock ≠ some (w.heap.size + 1 + 1) from fun e => by have := (hdr.out.lt _ e).1; omega)
      have PLT := hidp (show w.heap.size + 1 + 1 < wr.heap.size by omega)
      have HNI := hidp hl
      clear q0 q1 q2 q3 hl hbs
      go_upto_region 5 with fail
      go_region_law (first
        | (refine step_call rfl 33 #[.tmp 18, .const (.int .i64 (-7))] _ rfl (fun _ _ => by kernel_rfl) #[.slice ai ni ci, .int .i64 (-7)] (by simp [Act.eval, Act.put]) _ (CL.out _ (Below.refl _ _).drew) ?_; rintro e w2 ⟨g2, rfl, hv2, hb2⟩; have hb2' := (Below.refl wr.heap.size wr).drew.trans hb2; refine ⟨_, rfl, ?_⟩; have o2 := ck hb2' o1; have n2 := nec o2; obtain ⟨n21, n22⟩ := n2; have n23 := ltc o2; have hd2 := owns_below' hdr.out hb2'; have hgs : w.heap.size + 1 + 1 + 1 ≤ w2.heap.size := Nat.le_trans l3 hb2'.size; have f2 := (hb2'.frozen (p := ⟨w.heap.size + 1 + 1, 1, none⟩) PLT.out).trans fo)
        | (refine step_append_new w2 ⟨rfl, rfl, rfl, rfl⟩ rfl (.tmp 17) (.tmp 20) 25 rfl (w.heap.size + 1 + 1 + 1) 53 _ 1 24 info_slc rfl (by decide) Try.underlying25 v k _ (by simp [Act.eval]) hd2 rfl (one_slc _ _ _) (by simp [Act.eval]) (by omega) (by decide) hgs ?_; intro v0 x0 nw g0 d0; have hf := owns_form nw; obtain ⟨a0, p0, rfl, hp1, hp2⟩ := hf; have o3 := gk g0 o2 NB.out; have f3 := gf g0 f2 (Nat.lt_of_lt_of_le PLT.out hb2'.size) NB.out))
      all_goals have hnl := HNI.out
      all_goals subst hnl
      all_goals have ST := hidp (HS.out.step hb2' hv2 nw g0 d0)
      all_goals have BL := ((bstep hbl hb2').grown g0 (by have := hbl.size; omega) (fun q hq => by have := (hd2.lt q hq).1; omega)).setCell (p := ⟨w.heap.size + 1 + 1, 1, none⟩) (by show w.heap.size ≤ w.heap.size + 1 + 1; omega) (.slice a0 (k + 1) p0)
      all_goals go_wp2
      all_goals go_roundw
      all_goals first
        | exact ⟨k + 1, _, _, by omega, by go_num, ST, BL⟩
        | (simp [intOf]; omega)
    · obtain rfl : k = n := by omega
      obtain ⟨l1, l2, o0, o1, ⟨u0, z0⟩, ⟨u1, z1⟩, fo, fz, sep⟩ := HS.out
      have f0 := fz 0
      have f1 := fz 1
      obtain ⟨av, cp, rfl, _, _⟩ := owns_form (show wr.ownsRow (w.heap.size + 1 + 1 + 1) 53 1 v k (rowsV xs G k) from sep.own (hdrE v k (rowsV xs G k)) (by simp))
      have SP := hidp (((sep.setBelow (p := ⟨w.heap.size + 1, 0, none⟩) (by show w.heap.size + 1 < _; omega) (.int .i64 wd)).setBelow (p := ⟨w.heap.size + 1, 1, none⟩) (by show w.heap.size + 1 < _; omega) (.slice av k cp)).base (show w.heap.size ≤ w.heap.size + 1 + 1 + 1 by omega))
      have RR := hidp (res2 (.int .i64 wd) (.slice av k cp) z0 z1)
      have BB := hidp (below_set2 hbl (w.heap.size + 1) (by omega) (.int .i64 wd) (.slice av k cp))
      clear fo fz sep
      go_wp2_with fail
      obtain ⟨t0, t1⟩ := RR.out
      exact bodyPost_ret (v := .agg #[.int .i64 wd, .slice av k cp]) (by simp [results, Try.results7, go_sem, t0, t1]) rfl ⟨av, cp, G, rfl, SP.out, BB.out⟩
end Go.Proofs.Ytffocoflmbhknaa
