/- Merged: TablePut, TablePut2. -/
import Derived.Test.YtffocoflmbhknaaMgTable
/- Contracts of package table: copied, Put and Ask. -/
namespace Go.Proofs.Ytffocoflmbhknaa
open Go.ChangeShapes Go.WideShapes Go.ChangeAt Go.RowKit
set_option maxRecDepth 20000

theorem info_ints : (Try.prog.info? 53).map (fun i => (i.zero, i.size, i.bytes)) = some (some (.slice none 0 0), 1, 24) := by kernel_rfl
theorem one_slice (a : Option Addr) (n c : Nat) : ∀ u ∈ [Value.slice a n c], u.oneCell' = true := by
  intro u hu; simp at hu; subst hu; rfl
theorem tabL_row {W : World} {b o n m : Nat} {T : Nat → Nat → Int} (hc : ∀ i, i < n → ∃ ai ni ci, W.cell? ⟨b, o + i, none⟩ = some (.slice ai ni ci) ∧ IntsAt W ai ni ci (gl (tabL T m n) i)) (hm : 1 ≤ m) (i : Nat) (hi : i < n) :
    ∃ bi oi ci, W.cell? ⟨b, o + i, none⟩ = some (.slice (some ⟨bi, oi, none⟩) m ci) ∧ IntsAt W (some ⟨bi, oi, none⟩) m ci (tab (T i) m) ∧ bi < W.heap.size := by
  obtain ⟨ai, ni, ci, h1, h2⟩ := hc i hi
  rw [tabL_gl _ _ _ _ hi] at h2
  have hl := h2.len
  rw [tab_len] at hl
  subst hl
  obtain ⟨bi, oi, rfl, hb, _⟩ := h2.addr hm
  exact ⟨bi, oi, ci, h1, h2, hb⟩
/-- What stands while a table is made, row by row. -/
structure CopS (W : World) (B P1 P2 k m : Nat) (v : Value) (G C : Nat → Nat) (T : Nat → Nat → Int) : Prop where
  l1 : P1 < B
  l2 : P2 < B
  l3 : B ≤ W.heap.size
  o0 : W.cell? ⟨P2, 0, none⟩ = some (.int .i64 (m : Nat))
  o1 : W.cell? ⟨P2, 1, none⟩ = some v
  z0 : ∃ u, W.cell? ⟨P1, 0, none⟩ = some u
  z1 : ∃ u, W.cell? ⟨P1, 1, none⟩ = some u
  fo : ∀ o, W.frozen? ⟨P2, o, none⟩ = false
  fz : ∀ o, W.frozen? ⟨P1, o, none⟩ = false
  hdr : W.ownsRow B 53 1 v k (tab (fun i => Value.slice (some ⟨G i, 0, none⟩) m (C i)) k)
  row : ∀ i, i < k → W.ownsRow B 3 1 (.slice (some ⟨G i, 0, none⟩) m (C i)) m (tab (fun j => Value.int .i64 (T i j)) m)
  ne : ∀ i, i < k → v.ownBlock ≠ some (G i)
  inj : ∀ i j, i < k → j < k → G i = G j → i = j
/-- One row more. -/
def ext1 (f : Nat → Nat) (k x : Nat) (i : Nat) : Nat := if i = k then x else f i
theorem ext1_at (f : Nat → Nat) (k x : Nat) : ext1 f k x k = x := if_pos rfl
theorem ext1_lt (f : Nat → Nat) (k x i : Nat) (h : i < k) : ext1 f k x i = f i := if_neg (by omega)
theorem CopS.step {W W2 W3 : World} {B P1 P2 k m : Nat} {v v' : Value} {G C : Nat → Nat} {T : Nat → Nat → Int} (h : CopS W B P1 P2 k m v G C T) {g c : Nat}
    (hb : Below W.heap.size W W2) (hr : W2.ownsRow W.heap.size 3 1 (.slice (some ⟨g, 0, none⟩) m c) m ((tab (T k) m).map (Value.int .i64)))
    (hn : W3.ownsRow B 53 1 v' (k + 1) (tab (fun i => Value.slice (some ⟨G i, 0, none⟩) m (C i)) k ++ [.slice (some ⟨g, 0, none⟩) m c]))
    (hg : W2.grownBy W3 v.ownBlock) (hd : v'.ownBlock = v.ownBlock ∨ ∃ q, v'.ownBlock = some q ∧ W2.heap.size ≤ q) :
    CopS (W3.setCell ⟨P2, 1, none⟩ v') B P1 P2 (k + 1) m v' (ext1 G k g) (ext1 C k c) T := by
  have hvl := h.hdr.lt
  have hgl := hr.lt g rfl
  have hne1 : ∀ P, P < B → v.ownBlock ≠ some P := fun P hP e => by have := (hvl P e).1; omega
  have hne12 : v.ownBlock ≠ some g := fun e => by have := (hvl g e).2; omega
  have cell3 : ∀ P o u, P < B → W.cell? ⟨P, o, none⟩ = some u → W3.cell? ⟨P, o, none⟩ = some u := fun P o u hP hc => gk hg (ck hb hc) (hne1 P hP)
  have fro3 : ∀ P o, P < B → W.frozen? ⟨P, o, none⟩ = false → W3.frozen? ⟨P, o, none⟩ = false := fun P o hP hc =>
    gf hg ((hb.frozen (p := ⟨P, o, none⟩) (by have := h.l3; show P < _; omega)).trans hc) (by have := h.l3; have := hb.size; show P < _; omega) (hne1 P hP)
  have s3 : W2.heap.size ≤ W3.heap.size := hg.size
  have s2 := hb.size
  have l3 := h.l3
  have o0 := cell3 P2 0 _ h.l2 h.o0
  have o1 := cell3 P2 1 _ h.l2 h.o1
  have rowOld : ∀ i, i < k → (W3.setCell ⟨P2, 1, none⟩ v').ownsRow B 3 1 (.slice (some ⟨G i, 0, none⟩) m (C i)) m (tab (fun j => Value.int .i64 (T i j)) m) := fun i hi => by
    have hl := (h.row i hi).lt (G i) rfl
    refine owns_heap (h.row i hi) ?_
    rw [Below.heap_setCell _ _ _ _ (by show G i ≠ P2; have := h.l2; omega), hg.block _ (by omega) (fun e => h.ne i hi e.symm)]
    exact hb.block _ hl.2
  have rowNew : (W3.setCell ⟨P2, 1, none⟩ v').ownsRow B 3 1 (.slice (some ⟨g, 0, none⟩) m c) m (tab (fun j => Value.int .i64 (T k j)) m) := by
    rw [← tab_map]
    refine owns_heap (owns_mono hr h.l3) ?_
    rw [Below.heap_setCell _ _ _ _ (by show g ≠ P2; have := h.l2; omega), hg.block _ hgl.2 (fun e => hne12 e.symm)]
  have hl12 := h.l1
  have hl22 := h.l2
  refine ⟨h.l1, h.l2, by simp; omega, con o0 (by omega), cset o1, ?_, ?_, fun o => frs (fro3 P2 o h.l2 (h.fo o)), fun o => frs (fro3 P1 o h.l1 (h.fz o)), ?_, ?_, ?_, ?_⟩
  · obtain ⟨u, hu⟩ := h.z0
    obtain ⟨u', hu'⟩ := cell?_setCell_some (p := ⟨P2, 1, none⟩) (x := v') (cell3 P1 0 u h.l1 hu)
    exact ⟨u', hu'⟩
  · obtain ⟨u, hu⟩ := h.z1
    obtain ⟨u', hu'⟩ := cell?_setCell_some (p := ⟨P2, 1, none⟩) (x := v') (cell3 P1 1 u h.l1 hu)
    exact ⟨u', hu'⟩
  · rw [tab_snoc, ext1_at, ext1_at, tab_congr (fun i => Value.slice (some ⟨ext1 G k g i, 0, none⟩) m (ext1 C k c i)) (fun i => Value.slice (some ⟨G i, 0, none⟩) m (C i)) k (fun i hi => by rw [ext1_lt _ _ _ _ hi, ext1_lt _ _ _ _ hi])]
    exact ownsRow_setCell_below hn (a := ⟨P2, 1, none⟩) (by show P2 < B; omega) _
  · intro i hi
    by_cases e : i = k
    · subst e; rw [ext1_at, ext1_at]; exact rowNew
    · rw [ext1_lt _ _ _ _ (by omega), ext1_lt _ _ _ _ (by omega)]; exact rowOld i (by omega)
  · intro i hi e
    rcases hd with hd | ⟨q, hd, hq⟩
    · by_cases e2 : i = k
      · subst e2; rw [ext1_at, hd] at e; exact hne12 e
      · rw [ext1_lt _ _ _ _ (by omega), hd] at e; exact h.ne i (by omega) e
    · rw [hd] at e
      have e3 := Option.some.inj e
      by_cases e2 : i = k
      · subst e2; rw [ext1_at] at e3; omega
      · rw [ext1_lt _ _ _ _ (by omega)] at e3
        have := (h.row i (by omega)).lt (G i) rfl
        omega
  · intro i j hi hj e
    by_cases e1 : i = k
    · by_cases e2 : j = k
      · omega
      · subst e1
        rw [ext1_at, ext1_lt _ _ _ _ (by omega)] at e
        have := (h.row j (by omega)).lt (G j) rfl
        omega
    · by_cases e2 : j = k
      · subst e2
        rw [ext1_at, ext1_lt _ _ _ _ (by omega)] at e
        have := (h.row i (by omega)).lt (G i) rfl
        omega
      · rw [ext1_lt _ _ _ _ (by omega), ext1_lt _ _ _ _ (by omega)] at e
        exact h.inj i j (by omega) (by omega) e
set_option maxHeartbeats 4000000 in
theorem copied_c (m : Nat) (a : Option Addr) (n c : Nat) (T : Nat → Nat → Int) (w : World) (h : RowsAt w a n c (tabL T m n)) (hm : 1 ≤ m) (hm2 : m ≤ 32) (hn : 1 ≤ n) (hn2 : n ≤ 4) :
    Calls Try.prog 37 #[tabV m a n c] w fun e w' => ∃ g cp G C, e = .returned (tabV m (some ⟨g, 0, none⟩) n cp) ∧ OwnT w' w.heap.size g n m G C T ∧ w.heap.size ≤ g ∧ n ≤ cp ∧ cp ≤ 9223372036854775807 ∧ Below w.heap.size w w' := by
  have mm := h.max
  have ee := h.le
  obtain ⟨b, o, rfl, hlt, hc⟩ := h.cells (by omega)
  have R := hidp (fun i hi => tabL_row hc hm i hi)
  have CC := hidp (fun (a : Option Addr) (c : Nat) (xs : List Int) (W : World) (hI : IntsAt W a m c xs) => clonei_c a m c xs W hI (by omega))
  clear hc h
  unfold tabV
  go_enter Try.func37, Try.ntmps37
  go_wp2_with fail
  have hs0 : CopS (((w.alloc (.cells #[.int .i64 (m : Nat), .slice (some ⟨b, o, none⟩) n c] 27)).alloc (.cells #[.int .i64 0, .slice none 0 0] 27)).alloc (.cells #[.int .i64 (m : Nat), .slice none 0 0] 27)) (w.heap.size + 3) (w.heap.size + 1) (w.heap.size + 1 + 1) 0 m (.slice none 0 0) (fun _ => 0) (fun _ => 0) T :=
    ⟨by omega, by omega, by simp, by go_simp, by go_simp, ⟨.int .i64 0, by go_simp⟩, ⟨.slice none 0 0, by go_simp⟩, fun o => by go_simp, fun o => by go_simp, World.ownsRow_nil _ _ _ _, fun i hi => by omega, fun i hi => by omega, fun i j hi => by omega⟩
  have hb0 : Below w.heap.size w (((w.alloc (.cells #[.int .i64 (m : Nat), .slice (some ⟨b, o, none⟩) n c] 27)).alloc (.cells #[.int .i64 0, .slice none 0 0] 27)).alloc (.cells #[.int .i64 (m : Nat), .slice none 0 0] 27)) := bal (bal (bal (Below.refl _ _) _) _) _
  generalize (((w.alloc (.cells #[.int .i64 (m : Nat), .slice (some ⟨b, o, none⟩) n c] 27)).alloc (.cells #[.int .i64 0, .slice none 0 0] 27)).alloc (.cells #[.int .i64 (m : Nat), .slice none 0 0] 27)) = w1 at *
  have HS := hidp hs0
  have HB := hidp hb0
  clear hs0 hb0
  go_loopw [12] (fun i wr => ∃ (k : Nat) (v : Value) (G C : Nat → Nat), k ≤ n ∧ i = .int .i64 k ∧ Hid (CopS wr (w.heap.size + 3) (w.heap.size + 1) (w.heap.size + 1 + 1) k m v G C T) ∧ Below w.heap.size w wr) (fun i _ => n - (intOf i).toNat)
  case atStart => exact ⟨0, _, _, _, by omega, rfl, HS, HB.out⟩
  case round =>
    clear HS HB
    obtain ⟨k, v, G, C, hk, rfl, HS, hbl⟩ := hrel
    by_cases hlt2 : k < n
    · obtain ⟨bi, oi, ci, q0, q1, q2⟩ := R.out k hlt2
      have q := carry_cell ⟨hlt, q0⟩ hbl
      have CL := hidp (fun W (hB : Below wr.heap.size wr W) => CC.out (some ⟨bi, oi, none⟩) ci (tab (T k) m) W ((q1.below hbl).below hB))
      have o1 := HS.out.o1
      have fo := HS.out.fo 1
      have hdr := hidp (HS.out.hdr)
      have l3 := HS.out.l3
      have NB := hidp (show v.ownBlock ≠ some (w.heap.size + 1 + 1) from fun e => by have := (HS.out.hdr.lt _ e).1; omega)
      have PLT := hidp (show w.heap.size + 1 + 1 < wr.heap.size by omega)
      clear q0 q1 q2
      go_upto_region 5 with fail
      go_region_law (first
        | (refine step_call rfl 44 #[.tmp 18] _ rfl (fun _ _ => by kernel_rfl) #[.slice (some ⟨bi, oi, none⟩) m ci] (by simp [Act.eval, Act.put]) _ (CL.out _ (Below.refl _ _).drew) ?_; rintro e w2 ⟨v2, rfl, hv2, hb2⟩; have hb2' := (Below.refl wr.heap.size wr).drew.trans hb2; have ho := owns_addr hv2 hm; obtain ⟨g2, c2, rfl, hg1, hg2, hg3, hg4⟩ := ho; refine ⟨_, rfl, ?_⟩; have o2 := ck hb2' o1; have n2 := nec o2; obtain ⟨n21, n22⟩ := n2; have n23 := ltc o2; have hd2 := owns_below hdr.out hb2'; have hgs : w.heap.size + 3 ≤ w2.heap.size := Nat.le_trans l3 hb2'.size; have f2 := (hb2'.frozen (p := ⟨w.heap.size + 1 + 1, 1, none⟩) PLT.out).trans fo)
        | (refine step_append_new w2 ⟨rfl, rfl, rfl, rfl⟩ rfl (.tmp 17) (.tmp 20) 25 rfl (w.heap.size + 3) 53 _ 1 24 info_ints rfl (by decide) Try.underlying25 v k _ (by simp [Act.eval]) hd2 rfl (one_slice _ _ _) (by simp [Act.eval]) (by omega) (by decide) hgs ?_; intro v0 x0 nw g0 d0; have hf := owns_form nw; obtain ⟨a0, p0, rfl, hp1, hp2⟩ := hf; have o3 := gk g0 o2 NB.out; have f3 := gf g0 f2 (Nat.lt_of_lt_of_le PLT.out hb2'.size) NB.out))
      all_goals have ST := hidp (HS.out.step hb2' hv2 nw g0 d0)
      all_goals have BL := ((bstep hbl hb2').grown g0 (by have := hbl.size; omega) (fun q hq => by have := (hd2.lt q hq).1; omega)).setCell (p := ⟨w.heap.size + 1 + 1, 1, none⟩) (by show w.heap.size ≤ w.heap.size + 1 + 1; omega) (.slice a0 (k + 1) p0)
      all_goals go_wp2
      all_goals go_roundw
      all_goals first
        | exact ⟨k + 1, _, _, _, by omega, by go_num, ST, BL⟩
        | (simp [intOf]; omega)
    · obtain rfl : k = n := by omega
      obtain ⟨l1, l2, l3, o0, o1, ⟨u0, z0⟩, ⟨u1, z1⟩, fo, fz, hdr, row, ne, inj⟩ := HS.out
      have f0 := fz 0
      have f1 := fz 1
      obtain ⟨g, cp, rfl, hg1, hg2, hg3, hg4⟩ := owns_addr hdr hn
      clear fo fz
      go_wp2_with fail
      have t0 : ((wr.setCell ⟨w.heap.size + 1, 0, none⟩ (.int .i64 (m : Nat))).setCell ⟨w.heap.size + 1, 1, none⟩ (.slice (some ⟨g, 0, none⟩) k cp)).cell? ⟨w.heap.size + 1, 0, none⟩ = some (.int .i64 (m : Nat)) := con (cset z0) (by omega)
      have t1 : ((wr.setCell ⟨w.heap.size + 1, 0, none⟩ (.int .i64 (m : Nat))).setCell ⟨w.heap.size + 1, 1, none⟩ (.slice (some ⟨g, 0, none⟩) k cp)).cell? ⟨w.heap.size + 1, 1, none⟩ = some (.slice (some ⟨g, 0, none⟩) k cp) := cset (con z1 (by omega))
      have hb6 : Below w.heap.size w ((wr.setCell ⟨w.heap.size + 1, 0, none⟩ (.int .i64 (m : Nat))).setCell ⟨w.heap.size + 1, 1, none⟩ (.slice (some ⟨g, 0, none⟩) k cp)) := (hbl.setCell (p := ⟨w.heap.size + 1, 0, none⟩) (by show w.heap.size ≤ w.heap.size + 1; omega) _).setCell (p := ⟨w.heap.size + 1, 1, none⟩) (by show w.heap.size ≤ w.heap.size + 1; omega) _
      have hT : OwnT wr w.heap.size g k m G C T := ⟨hg2, fun i hi => by
        have := hdr.cellAt i (by omega)
        rw [tab_get _ _ _ hi] at this
        exact this, fun i hi => owns_mono (row i hi) (by omega), fun i hi e => ne i hi (by rw [e]; rfl), inj⟩
      have hGl := fun i hi => ((row i hi).lt (G i) rfl).1
      have hT6 := (hT.far ⟨w.heap.size + 1, 0, none⟩ (by show w.heap.size + 1 ≠ g; omega) (fun i hi => by have := hGl i hi; show w.heap.size + 1 ≠ G i; omega) (.int .i64 (m : Nat))).far ⟨w.heap.size + 1, 1, none⟩ (by show w.heap.size + 1 ≠ g; omega) (fun i hi => by have := hGl i hi; show w.heap.size + 1 ≠ G i; omega) (.slice (some ⟨g, 0, none⟩) k cp)
      generalize ((wr.setCell ⟨w.heap.size + 1, 0, none⟩ (.int .i64 (m : Nat))).setCell ⟨w.heap.size + 1, 1, none⟩ (.slice (some ⟨g, 0, none⟩) k cp)) = w7 at *
      exact bodyPost_ret (v := .agg #[.int .i64 (m : Nat), .slice (some ⟨g, 0, none⟩) k cp]) (by simp [results, Try.results37, go_sem, t0, t1]) rfl ⟨g, cp, G, C, rfl, hT6, by omega, hg3, hg4, hb6⟩
end Go.Proofs.Ytffocoflmbhknaa

/- Contracts of table.Put and table.Ask. -/
namespace Go.Proofs.Ytffocoflmbhknaa
open Go.ChangeShapes Go.WideShapes Go.ChangeAt Go.RowKit
set_option maxRecDepth 20000

/-- What stands while a table is written. -/
structure PutT (W : World) (P R Q m n : Nat) (a : Option Addr) (c g cp : Nat) : Prop where
  c0 : W.cell? ⟨P, 0, none⟩ = some (.int .i64 (m : Nat))
  c1 : W.cell? ⟨P, 1, none⟩ = some (.slice a n c)
  r0 : ∃ u, W.cell? ⟨R, 0, none⟩ = some u
  r1 : ∃ u, W.cell? ⟨R, 1, none⟩ = some u
  o0 : W.cell? ⟨Q, 0, none⟩ = some (.int .i64 (m : Nat))
  o1 : W.cell? ⟨Q, 1, none⟩ = some (.slice (some ⟨g, 0, none⟩) n cp)
  fr : ∀ o, W.frozen? ⟨R, o, none⟩ = false
theorem PutT.below {W W' : World} {P R Q m n : Nat} {a : Option Addr} {c g cp : Nat} (h : PutT W P R Q m n a c g cp) (hb : Below W.heap.size W W') : PutT W' P R Q m n a c g cp := by
  obtain ⟨c0, c1, ⟨u0, r0⟩, ⟨u1, r1⟩, o0, o1, fr⟩ := h
  exact ⟨ck hb c0, ck hb c1, ⟨u0, ck hb r0⟩, ⟨u1, ck hb r1⟩, ck hb o0, ck hb o1, fun o => (hb.frozen (p := ⟨R, o, none⟩) (show R < _ from ltc r0)).trans (fr o)⟩
theorem PutT.far {W : World} {P R Q m n : Nat} {a : Option Addr} {c g cp : Nat} (h : PutT W P R Q m n a c g cp) (b k : Nat) (v : Value) (h1 : P ≠ b) (h2 : R ≠ b) (h3 : Q ≠ b) : PutT (W.setCell ⟨b, k, none⟩ v) P R Q m n a c g cp := by
  obtain ⟨c0, c1, ⟨u0, r0⟩, ⟨u1, r1⟩, o0, o1, fr⟩ := h
  exact ⟨coff c0 h1, coff c1 h1, ⟨u0, coff r0 h2⟩, ⟨u1, coff r1 h2⟩, coff o0 h3, coff o1 h3, fun o => frs (fr o)⟩
theorem res2 {W : World} {P : Nat} {u0 u1 : Value} (x0 x1 : Value) (h0 : W.cell? ⟨P, 0, none⟩ = some u0) (h1 : W.cell? ⟨P, 1, none⟩ = some u1) :
    ((W.setCell ⟨P, 0, none⟩ x0).setCell ⟨P, 1, none⟩ x1).cell? ⟨P, 0, none⟩ = some x0 ∧ ((W.setCell ⟨P, 0, none⟩ x0).setCell ⟨P, 1, none⟩ x1).cell? ⟨P, 1, none⟩ = some x1 :=
  ⟨con (cset h0) (by omega), cset (con h1 (by omega))⟩
theorem OwnT.far2 {W : World} {B g n m : Nat} {G C : Nat → Nat} {T : Nat → Nat → Int} (h : OwnT W B g n m G C T) (P : Nat) (h1 : P ≠ g) (h2 : P < B) (x0 x1 : Value) : OwnT ((W.setCell ⟨P, 0, none⟩ x0).setCell ⟨P, 1, none⟩ x1) B g n m G C T :=
  (h.far ⟨P, 0, none⟩ h1 (fun i hi => by have := (h.ltG i hi).1; show P ≠ G i; omega) x0).far ⟨P, 1, none⟩ h1 (fun i hi => by have := (h.ltG i hi).1; show P ≠ G i; omega) x1
theorem OwnT.mono {W : World} {B B' g n m : Nat} {G C : Nat → Nat} {T : Nat → Nat → Int} (h : OwnT W B g n m G C T) (hB : B' ≤ B) : OwnT W B' g n m G C T := ⟨h.lt, h.hd, fun i hi => owns_mono (h.row i hi) hB, h.ne, h.inj⟩
theorem below_set2 {w W : World} (h : Below w.heap.size w W) (P : Nat) (hP : w.heap.size ≤ P) (x0 x1 : Value) : Below w.heap.size w ((W.setCell ⟨P, 0, none⟩ x0).setCell ⟨P, 1, none⟩ x1) :=
  (h.setCell (p := ⟨P, 0, none⟩) hP _).setCell (p := ⟨P, 1, none⟩) hP _
/-- The table when the first k rows were written. -/
def putT (T : Nat → Nat → Int) (P : Nat → Nat) (x : Int) (k i j : Nat) : Int := if i < k then tput T P x i j else T i j
theorem putT_step (T : Nat → Nat → Int) (P : Nat → Nat) (x : Int) (k : Nat) (a b : Nat) : (if a = k ∧ b = P k then T k (P k) + x else putT T P x k a b) = putT T P x (k + 1) a b := by
  unfold putT tput
  by_cases e : a = k
  · by_cases e2 : b = P k
    · rw [if_pos ⟨e, e2⟩, if_pos (by omega), if_pos (by rw [e]; exact e2), e, e2]
    · rw [if_neg (fun h => e2 h.2), if_neg (by omega), if_pos (by omega), if_neg (by rw [e]; exact e2)]
  · rw [if_neg (fun h => e h.1)]
    by_cases h : a < k
    · have h2 : a < k + 1 := by omega
      simp only [if_pos h, if_pos h2]
    · rw [if_neg h, if_neg (by omega)]

set_option maxHeartbeats 8000000 in
theorem tput_core (P : Nat → Nat) (m : Nat) (a : Option Addr) (n c : Nat) (T : Nat → Nat → Int) (key x : Int) (w : World) (h : RowsAt w a n c (tabL T m n)) (hok : TabOk m n (tabL T m n)) (hx1 : 0 ≤ x) (hx2 : x ≤ 1000000000000)
    (hP : ∀ i, P i < m) (hCP : ∀ W row, row ≤ 100 → Calls Try.prog 38 #[tabV m a n c, .int .i64 (row : Nat), .int .i64 key] W fun e w' => e = .returned (.int .i64 (P row : Nat)) ∧ Below W.heap.size W w') :
    Calls Try.prog 11 #[tabV m a n c, .int .i64 key, .int .i64 x] w fun e w' =>
      ((∃ g cp G C, e = .returned (.tuple #[tabV m (some ⟨g, 0, none⟩) n cp, .int .i64 0]) ∧ OwnT w' w.heap.size g n m G C (tput T P x) ∧ w.heap.size ≤ g ∧ n ≤ cp ∧ cp ≤ 9223372036854775807 ∧ ∀ i, i < n → T i (P i) + x ≤ 1000000000000)
        ∨ (e = .returned (.tuple #[tabV 0 none 0 0, .int .i64 2]) ∧ ∃ i, i < n ∧ 1000000000000 < T i (P i) + x)) ∧ Below w.heap.size w w' := by
  have hm := hok.m1
  have hm2 := hok.m2
  have hn := hok.n1
  have hn2 := hok.n2
  have CK := hidp (fun W (hB : Below w.heap.size w W) => tcheck_c (m : Nat) a n c _ W (h.below hB))
  have F0 := hidp (tchk_ok m n _ hok)
  have CC := hidp (fun W (hB : Below w.heap.size w W) => copied_c m a n c T W (h.below hB) hm hm2 hn hn2)
  have CP := hidp hCP
  have PL := hidp hP
  have TB := hidp (fun i j (hi : i < n) (hj : j < m) => hok.cell i j hi hj)
  have mm := h.max
  have ee := h.le
  clear h hok hP hCP
  unfold tabV at *
  go_enter Try.func11, Try.ntmps11
  go_wp2_with fail
  have hb1 : Below w.heap.size w ((w.alloc (.cells #[.int .i64 (m : Nat), .slice a n c] 27)).alloc (.cells #[.int .i64 0, .slice none 0 0] 27)) := bal (bal (Below.refl _ _) _) _
  refine (CK.out _ hb1).mono ?_
  rintro e wa ⟨rfl, hba⟩
  rw [F0.out]
  have c0 : wa.cell? ⟨w.heap.size, 0, none⟩ = some (.int .i64 (m : Nat)) := ck hba (by go_simp)
  have c1 : wa.cell? ⟨w.heap.size, 1, none⟩ = some (.slice a n c) := ck hba (by go_simp)
  have r0 : wa.cell? ⟨w.heap.size + 1, 0, none⟩ = some (.int .i64 0) := ck hba (by go_simp)
  have r1 : wa.cell? ⟨w.heap.size + 1, 1, none⟩ = some (.slice none 0 0) := ck hba (by go_simp)
  have fr : ∀ o, wa.frozen? ⟨w.heap.size + 1, o, none⟩ = false := fun o => (hba.frozen (p := ⟨w.heap.size + 1, o, none⟩) (by simp)).trans (by go_simp)
  have hwa := bstep hb1 hba
  have hsa : w.heap.size + 2 ≤ wa.heap.size := by have := hba.size; simp at this; omega
  have FR := hidp fr
  clear hb1 hba fr
  go_wp2_with fail
  refine (CC.out _ hwa).mono ?_
  rintro e wb ⟨g, cp, G, C, rfl, hT, hg1, hg2, hg3, hbb⟩
  have hwb := bstep hwa hbb
  have P0 : PutT (wb.alloc (.cells #[.int .i64 (m : Nat), .slice (some ⟨g, 0, none⟩) n cp] 27)) w.heap.size (w.heap.size + 1) wb.heap.size m n a c g cp :=
    ⟨ca (ck hbb c0) _, ca (ck hbb c1) _, ⟨_, ca (ck hbb r0) _⟩, ⟨_, ca (ck hbb r1) _⟩, by go_simp, by go_simp, fun o => by
      have e1 := (hbb.frozen (p := ⟨w.heap.size + 1, o, none⟩) (by show w.heap.size + 1 < _; omega)).trans (FR.out o)
      have e2 := ((Below.refl wb.heap.size wb).alloc (Nat.le_refl _) (.cells #[.int .i64 (m : Nat), .slice (some ⟨g, 0, none⟩) n cp] 27)).frozen (p := ⟨w.heap.size + 1, o, none⟩) (by have := hbb.size; show w.heap.size + 1 < _; omega)
      exact e2.trans e1⟩
  have hT0 : OwnT (wb.alloc (.cells #[.int .i64 (m : Nat), .slice (some ⟨g, 0, none⟩) n cp] 27)) wa.heap.size g n m G C (putT T P x 0) :=
    (hT.below ((Below.refl _ _).alloc (Nat.le_refl _) _)).congr (fun i j _ _ => by unfold putT; rw [if_neg (by omega)])
  have hgq : g < wb.heap.size := hT.lt
  have GL := hidp (fun i (hi : i < n) => hT.ltG i hi)
  have hbw : Below w.heap.size w (wb.alloc (.cells #[.int .i64 (m : Nat), .slice (some ⟨g, 0, none⟩) n cp] 27)) := bal hwb _
  clear c0 c1 r0 r1 FR hT hbb hwb hwa CK CC
  go_upto_region 7 with fail
  generalize (wb.alloc (.cells #[.int .i64 (m : Nat), .slice (some ⟨g, 0, none⟩) n cp] 27)) = w3 at *
  generalize wb.heap.size = Q at *
  have PP := hidp P0
  have HT := hidp hT0
  have HB := hidp hbw
  obtain ⟨_, _, _, _, _, o1, _⟩ := P0
  clear hT0 hbw
  go_wp2_with fail
  clear o1
  go_loopw [30] (fun i wr => ∃ k : Nat, k ≤ n ∧ i = .int .i64 k ∧ Hid (PutT wr w.heap.size (w.heap.size + 1) Q m n a c g cp) ∧ Hid (OwnT wr wa.heap.size g n m G C (putT T P x k)) ∧ Hid (∀ i, i < k → T i (P i) + x ≤ 1000000000000) ∧ Below w.heap.size w wr) (fun i _ => n - (intOf i).toNat)
  case atStart => exact ⟨0, by omega, rfl, PP, HT, hidp (fun i hi => by omega), HB.out⟩
  case round =>
    clear PP HT HB
    obtain ⟨k, hk, rfl, PP, HT, AL, hbl⟩ := hrel
    obtain ⟨c0, c1, ⟨u0, r0⟩, ⟨u1, r1⟩, o0, o1, fr⟩ := PP.out
    by_cases hlt : k < n
    · have q := HT.out.hd k hlt
      clear r0 r1 fr o0 o1
      go_wp2_with fail
      refine (CP.out _ k (by omega)).mono ?_
      rintro e w4 ⟨rfl, hb4⟩
      have HT4 := HT.out.below hb4
      have PP4 := PP.out.below hb4
      have bl4 := bstep hbl hb4
      obtain ⟨d0, d1, _, _, _, _, _⟩ := PP4
      have p1 := PL.out k
      have p2 : ((P k : Nat) : Int) < (m : Int) := by omega
      have q1 := HT4.cell k (P k) hlt p1
      have q2 := HT4.fro k (P k) hlt
      have tb := TB.out k (P k) hlt p1
      rw [show putT T P x k k (P k) = T k (P k) from by unfold putT; rw [if_neg (by omega)]] at q1
      have hGk := (GL.out k hlt)
      have hq : ¬ w.heap.size = G k := by omega
      have SG := hidp (putT_step T P x k)
      have HT5 := hidp ((HT4.set k (P k) hlt (T k (P k) + x)).congr (fun i j _ _ => SG.out i j))
      have PP5 := hidp ((PP.out.below hb4).far (G k) (P k) (.int .i64 (T k (P k) + x)) (by omega) (by omega) (by omega))
      have bl5 : Below w.heap.size w (w4.setCell ⟨G k, P k, none⟩ (.int .i64 (T k (P k) + x))) := bl4.setCell (p := ⟨G k, P k, none⟩) (by show w.heap.size ≤ G k; omega) _
      clear c0 c1 q hb4 HT4 bl4
      go_upto_region 11 with fail
      generalize (w4.setCell ⟨G k, P k, none⟩ (.int .i64 (T k (P k) + x))) = w5 at *
      clear d0 d1 q1 q2
      have d0 := PP5.out.c0
      have d1 := PP5.out.c1
      go_wp2_with fail
      refine (CP.out _ k (by omega)).mono ?_
      rintro e w6 ⟨rfl, hb6⟩
      have HT6 := hidp (HT5.out.below hb6)
      have PP6 := hidp (PP5.out.below hb6)
      have bl6 := bstep bl5 hb6
      have q3 := HT6.out.cell k (P k) hlt p1
      rw [show putT T P x (k + 1) k (P k) = T k (P k) + x from by unfold putT tput; rw [if_pos (by omega), if_pos rfl]] at q3
      clear d0 d1 HT5 PP5 bl5 hb6
      by_cases hle : 1000000000000 < T k (P k) + x
      · obtain ⟨_, _, ⟨u0, r0⟩, ⟨u1, r1⟩, _, _, fr⟩ := PP6.out
        have f0 := fr 0
        have f1 := fr 1
        have hr := hidp (res2 (.int .i64 0) (.slice none 0 0) r0 r1)
        have hbw := hidp (below_set2 bl6 (w.heap.size + 1) (by omega) (.int .i64 0) (.slice none 0 0))
        clear fr
        go_wp2_with fail
        obtain ⟨t0, t1⟩ := hr.out
        have hbv := hbw.out
        clear hr hbw
        generalize ((w6.setCell ⟨w.heap.size + 1, 0, none⟩ (.int .i64 0)).setCell ⟨w.heap.size + 1, 1, none⟩ (.slice none 0 0)) = w7 at *
        exact bodyPost_ret (v := .tuple #[.agg #[.int .i64 0, .slice none 0 0], .int .i64 2]) (by simp [results, Try.results11, go_sem, t0, t1]) rfl ⟨.inr ⟨rfl, k, hlt, hle⟩, hbv⟩
      · have hle2 : T k (P k) + x ≤ 1000000000000 := by omega
        go_wp2_with fail
        go_roundw
        case measure => simp [intOf]; omega
        case rel =>
          refine ⟨k + 1, by omega, by go_num, PP6, HT6, hidp (fun i hi => ?_), bl6⟩
          by_cases e : i = k
          · rw [e]; exact hle2
          · exact AL.out i (by omega)
    · obtain rfl : k = n := by omega
      have f0 := fr 0
      have f1 := fr 1
      have hgl := HT.out.lt
      have hr := hidp (res2 (.int .i64 (m : Nat)) (.slice (some ⟨g, 0, none⟩) k cp) r0 r1)
      have hbw := hidp (below_set2 hbl (w.heap.size + 1) (by omega) (.int .i64 (m : Nat)) (.slice (some ⟨g, 0, none⟩) k cp))
      have HT7 := hidp (((HT.out.far2 (w.heap.size + 1) (by omega) (by omega) (.int .i64 (m : Nat)) (.slice (some ⟨g, 0, none⟩) k cp)).congr (U := tput T P x) (fun i j hi _ => by unfold putT; rw [if_pos hi])).mono (show w.heap.size ≤ wa.heap.size by omega))
      clear fr c0 c1
      go_wp2_with fail
      obtain ⟨t0, t1⟩ := hr.out
      have hbv := hbw.out
      clear hr hbw
      generalize ((wr.setCell ⟨w.heap.size + 1, 0, none⟩ (.int .i64 (m : Nat))).setCell ⟨w.heap.size + 1, 1, none⟩ (.slice (some ⟨g, 0, none⟩) k cp)) = w7 at *
      exact bodyPost_ret (v := .tuple #[.agg #[.int .i64 (m : Nat), .slice (some ⟨g, 0, none⟩) k cp], .int .i64 0]) (by simp [results, Try.results11, go_sem, t0, t1]) rfl ⟨.inl ⟨g, cp, G, C, rfl, HT7.out, by omega, hg2, hg3, AL.out⟩, hbv⟩
theorem tput_c (m : Nat) (a : Option Addr) (n c : Nat) (T : Nat → Nat → Int) (key x : Int) (w : World) (h : RowsAt w a n c (tabL T m n)) (hok : TabOk m n (tabL T m n)) (hx1 : 0 ≤ x) (hx2 : x ≤ 1000000000000) :
    Calls Try.prog 11 #[tabV m a n c, .int .i64 key, .int .i64 x] w fun e w' =>
      ((∃ g cp G C, e = .returned (.tuple #[tabV m (some ⟨g, 0, none⟩) n cp, .int .i64 0]) ∧ OwnT w' w.heap.size g n m G C (tput T (plc m key) x) ∧ w.heap.size ≤ g ∧ n ≤ cp ∧ cp ≤ 9223372036854775807 ∧ ∀ i, i < n → T i (plc m key i) + x ≤ 1000000000000)
        ∨ (e = .returned (.tuple #[tabV 0 none 0 0, .int .i64 2]) ∧ ∃ i, i < n ∧ 1000000000000 < T i (plc m key i) + x)) ∧ Below w.heap.size w w' :=
  tput_core (plc m key) m a n c T key x w h hok hx1 hx2 (fun i => plc_lt m key i hok.m1) (fun W row hr => place_c m a n c row key W hok.m1 hok.m2 hr)

end Go.Proofs.Ytffocoflmbhknaa
