/- Contracts of package table: copied, Put and Ask. -/
import Derived.Test.YtcbklhicellepaaTable
namespace Go.Proofs.Ytcbklhicellepaa
open Go.ChangeShapes Go.WideShapes Go.ChangeAt Go.RowKit
set_option maxRecDepth 20000

theorem info_ints : (Try.prog.info? 24).map (fun i => (i.zero, i.size, i.bytes)) = some (some (.slice none 0 0), 1, 24) := by kernel_rfl
theorem one_slice (a : Option Addr) (n c : Nat) : ∀ u ∈ [Value.slice a n c], u.oneCell' = true := by
  intro u hu; simp at hu; subst hu; rfl
theorem tabL_row {W : World} {b o n m : Nat} {T : Nat → Nat → Int} (hc : ∀ i, i < n → ∃ ai ni ci, W.cell? ⟨b, o + i, none⟩ = some (.slice ai ni ci) ∧ IntsAt W ai ni ci (gl (tabL T m n) i)) (hm : 1 ≤ m) (i : Nat) (hi : i < n) :
    ∃ bi oi ci, W.cell? ⟨b, o + i, none⟩ = some (.slice (some ⟨bi, oi, none⟩) m ci) ∧ IntsAt W (some ⟨bi, oi, none⟩) m ci (tab (T i) m) ∧ bi < W.heap.size := by
  obtain ⟨ai, ni, ci, h1, h2⟩ := hc i hi
  rw [tabL_gl _ _ _ _ hi] at h2
  have hl := h2.len
  rw [tab_len] at hl
  subst hl
  obtain ⟨bi, oi, rfl, hb, _⟩ := h2.addr hm
  exact ⟨bi, oi, ci, h1, h2, hb⟩
/-- What stands while a table is made, row by row. -/
structure CopS (W : World) (B P1 P2 k m : Nat) (v : Value) (G C : Nat → Nat) (T : Nat → Nat → Int) : Prop where
  l1 : P1 < B
  l2 : P2 < B
  l3 : B ≤ W.heap.size
  o0 : W.cell? ⟨P2, 0, none⟩ = some (.int .i64 (m : Nat))
  o1 : W.cell? ⟨P2, 1, none⟩ = some v
  z0 : ∃ u, W.cell? ⟨P1, 0, none⟩ = some u
  z1 : ∃ u, W.cell? ⟨P1, 1, none⟩ = some u
  fo : ∀ o, W.frozen? ⟨P2, o, none⟩ = false
  fz : ∀ o, W.frozen? ⟨P1, o, none⟩ = false
  hdr : W.ownsRow B 24 1 v k (tab (fun i => Value.slice (some ⟨G i, 0, none⟩) m (C i)) k)
  row : ∀ i, i < k → W.ownsRow B 3 1 (.slice (some ⟨G i, 0, none⟩) m (C i)) m (tab (fun j => Value.int .i64 (T i j)) m)
  ne : ∀ i, i < k → v.ownBlock ≠ some (G i)
  inj : ∀ i j, i < k → j < k → G i = G j → i = j
/-- One row more. -/
def ext1 (f : Nat → Nat) (k x : Nat) (i : Nat) : Nat := if i = k then x else f i
theorem ext1_at (f : Nat → Nat) (k x : Nat) : ext1 f k x k = x := if_pos rfl
theorem ext1_lt (f : Nat → Nat) (k x i : Nat) (h : i < k) : ext1 f k x i = f i := if_neg (by omega)
theorem CopS.step {W W2 W3 : World} {B P1 P2 k m : Nat} {v v' : Value} {G C : Nat → Nat} {T : Nat → Nat → Int} (h : CopS W B P1 P2 k m v G C T) {g c : Nat}
    (hb : Below W.heap.size W W2) (hr : W2.ownsRow W.heap.size 3 1 (.slice (some ⟨g, 0, none⟩) m c) m ((tab (T k) m).map (Value.int .i64)))
    (hn : W3.ownsRow B 24 1 v' (k + 1) (tab (fun i => Value.slice (some ⟨G i, 0, none⟩) m (C i)) k ++ [.slice (some ⟨g, 0, none⟩) m c]))
    (hg : W2.grownBy W3 v.ownBlock) (hd : v'.ownBlock = v.ownBlock ∨ ∃ q, v'.ownBlock = some q ∧ W2.heap.size ≤ q) :
    CopS (W3.setCell ⟨P2, 1, none⟩ v') B P1 P2 (k + 1) m v' (ext1 G k g) (ext1 C k c) T := by
  have hvl := h.hdr.lt
  have hgl := hr.lt g rfl
  have hne1 : ∀ P, P < B → v.ownBlock ≠ some P := fun P hP e => by have := (hvl P e).1; omega
  have hne12 : v.ownBlock ≠ some g := fun e => by have := (hvl g e).2; omega
  have cell3 : ∀ P o u, P < B → W.cell? ⟨P, o, none⟩ = some u → W3.cell? ⟨P, o, none⟩ = some u := fun P o u hP hc => gk hg (ck hb hc) (hne1 P hP)
  have fro3 : ∀ P o, P < B → W.frozen? ⟨P, o, none⟩ = false → W3.frozen? ⟨P, o, none⟩ = false := fun P o hP hc =>
    gf hg ((hb.frozen (p := ⟨P, o, none⟩) (by have := h.l3; show P < _; omega)).trans hc) (by have := h.l3; have := hb.size; show P < _; omega) (hne1 P hP)
  have s3 : W2.heap.size ≤ W3.heap.size := hg.size
  have s2 := hb.size
  have l3 := h.l3
  have o0 := cell3 P2 0 _ h.l2 h.o0
  have o1 := cell3 P2 1 _ h.l2 h.o1
  have rowOld : ∀ i, i < k → (W3.setCell ⟨P2, 1, none⟩ v').ownsRow B 3 1 (.slice (some ⟨G i, 0, none⟩) m (C i)) m (tab (fun j => Value.int .i64 (T i j)) m) := fun i hi => by
    have hl := (h.row i hi).lt (G i) rfl
    refine owns_heap (h.row i hi) ?_
    rw [Below.heap_setCell _ _ _ _ (by show G i ≠ P2; have := h.l2; omega), hg.block _ (by omega) (fun e => h.ne i hi e.symm)]
    exact hb.block _ hl.2
  have rowNew : (W3.setCell ⟨P2, 1, none⟩ v').ownsRow B 3 1 (.slice (some ⟨g, 0, none⟩) m c) m (tab (fun j => Value.int .i64 (T k j)) m) := by
    rw [← tab_map]
    refine owns_heap (owns_mono hr h.l3) ?_
    rw [Below.heap_setCell _ _ _ _ (by show g ≠ P2; have := h.l2; omega), hg.block _ hgl.2 (fun e => hne12 e.symm)]
  have hl12 := h.l1
  have hl22 := h.l2
  refine ⟨h.l1, h.l2, by simp; omega, con o0 (by omega), cset o1, ?_, ?_, fun o => frs (fro3 P2 o h.l2 (h.fo o)), fun o => frs (fro3 P1 o h.l1 (h.fz o)), ?_, ?_, ?_, ?_⟩
  · obtain ⟨u, hu⟩ := h.z0
    obtain ⟨u', hu'⟩ := cell?_setCell_some (p := ⟨P2, 1, none⟩) (x := v') (cell3 P1 0 u h.l1 hu)
    exact ⟨u', hu'⟩
  · obtain ⟨u, hu⟩ := h.z1
    obtain ⟨u', hu'⟩ := cell?_setCell_some (p := ⟨P2, 1, none⟩) (x := v') (cell3 P1 1 u h.l1 hu)
    exact ⟨u', hu'⟩
  · rw [tab_snoc, ext1_at, ext1_at, tab_congr (fun i => Value.slice (some ⟨ext1 G k g i, 0, none⟩) m (ext1 C k c i)) (fun i => Value.slice (some ⟨G i, 0, none⟩) m (C i)) k (fun i hi => by rw [ext1_lt _ _ _ _ hi, ext1_lt _ _ _ _ hi])]
    exact ownsRow_setCell_below hn (a := ⟨P2, 1, none⟩) (by show P2 < B; omega) _
  · intro i hi
    by_cases e : i = k
    · subst e; rw [ext1_at, ext1_at]; exact rowNew
    · rw [ext1_lt _ _ _ _ (by omega), ext1_lt _ _ _ _ (by omega)]; exact rowOld i (by omega)
  · intro i hi e
    rcases hd with hd | ⟨q, hd, hq⟩
    · by_cases e2 : i = k
      · subst e2; rw [ext1_at, hd] at e; exact hne12 e
      · rw [ext1_lt _ _ _ _ (by omega), hd] at e; exact h.ne i (by omega) e
    · rw [hd] at e
      have e3 := Option.some.inj e
      by_cases e2 : i = k
      · subst e2; rw [ext1_at] at e3; omega
      · rw [ext1_lt _ _ _ _ (by omega)] at e3
        have := (h.row i (by omega)).lt (G i) rfl
        omega
  · intro i j hi hj e
    by_cases e1 : i = k
    · by_cases e2 : j = k
      · omega
      · subst e1
        rw [ext1_at, ext1_lt _ _ _ _ (by omega)] at e
        have := (h.row j (by omega)).lt (G j) rfl
        omega
    · by_cases e2 : j = k
      · subst e2
        rw [ext1_at, ext1_lt _ _ _ _ (by omega)] at e
        have := (h.row i (by omega)).lt (G i) rfl
        omega
      · rw [ext1_lt _ _ _ _ (by omega), ext1_lt _ _ _ _ (by omega)] at e
        exact h.inj i j (by omega) (by omega) e
set_option maxHeartbeats 4000000 in
theorem copied_c (m : Nat) (a : Option Addr) (n c : Nat) (T : Nat → Nat → Int) (w : World) (h : RowsAt w a n c (tabL T m n)) (hm : 1 ≤ m) (hm2 : m ≤ 32) (hn : 1 ≤ n) (hn2 : n ≤ 4) :
    Calls Try.prog 40 #[tabV m a n c] w fun e w' => ∃ g cp G C, e = .returned (tabV m (some ⟨g, 0, none⟩) n cp) ∧ OwnT w' w.heap.size g n m G C T ∧ w.heap.size ≤ g ∧ n ≤ cp ∧ cp ≤ 9223372036854775807 ∧ Below w.heap.size w w' := by
  have mm := h.max
  have ee := h.le
  obtain ⟨b, o, rfl, hlt, hc⟩ := h.cells (by omega)
  have R := hidp (fun i hi => tabL_row hc hm i hi)
  have CC := hidp (fun (a : Option Addr) (c : Nat) (xs : List Int) (W : World) (hI : IntsAt W a m c xs) => clonei_c a m c xs W hI (by omega))
  clear hc h
  unfold tabV
  go_enter Try.func40, Try.ntmps40
  go_wp2_with fail
  have hs0 : CopS (((w.alloc (.cells #[.int .i64 (m : Nat), .slice (some ⟨b, o, none⟩) n c] 36)).alloc (.cells #[.int .i64 0, .slice none 0 0] 36)).alloc (.cells #[.int .i64 (m : Nat), .slice none 0 0] 36)) (w.heap.size + 3) (w.heap.size + 1) (w.heap.size + 1 + 1) 0 m (.slice none 0 0) (fun _ => 0) (fun _ => 0) T :=
    ⟨by omega, by omega, by simp, by go_simp, by go_simp, ⟨.int .i64 0, by go_simp⟩, ⟨.slice none 0 0, by go_simp⟩, fun o => by go_simp, fun o => by go_simp, World.ownsRow_nil _ _ _ _, fun i hi => by omega, fun i hi => by omega, fun i j hi => by omega⟩
  have hb0 : Below w.heap.size w (((w.alloc (.cells #[.int .i64 (m : Nat), .slice (some ⟨b, o, none⟩) n c] 36)).alloc (.cells #[.int .i64 0, .slice none 0 0] 36)).alloc (.cells #[.int .i64 (m : Nat), .slice none 0 0] 36)) := bal (bal (bal (Below.refl _ _) _) _) _
  generalize (((w.alloc (.cells #[.int .i64 (m : Nat), .slice (some ⟨b, o, none⟩) n c] 36)).alloc (.cells #[.int .i64 0, .slice none 0 0] 36)).alloc (.cells #[.int .i64 (m : Nat), .slice none 0 0] 36)) = w1 at *
  have HS := hidp hs0
  have HB := hidp hb0
  clear hs0 hb0
  go_loopw [12] (fun i wr => ∃ (k : Nat) (v : Value) (G C : Nat → Nat), k ≤ n ∧ i = .int .i64 k ∧ Hid (CopS wr (w.heap.size + 3) (w.heap.size + 1) (w.heap.size + 1 + 1) k m v G C T) ∧ Below w.heap.size w wr) (fun i _ => n - (intOf i).toNat)
  case atStart => exact ⟨0, _, _, _, by omega, rfl, HS, HB.out⟩
  case round =>
    clear HS HB
    obtain ⟨k, v, G, C, hk, rfl, HS, hbl⟩ := hrel
    by_cases hlt2 : k < n
    · obtain ⟨bi, oi, ci, q0, q1, q2⟩ := R.out k hlt2
      have q := carry_cell ⟨hlt, q0⟩ hbl
      have CL := hidp (fun W (hB : Below wr.heap.size wr W) => CC.out (some ⟨bi, oi, none⟩) ci (tab (T k) m) W ((q1.below hbl).below hB))
      have o1 := HS.out.o1
      have fo := HS.out.fo 1
      have hdr := hidp (HS.out.hdr)
      have l3 := HS.out.l3
      have NB := hidp (show v.ownBlock ≠ some (w.heap.size + 1 + 1) from fun e => by have := (HS.out.hdr.lt _ e).1; omega)
      have PLT := hidp (show w.heap.size + 1 + 1 < wr.heap.size by omega)
      clear q0 q1 q2
      go_upto_region 5 with fail
      go_region_law (first
        | (refine step_call rfl 33 #[.tmp 18] _ rfl (fun _ _ => by kernel_rfl) #[.slice (some ⟨bi, oi, none⟩) m ci] (by simp [Act.eval, Act.put]) _ (CL.out _ (Below.refl _ _).drew) ?_; rintro e w2 ⟨v2, rfl, hv2, hb2⟩; have hb2' := (Below.refl wr.heap.size wr).drew.trans hb2; have ho := owns_addr hv2 hm; obtain ⟨g2, c2, rfl, hg1, hg2, hg3, hg4⟩ := ho; refine ⟨_, rfl, ?_⟩; have o2 := ck hb2' o1; have n2 := nec o2; obtain ⟨n21, n22⟩ := n2; have n23 := ltc o2; have hd2 := owns_below hdr.out hb2'; have hgs : w.heap.size + 3 ≤ w2.heap.size := Nat.le_trans l3 hb2'.size; have f2 := (hb2'.frozen (p := ⟨w.heap.size + 1 + 1, 1, none⟩) PLT.out).trans fo)
        | (refine step_append_new w2 ⟨rfl, rfl, rfl, rfl⟩ rfl (.tmp 17) (.tmp 20) 34 rfl (w.heap.size + 3) 24 _ 1 24 info_ints rfl (by decide) Try.underlying34 v k _ (by simp [Act.eval]) hd2 rfl (one_slice _ _ _) (by simp [Act.eval]) (by omega) (by decide) hgs ?_; intro v0 x0 nw g0 d0; have hf := owns_form nw; obtain ⟨a0, p0, rfl, hp1, hp2⟩ := hf; have o3 := gk g0 o2 NB.out; have f3 := gf g0 f2 (Nat.lt_of_lt_of_le PLT.out hb2'.size) NB.out))
      all_goals have ST := hidp (HS.out.step hb2' hv2 nw g0 d0)
      all_goals have BL := ((bstep hbl hb2').grown g0 (by have := hbl.size; omega) (fun q hq => by have := (hd2.lt q hq).1; omega)).setCell (p := ⟨w.heap.size + 1 + 1, 1, none⟩) (by show w.heap.size ≤ w.heap.size + 1 + 1; omega) (.slice a0 (k + 1) p0)
      all_goals go_wp2
      all_goals go_roundw
      all_goals first
        | exact ⟨k + 1, _, _, _, by omega, by go_num, ST, BL⟩
        | (simp [intOf]; omega)
    · obtain rfl : k = n := by omega
      obtain ⟨l1, l2, l3, o0, o1, ⟨u0, z0⟩, ⟨u1, z1⟩, fo, fz, hdr, row, ne, inj⟩ := HS.out
      have f0 := fz 0
      have f1 := fz 1
      obtain ⟨g, cp, rfl, hg1, hg2, hg3, hg4⟩ := owns_addr hdr hn
      clear fo fz
      go_wp2_with fail
      have t0 : ((wr.setCell ⟨w.heap.size + 1, 0, none⟩ (.int .i64 (m : Nat))).setCell ⟨w.heap.size + 1, 1, none⟩ (.slice (some ⟨g, 0, none⟩) k cp)).cell? ⟨w.heap.size + 1, 0, none⟩ = some (.int .i64 (m : Nat)) := con (cset z0) (by omega)
      have t1 : ((wr.setCell ⟨w.heap.size + 1, 0, none⟩ (.int .i64 (m : Nat))).setCell ⟨w.heap.size + 1, 1, none⟩ (.slice (some ⟨g, 0, none⟩) k cp)).cell? ⟨w.heap.size + 1, 1, none⟩ = some (.slice (some ⟨g, 0, none⟩) k cp) := cset (con z1 (by omega))
      have hb6 : Below w.heap.size w ((wr.setCell ⟨w.heap.size + 1, 0, none⟩ (.int .i64 (m : Nat))).setCell ⟨w.heap.size + 1, 1, none⟩ (.slice (some ⟨g, 0, none⟩) k cp)) := (hbl.setCell (p := ⟨w.heap.size + 1, 0, none⟩) (by show w.heap.size ≤ w.heap.size + 1; omega) _).setCell (p := ⟨w.heap.size + 1, 1, none⟩) (by show w.heap.size ≤ w.heap.size + 1; omega) _
      have hT : OwnT wr w.heap.size g k m G C T := ⟨hg2, fun i hi => by
        have := hdr.cellAt i (by omega)
        rw [tab_get _ _ _ hi] at this
        exact this, fun i hi => owns_mono (row i hi) (by omega), fun i hi e => ne i hi (by rw [e]; rfl), inj⟩
      have hGl := fun i hi => ((row i hi).lt (G i) rfl).1
      have hT6 := (hT.far ⟨w.heap.size + 1, 0, none⟩ (by show w.heap.size + 1 ≠ g; omega) (fun i hi => by have := hGl i hi; show w.heap.size + 1 ≠ G i; omega) (.int .i64 (m : Nat))).far ⟨w.heap.size + 1, 1, none⟩ (by show w.heap.size + 1 ≠ g; omega) (fun i hi => by have := hGl i hi; show w.heap.size + 1 ≠ G i; omega) (.slice (some ⟨g, 0, none⟩) k cp)
      generalize ((wr.setCell ⟨w.heap.size + 1, 0, none⟩ (.int .i64 (m : Nat))).setCell ⟨w.heap.size + 1, 1, none⟩ (.slice (some ⟨g, 0, none⟩) k cp)) = w7 at *
      exact bodyPost_ret (v := .agg #[.int .i64 (m : Nat), .slice (some ⟨g, 0, none⟩) k cp]) (by simp [results, Try.results40, go_sem, t0, t1]) rfl ⟨g, cp, G, C, rfl, hT6, by omega, hg3, hg4, hb6⟩
end Go.Proofs.Ytcbklhicellepaa
