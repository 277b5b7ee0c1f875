/- The walk of BottomSame. -/
import Derived.Test.YtlikpakjjaeblaaBotJoin
import Derived.Test.YtlikpakjjaeblaaConcat3
import Derived.Deep.DeepCutAuto
import Derived.Lib.MinMax
import Derived.BigQuiet
import Derived.Deep.QuietTactic
namespace Go.Proofs.Ytlikpakjjaeblaa.bottomSame
open Go.ChangeShapes Go.WideShapes Go.ChangeAt Go.RowKit
open Go.Proofs.Ytlikpakjjaeblaa
set_option maxRecDepth 20000
/-- A bottom in memory. -/
structure BV (W : World) (P K : Nat) (a : Option Addr) (n c : Nat) (L : List Int) : Prop where
  c0 : W.cell? ⟨P, 0, none⟩ = some (.int .i64 (K : Nat))
  c1 : W.cell? ⟨P, 1, none⟩ = some (.slice a n c)
  ia : IntsAt W a n c L
theorem BV.below {W W' : World} {P K : Nat} {a : Option Addr} {n c : Nat} {L : List Int} (h : BV W P K a n c L) (hb : Below W.heap.size W W') : BV W' P K a n c L :=
  ⟨ck hb h.c0, ck hb h.c1, h.ia.below hb⟩
theorem BV.new {W : World} {K : Nat} {a : Option Addr} {n c : Nat} {L : List Int} (h : IntsAt W a n c L) : BV (W.alloc (.cells #[.int .i64 (K : Nat), .slice a n c] 24)) W.heap.size K a n c L :=
  ⟨by go_simp, by go_simp, h.alloc _⟩
theorem fill_c (K : Nat) (a : Option Addr) (n c : Nat) (ys : List Int) (w : World) (h : IntsAt w a n c ys) (hl : n ≤ 200) (k1 : 1 ≤ K) (k2 : K ≤ 40) :
    Calls Try.prog 15 #[.int .i64 (K : Nat), .slice a n c] w fun e w' => ∃ g n' c', e = .returned (.tuple #[botV K g n' c', .bool true]) ∧ IntsAt w' g n' c' (botL K (ys.map drw)) ∧ Below w.heap.size w w' := by
  refine (filled_c K a n c ys w h k1 k2).mono ?_
  rintro e w' ⟨g, n', c', rfl, ho, hb⟩
  rw [List.take_of_length_le (by have := h.len; omega)] at ho
  exact ⟨g, n', c', rfl, (owns_bot ho).1, hb⟩
theorem fill2_c (K : Nat) (a : Option Addr) (n c : Nat) (ys : List Int) (w : World) (h : IntsAt w a n c ys) (hl : n ≤ 200) (k1 : 1 ≤ K) (k2 : K ≤ 40) :
    Calls Try.prog 15 #[.int .i64 (K : Nat), .slice a n c] w fun e w' => ∃ g n' c', e = .returned (.tuple #[botV K g n' c', .bool true]) ∧ IntsAt w' g n' c' (botL K (ys.map drw)) ∧ (∀ b o, g = some ⟨b, o, none⟩ → w.heap.size ≤ b) ∧ Below w.heap.size w w' := by
  refine (filled_c K a n c ys w h k1 k2).mono ?_
  rintro e w' ⟨g, n', c', rfl, ho, hb⟩
  rw [List.take_of_length_le (by have := h.len; omega)] at ho
  exact ⟨g, n', c', rfl, (owns_bot ho).1, (owns_bot ho).2, hb⟩
/-- A bottom's place that is still empty. -/
structure Zt (W : World) (P : Nat) : Prop where
  c0 : W.cell? ⟨P, 0, none⟩ = some (.int .i64 0)
  c1 : W.cell? ⟨P, 1, none⟩ = some (.slice none 0 0)
  f : ∀ o, W.frozen? ⟨P, o, none⟩ = false
theorem Zt.below {W W' : World} {P : Nat} (h : Zt W P) (hb : Below W.heap.size W W') : Zt W' P :=
  ⟨ck hb h.c0, ck hb h.c1, fun o => (hb.frozen (p := ⟨P, o, none⟩) (show P < _ from ltc h.c0)).trans (h.f o)⟩
theorem Zt.n (V : World) (P : Nat) (h : V.heap.size = P) : Zt (V.alloc (.cells #[.int .i64 0, .slice none 0 0] 24)) P :=
  ⟨by subst h; go_simp, by subst h; go_simp, fun o => by subst h; go_simp⟩
theorem Zt.b (V : World) (P : Nat) (h : V.heap.size = P) (ob : Obj) : Zt ((V.alloc (.cells #[.int .i64 0, .slice none 0 0] 24)).alloc ob) P := (Zt.n V _ h).below (bal (Below.refl _ _) _)
theorem Zt.c (V : World) (P : Nat) (h : V.heap.size = P) (ob : Obj) : Zt ((V.alloc ob).alloc (.cells #[.int .i64 0, .slice none 0 0] 24)) (P + 1) := Zt.n _ _ (by simp [h])
theorem close_set {wr vj vp : World} {P K : Nat} {g : Option Addr} {n c : Nat} {L : List Int} (zj : Zt vj P) (hbp : Below vj.heap.size vj vp) (hI : IntsAt vp g n c L) (hfr : ∀ b o, g = some ⟨b, o, none⟩ → vj.heap.size ≤ b) (hbq : Below wr.heap.size wr vp) (hP : wr.heap.size ≤ P) :
    BV ((vp.setCell ⟨P, 0, none⟩ (.int .i64 (K : Nat))).setCell ⟨P, 1, none⟩ (.slice g n c)) P K g n c L ∧ Below wr.heap.size wr ((vp.setCell ⟨P, 0, none⟩ (.int .i64 (K : Nat))).setCell ⟨P, 1, none⟩ (.slice g n c)) := by
  have zp := zj.below hbp
  have hl := ltc zj.c0
  have hne : ∀ b o, g = some ⟨b, o, none⟩ → b ≠ P := fun b o e => by have := hfr b o e; omega
  exact ⟨⟨(res2 _ _ zp.c0 zp.c1).1, (res2 _ _ zp.c0 zp.c1).2, (hI.setCell ⟨P, 0, none⟩ hne _).setCell ⟨P, 1, none⟩ hne _⟩, below_set2 hbq P hP _ _⟩
theorem eB (V : World) (o : Obj) : V.heap.size + 1 = (V.drew.alloc o).heap.size := by simp
theorem hA (V : World) (r : Obj) : Below (V.drew.alloc r).heap.size (V.drew.alloc r) (V.alloc r).drew := Below.refl _ _
theorem hB (V : World) (o r : Obj) : Below ((V.drew.alloc o).alloc r).heap.size ((V.drew.alloc o).alloc r) ((V.alloc o).alloc r).drew := Below.refl _ _
theorem hC (V : World) (r o : Obj) : Below (V.drew.alloc r).heap.size (V.drew.alloc r) ((V.alloc r).alloc o).drew := (Below.refl _ _).alloc (Nat.le_refl _) o
theorem ext_O (X Y : List Int) (C : Nat) (z : Int) : z ∈ (Y ++ X.drop C ++ X.take C).map drw ↔ z ∈ (X ++ Y).map drw := by
  simp only [List.mem_map, List.mem_append]
  constructor
  · rintro ⟨a, (h | h) | h, rfl⟩
    · exact ⟨a, .inr h, rfl⟩
    · exact ⟨a, .inl (List.mem_of_mem_drop h), rfl⟩
    · exact ⟨a, .inl (List.mem_of_mem_take h), rfl⟩
  · rintro ⟨a, h | h, rfl⟩
    · rw [← List.take_append_drop C X] at h
      rcases List.mem_append.1 h with h | h
      · exact ⟨a, .inr h, rfl⟩
      · exact ⟨a, .inl (.inr h), rfl⟩
    · exact ⟨a, .inl (.inl h), rfl⟩
theorem ext_2 (X Y : List Int) (z : Int) : z ∈ (Y ++ X).map drw ↔ z ∈ (X ++ Y).map drw := by
  simp only [List.mem_map, List.mem_append]
  exact ⟨fun ⟨a, h, e⟩ => ⟨a, h.symm, e⟩, fun ⟨a, h, e⟩ => ⟨a, h.symm, e⟩⟩
theorem ext_3 (X Y : List Int) (z : Int) : z ∈ (X ++ Y ++ X).map drw ↔ z ∈ (X ++ Y).map drw := by
  simp only [List.mem_map, List.mem_append]
  exact ⟨fun ⟨a, h, e⟩ => ⟨a, h.elim id .inl, e⟩, fun ⟨a, h, e⟩ => ⟨a, .inl h, e⟩⟩
theorem join_c (K : Nat) (a : Option Addr) (n c : Nat) (X : List Int) (a2 : Option Addr) (n2 c2 : Nat) (Y : List Int) (w : World) (h : IntsAt w a n c (botL K (X.map drw))) (h2 : IntsAt w a2 n2 c2 (botL K (Y.map drw))) (k1 : 1 ≤ K) (k2 : K ≤ 40) :
    Calls Try.prog 18 #[botV K a n c, botV K a2 n2 c2] w fun e w' => ∃ g n' c', e = .returned (.tuple #[botV K g n' c', .int .i64 0]) ∧ IntsAt w' g n' c' (botL K ((X ++ Y).map drw)) ∧ Below w.heap.size w w' := by
  refine (botjoin_c K a n c _ a2 n2 c2 _ w h h2 (BotOk.ofL k1 k2 X) (BotOk.ofL k1 k2 Y)).mono ?_
  rintro e w' ⟨g, n', c', rfl, ho, hb⟩
  rw [botL_join, ← List.map_append] at ho
  exact ⟨g, n', c', rfl, (owns_bot ho).1, hb⟩
theorem ba (W : World) (o : Obj) : Below W.heap.size W (W.alloc o) := bal (Below.refl _ _) _
set_option maxHeartbeats 8000000 in
theorem walk (a0 : Int) (a1 : Option Addr) (n c : Nat) (zs : List Int) (a2 : Option Addr) (n2 c2 : Nat) (ys : List Int) (a3 : Int) (w : World)
    (w0 : (Lit.int .i64 a0).wf = true) (w1 : IntsAt w a1 n c zs) (w2 : IntsAt w a2 n2 c2 ys) (w3 : (Lit.int .i64 a3).wf = true) :
    Calls Try.prog 4 #[.int .i64 a0, .slice a1 n c, .slice a2 n2 c2, .int .i64 a3] w fun e w' => e = .returned (.bool true) ∧ Below w.heap.size w w' := by
  have P1 := hidp (boput_c 1 (some ⟨w.heap.size, 0, none⟩) 1 1 [5] 3 (w.alloc (.cells #[.int .i64 5] 3)) (ints_lit [5] rfl rfl rfl (by simp) (by omega)) ⟨by omega, by omega, by simp, by simp [Rising], by simp⟩ (by omega))
  obtain ⟨mx, hmx⟩ : ∃ mx : Nat, min (n : Int) 100 = (mx : Int) := ⟨min n 100, by omega⟩
  obtain ⟨my, hmy⟩ : ∃ my : Nat, min (n2 : Int) 100 = (my : Int) := ⟨min n2 100, by omega⟩
  have lx : mx ≤ 100 := by omega
  have ly : my ≤ 100 := by omega
  have lc := w1.le
  have lc2 := w2.le
  have lm := w1.max
  have lm2 := w2.max
  have hmx2 : mx ≤ n := by omega
  have hmy2 : my ≤ n2 := by omega
  have IX := hidp (w1.take mx (by omega))
  have IY := hidp (w2.take my (by omega))
  generalize zs.take mx = X at *
  generalize ys.take my = Y at *
  obtain ⟨K, hK⟩ : ∃ K : Nat, 1 + ((wn a0 40 : Nat) : Int) = (K : Int) := ⟨1 + wn a0 40, by push_cast; rfl⟩
  have k0 := wn_lt a0 40 (by omega)
  have k1 : 1 ≤ K := by omega
  have k2 : K ≤ 40 := by omega
  obtain ⟨C, hCe⟩ : ∃ C : Nat, wn a3 ((mx : Int) + 1) = C := ⟨_, rfl⟩
  have hCl : C ≤ mx := by have := wn_lt a3 ((mx : Int) + 1) (by omega); omega
  clear w0 w1 w2 w3 k0
  unfold botV at *
  go_enter Try.func4, Try.ntmps4
  go_wp2_with fail
  refine P1.out.mono ?_
  rintro e wa ⟨g1, n1, c1, rfl, hv1, hb1⟩
  have h57 : bot 1 [5] 3 = [3] := by decide
  rw [h57] at hv1
  have hbA : Below w.heap.size w wa := bstep (bal (Below.refl _ _) _) hb1
  have I1 : IntsAt wa g1 n1 c1 [3] := by
    obtain ⟨_, _, e, h⟩ := owns_ints hv1 (by simp)
    cases e; exact h
  have EQ1 := hidp (equali_c g1 (some ⟨wa.heap.size + 1, 0, none⟩) n1 1 c1 1 [3] [3] ((wa.alloc (.cells #[.int .i64 1, .slice g1 n1 c1] 24)).alloc (.cells #[.int .i64 3] 3)) ((I1.alloc _).alloc _) (ints_lit [3] (by simp) rfl rfl (by simp) (by omega)))
  have hbB := hidp (bal (bal hbA (.cells #[.int .i64 1, .slice g1 n1 c1] 24)) (.cells #[.int .i64 3] 3))
  clear hv1 hb1 I1 h57 P1
  go_wp2_with fail
  refine EQ1.out.mono ?_
  rintro e wb ⟨rfl, hb2⟩
  have hbb := hidp (bstep hbB.out hb2)
  clear hb2 hbB EQ1 hbA
  generalize wa.heap.size = P0 at *
  generalize hQ0 : (Value.slice g1 n1 c1) = q1 at *
  clear hQ0
  go_wp2_with fail
  refine (withinN_c a0 40 (by omega) (by omega) _).mono ?_
  rintro e w' ⟨rfl, rfl⟩
  go_wp2_with fail
  go_quiet (fail)
  rename_i nq
  have hbc := hidp (bstep hbb.out (below_drewN (Below.refl wb.heap.size wb) nq))
  clear hbb
  generalize wb.drewN nq = wc at *
  go_wp2_with fail
  refine (withinN_c a3 ((mx : Int) + 1) (by omega) (by omega) _).mono ?_
  rintro e w' ⟨rfl, rfl⟩
  go_wp2_with fail
  refine (fill_c K a1 mx c X wc (IX.out.below hbc.out) (by omega) k1 k2).mono ?_
  rintro e wd ⟨gA, nA, cA, rfl, hIA, hb⟩
  have VA := hidp (BV.new (K := K) hIA)
  have hbd := hidp (bal (bstep hbc.out hb) (.cells #[.int .i64 (K : Nat), .slice gA nA cA] 24))
  clear hIA hb hbc
  unfold botV at *
  go_wp2_with fail
  generalize (wd.alloc (.cells #[.int .i64 (K : Nat), .slice gA nA cA] 24)) = we at *
  generalize wd.heap.size = PA at *
  refine (fill_c K a2 my c2 Y we (IY.out.below hbd.out) (by omega) k1 k2).mono ?_
  rintro e wf ⟨gB, nB, cB, rfl, hIB, hb⟩
  have VB := hidp (BV.new (K := K) hIB)
  replace VA := hidp ((VA.out.below hb).below (ba wf (.cells #[.int .i64 (K : Nat), .slice gB nB cB] 24)))
  have hbf := hidp (bal (bstep hbd.out hb) (.cells #[.int .i64 (K : Nat), .slice gB nB cB] 24))
  clear hIB hb hbd
  unfold botV at *
  go_wp2_with fail
  have SZB := hidp (show (wf.alloc (.cells #[.int .i64 (K : Nat), .slice gB nB cB] 24)).heap.size = wf.heap.size + 1 from by simp)
  generalize (wf.alloc (.cells #[.int .i64 (K : Nat), .slice gB nB cB] 24)) = wg at *
  generalize wf.heap.size = PB at *
  refine (concat2_g a1 a2 mx my c c2 X Y wg (wg.alloc (.cells #[.slice a1 mx c, .slice a2 my c2] 22)) (PB + 1) SZB.out.symm (IX.out.below hbf.out) (IY.out.below hbf.out) (by omega) (Below.refl _ _)).mono ?_
  rintro e wh ⟨aJ, cJ, rfl, hJ, hb⟩
  replace hb := bstep (ba wg (.cells #[.slice a1 mx c, .slice a2 my c2] 22)) hb
  replace VA := hidp (VA.out.below hb)
  replace VB := hidp (VB.out.below hb)
  have hbh := hidp (bstep hbf.out hb)
  have HJ := hidp hJ
  clear hb hbf hJ
  go_wp2_with fail
  refine (fill_c K aJ (mx + my) cJ (X ++ Y) wh HJ.out (by omega) k1 k2).mono ?_
  rintro e wi ⟨gJ, nJ, dJ, rfl, hIJ, hb⟩
  have VJ := hidp (BV.new (K := K) hIJ)
  replace VA := hidp ((VA.out.below hb).below (ba wi (.cells #[.int .i64 (K : Nat), .slice gJ nJ dJ] 24)))
  replace VB := hidp ((VB.out.below hb).below (ba wi (.cells #[.int .i64 (K : Nat), .slice gJ nJ dJ] 24)))
  have hbj := hidp (bal (bstep hbh.out hb) (.cells #[.int .i64 (K : Nat), .slice gJ nJ dJ] 24))
  clear hIJ hb hbh HJ
  unfold botV at *
  go_wp2_with fail
  have SZJ := hidp (show (wi.alloc (.cells #[.int .i64 (K : Nat), .slice gJ nJ dJ] 24)).heap.size = wi.heap.size + 1 from by simp)
  generalize (wi.alloc (.cells #[.int .i64 (K : Nat), .slice gJ nJ dJ] 24)) = wr at *
  generalize wi.heap.size = PJ at *
  have RD := run_drop a1 mx c C hCl
  have hCc : C ≤ c := by omega
  have hY1 := hidp (IY.out.below hbj.out.drew)
  have hY2 := hidp ((IY.out.below hbj.out.drew).alloc (.cells #[.int .i64 0, .slice none 0 0] 24))
  have hD1 := hidp ((IX.out.below hbj.out.drew).drop C hCl)
  have hD2 := hidp (((IX.out.below hbj.out.drew).drop C hCl).alloc (.cells #[.int .i64 0, .slice none 0 0] 24))
  have hT1 := hidp ((IX.out.below hbj.out.drew).take C hCl)
  have hT2 := hidp (((IX.out.below hbj.out.drew).take C hCl).alloc (.cells #[.int .i64 0, .slice none 0 0] 24))
  clear hmx hmy
  go_cut [17, 18] (fun s17 s18 wx => s18 = .bool true ∧ ∃ (Q : Nat) (g2 : Option Addr) (nO cO : Nat), s17 = .pointer (some ⟨Q, 0, none⟩) ∧ BV wx Q K g2 nO cO (botL K ((Y ++ X.drop C ++ X.take C).map drw)) ∧ Below wr.heap.size wr wx)
  case first =>
    go_region_with (first
      | (go_at_call 17; go_loud (refine Calls.mono (concat3_g a2 (dropA a1 C c) a1 my (mx - C) C c2 (c - C) c Y (X.drop C) (X.take C) ?_ _ _ ?_ ?_ ?_ ?_ (by omega) ?_) ?_; rotate_left 5; (first | exact hB wr _ _ | exact hA wr _ | exact hC wr _ _); rotate_left 1; (first | exact eB wr _ | rfl); (first | exact hY1.out | exact hY2.out); (first | exact hD1.out | exact hD2.out); (first | exact hT1.out | exact hT2.out); rintro e vj ⟨ja, jc, rfl, hj, hbd⟩; (first | have hbv := bstep (bal (Below.refl wr.heap.size wr).drew _) hbd | have hbv := bstep (bal (bal (Below.refl wr.heap.size wr).drew _) _) hbd)))
      | (go_at_call 15; go_loud (refine Calls.mono (fill2_c K ja (my + (mx - C) + C) jc (Y ++ X.drop C ++ X.take C) _ ?_ ?_ k1 k2) ?_; (first | exact hj | exact hj.alloc _); omega; rintro e vp ⟨gO, nO, cO, rfl, hIO, hfr, hbp⟩; (first | have hbq := bstep hbv hbp | have hbq := bstep (bal hbv _) hbp); first | (have zj := (Zt.c wr.drew wr.heap.size rfl _).below hbd; have zp := zj.below hbp; obtain ⟨z0, z1, zf⟩ := zp; have zf0 := zf 0; have zf1 := zf 1; have hcl := hidp (close_set (K := K) zj hbp hIO hfr hbq (Nat.le_succ _))) | (have zj := (Zt.b wr.drew wr.heap.size rfl _).below hbd; have zp := zj.below hbp; obtain ⟨z0, z1, zf⟩ := zp; have zf0 := zf 0; have zf1 := zf 1; have hcl := hidp (close_set (K := K) zj hbp hIO hfr hbq (Nat.le_refl _))) | (have zj := Zt.n vj _ rfl; have zp := zj.below hbp; obtain ⟨z0, z1, zf⟩ := zp; have zf0 := zf 0; have zf1 := zf 1; have hcl := hidp (close_set (K := K) zj hbp hIO hfr hbq hbv.size)) | (have hcl := hidp (And.intro (BV.new (K := K) hIO) (bal hbq (.cells #[.int .i64 (K : Nat), .slice gO nO cO] 24)))))))
    all_goals go_wp2
    all_goals go_meet
    all_goals exact ⟨rfl, _, _, _, _, rfl, hcl.out.1, hcl.out.2⟩
  case rest =>
    obtain ⟨rfl, PO, gO, nO, cO, rfl, VO, hb⟩ := hcut
    replace VA := hidp (VA.out.below hb)
    replace VB := hidp (VB.out.below hb)
    replace VJ := hidp (VJ.out.below hb)
    have hbz := hidp (bstep hbj.out hb)
    replace VO := hidp VO
    clear hb hbj
    have x0 := VA.out.c0
    have x1 := VA.out.c1
    have y0 := VB.out.c0
    have y1 := VB.out.c1
    go_wp2_with fail
    refine (join_c K gA nA cA X gB nB cB Y wc VA.out.ia VB.out.ia k1 k2).mono ?_
    rintro e wm ⟨gM, nM, cM, rfl, hI, hb⟩
    have VM := hidp (BV.new (K := K) hI)
    have hal := ba wm (.cells #[.int .i64 (K : Nat), .slice gM nM cM] 24)
    replace VA := hidp ((VA.out.below hb).below hal)
    replace VB := hidp ((VB.out.below hb).below hal)
    replace VJ := hidp ((VJ.out.below hb).below hal)
    replace VO := hidp ((VO.out.below hb).below hal)
    replace hbz := hidp (bstep (bstep hbz.out hb) hal)
    clear hI hb hal x0 x1 y0 y1
    unfold botV at *
    go_upto_region 12 with fail
    generalize (wm.alloc (.cells #[.int .i64 (K : Nat), .slice gM nM cM] 24)) = wm2 at *
    generalize wm.heap.size = PM at *
    have x0 := VB.out.c0
    have x1 := VB.out.c1
    have y0 := VA.out.c0
    have y1 := VA.out.c1
    go_wp2_with fail
    refine (join_c K gB nB cB Y gA nA cA X wm2 VB.out.ia VA.out.ia k1 k2).mono ?_
    rintro e wn1 ⟨gN, nN, cN, rfl, hI, hb⟩
    have VN := hidp (BV.new (K := K) hI)
    have hal := ba wn1 (.cells #[.int .i64 (K : Nat), .slice gN nN cN] 24)
    replace VA := hidp ((VA.out.below hb).below hal)
    replace VB := hidp ((VB.out.below hb).below hal)
    replace VJ := hidp ((VJ.out.below hb).below hal)
    replace VO := hidp ((VO.out.below hb).below hal)
    replace VM := hidp ((VM.out.below hb).below hal)
    replace hbz := hidp (bstep (bstep hbz.out hb) hal)
    clear hI hb hal x0 x1 y0 y1
    unfold botV at *
    go_upto_region 13 with fail
    generalize (wn1.alloc (.cells #[.int .i64 (K : Nat), .slice gN nN cN] 24)) = wn2 at *
    generalize wn1.heap.size = PN at *
    have x0 := VM.out.c0
    have x1 := VM.out.c1
    have y0 := VA.out.c0
    have y1 := VA.out.c1
    go_wp2_with fail
    refine (join_c K gM nM cM (X ++ Y) gA nA cA X wn2 VM.out.ia VA.out.ia k1 k2).mono ?_
    rintro e wt ⟨gT, nT, cT, rfl, hI, hb⟩
    have VT := hidp (BV.new (K := K) hI)
    have hal := ba wt (.cells #[.int .i64 (K : Nat), .slice gT nT cT] 24)
    replace VA := hidp ((VA.out.below hb).below hal)
    replace VB := hidp ((VB.out.below hb).below hal)
    replace VJ := hidp ((VJ.out.below hb).below hal)
    replace VO := hidp ((VO.out.below hb).below hal)
    replace VM := hidp ((VM.out.below hb).below hal)
    replace VN := hidp ((VN.out.below hb).below hal)
    replace hbz := hidp (bstep (bstep hbz.out hb) hal)
    clear hI hb hal x0 x1 y0 y1
    unfold botV at *
    go_upto_region 14 with fail
    generalize (wt.alloc (.cells #[.int .i64 (K : Nat), .slice gT nT cT] 24)) = wt2 at *
    generalize wt.heap.size = PT at *
    have x0 := VM.out.c0
    have x1 := VM.out.c1
    have y0 := VJ.out.c0
    have y1 := VJ.out.c1
    go_wp2_with fail
    refine (samebot_c K gM gJ nM nJ cM dJ _ _ wt2 VM.out.ia VJ.out.ia rfl).mono ?_
    rintro e wa1 ⟨rfl, hb⟩
    replace VN := hidp (VN.out.below hb)
    replace VT := hidp (VT.out.below hb)
    replace VO := hidp (VO.out.below hb)
    replace VJ := hidp (VJ.out.below hb)
    replace hbz := hidp (bstep hbz.out hb)
    clear hb x0 x1 y0 y1
    have x0 := VN.out.c0
    have x1 := VN.out.c1
    have y0 := VJ.out.c0
    have y1 := VJ.out.c1
    go_wp2_with fail
    refine (samebot_c K gN gJ nN nJ cN dJ _ _ wa1 VN.out.ia VJ.out.ia (botL_ext K _ _ (ext_2 X Y))).mono ?_
    rintro e wa2 ⟨rfl, hb⟩
    replace VT := hidp (VT.out.below hb)
    replace VO := hidp (VO.out.below hb)
    replace VJ := hidp (VJ.out.below hb)
    replace hbz := hidp (bstep hbz.out hb)
    clear hb x0 x1 y0 y1
    have x0 := VT.out.c0
    have x1 := VT.out.c1
    have y0 := VJ.out.c0
    have y1 := VJ.out.c1
    go_wp2_with fail
    refine (samebot_c K gT gJ nT nJ cT dJ _ _ wa2 VT.out.ia VJ.out.ia (botL_ext K _ _ (ext_3 X Y))).mono ?_
    rintro e wa3 ⟨rfl, hb⟩
    replace VO := hidp (VO.out.below hb)
    replace VJ := hidp (VJ.out.below hb)
    replace hbz := hidp (bstep hbz.out hb)
    clear hb x0 x1 y0 y1
    have x0 := VO.out.c0
    have x1 := VO.out.c1
    have y0 := VJ.out.c0
    have y1 := VJ.out.c1
    go_wp2_with fail
    refine (samebot_c K gO gJ nO nJ cO dJ _ _ wa3 VO.out.ia VJ.out.ia (botL_ext K _ _ (ext_O X Y C))).mono ?_
    rintro e wa4 ⟨rfl, hb⟩
    replace hbz := hidp (bstep hbz.out hb)
    clear hb x0 x1 y0 y1
    go_wp2_with fail
    go_ret
    exact ⟨rfl, hbz.out⟩
end Go.Proofs.Ytlikpakjjaeblaa.bottomSame
