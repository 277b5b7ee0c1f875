/- The walk of SpanWhole: the law returns true at all inputs, and no old memory changes. -/
import Derived.Test.YtlkcdknbkchglaaSpans
import Derived.Test.YtlkcdknbkchglaaWhole
namespace Go.Proofs.Ytlkcdknbkchglaa.spanWhole
open Go.ChangeShapes Go.WideShapes Go.ChangeAt Go.RowKit
open Go.Proofs.Ytlkcdknbkchglaa

theorem ex1 : wholeB [-1, 0] [false, true] 2 = false := by decide +kernel
theorem ex2 : wholeB [-1, 0] [true, false] 2 = true := by decide +kernel
def pf (ks : List Bool) (i : Nat) : Bool := decide (i < ks.length) && gb ks i

/-- The plain law: what two wholes have in common, and what they have together, is whole. -/
theorem plain (us : List Int) (f g : Nat → Bool) (n : Nat) (hu : ∀ i, i < n → gi us i < i) :
    (!wholeB us (tab f n) n || !wholeB us (tab g n) n || (wholeB us (tab (fun i => f i && g i) n) n && wholeB us (tab (fun i => f i || g i) n) n)) = true := by
  cases h1 : wholeB us (tab f n) n
  · simp
  · cases h2 : wholeB us (tab g n) n
    · simp
    · rw [wholeB_iff] at h1 h2
      have e1 : wholeB us (tab (fun i => f i && g i) n) n = true := wholeB_true _ _ _ (fun i hi => by
        have a := h1 i hi
        have b := h2 i hi
        have hu' := hu i hi
        unfold wh1 at *
        rw [tab_gb _ _ _ hi] at *
        by_cases h0 : 0 ≤ gi us i
        · have hj : (gi us i).toNat < n := by omega
          rw [tab_gb _ _ _ hj] at *
          revert a b
          cases f i <;> cases g i <;> cases f (gi us i).toNat <;> cases g (gi us i).toNat <;> simp [h0]
        · simp [h0])
      have e2 : wholeB us (tab (fun i => f i || g i) n) n = true := wholeB_true _ _ _ (fun i hi => by
        have a := h1 i hi
        have b := h2 i hi
        have hu' := hu i hi
        unfold wh1 at *
        rw [tab_gb _ _ _ hi] at *
        by_cases h0 : 0 ≤ gi us i
        · have hj : (gi us i).toNat < n := by omega
          rw [tab_gb _ _ _ hj] at *
          revert a b
          cases f i <;> cases g i <;> cases f (gi us i).toNat <;> cases g (gi us i).toNat <;> simp [h0]
        · simp [h0])
      rw [e1, e2]; rfl

set_option linter.unusedVariables false
set_option maxRecDepth 100000 in
set_option maxHeartbeats 16000000 in
theorem walk (a0 : Option Addr) (len0 cap0 : Nat) (z0 : List (List Int)) (a1 : Option Addr) (len1 cap1 : Nat) (z1 : List Bool) (a2 : Option Addr) (len2 cap2 : Nat) (z2 : List Bool) (w : World)
    (w0 : RowsAt w a0 len0 cap0 z0) (w1 : BoolsAt w a1 len1 cap1 z1) (w2 : BoolsAt w a2 len2 cap2 z2) :
    Calls Try.prog 11 #[.slice a0 len0 cap0, .slice a1 len1 cap1, .slice a2 len2 cap2] w fun e w' => e = .returned (.bool true) ∧ Below w.heap.size w w' := by
  obtain ⟨b1, o1, hz1, hx1⟩ := w1.split
  obtain ⟨b2, o2, hz2, hx2⟩ := w2.split
  have hz1' : Hid (len1 = 0) ∨ a1 = some ⟨b1, o1, none⟩ := hz1.imp_left hidp
  have hz2' : Hid (len2 = 0) ∨ a2 = some ⟨b2, o2, none⟩ := hz2.imp_left hidp
  clear hz1 hz2
  have HX1 := hidp hx1
  have HX2 := hidp hx2
  have m1 := w1.max
  have m2 := w2.max
  have e1 := w1.le
  have e2 := w2.le
  have PL := hidp w1.len
  have QL := hidp w2.len
  clear hx1 hx2
  rcases hz1' with hz1 | rfl <;> rcases hz2' with hz2 | rfl
  all_goals
    go_enter Try.func11, Try.ntmps11
    go_wp2_with fail
    refine (whole_c _ _ _ _ _ [-1, 0] [0, 0] [false, true] _ ?s0 ?s1 (by omega) ?s2).mono ?_
    case s0 => exact (span_lit2 (-1) 0 0 0 (by rfl) (by rfl)).below (bal (Below.refl _ _) _)
    case s1 => exact bools_lit [false, true] (by simp) (by rfl) (by rfl) (by omega)
    case s2 => intro i hi; match i, hi with | 0, _ => decide | 1, _ => decide
    rintro e wa ⟨rfl, hba⟩
    rw [ex1]
    have hwa : Below w.heap.size w wa := bstep (bal (bal (Below.refl _ _) _) _) hba
    clear hba
    go_wp2_with fail
    refine (whole_c _ _ _ _ _ [-1, 0] [0, 0] [true, false] _ ?s3 ?s4 (by omega) ?s5).mono ?_
    case s3 => exact (span_lit2 (-1) 0 0 0 (by rfl) (by rfl)).below (bal (Below.refl _ _) _)
    case s4 => exact bools_lit [true, false] (by simp) (by rfl) (by rfl) (by omega)
    case s5 => intro i hi; match i, hi with | 0, _ => decide | 1, _ => decide
    rintro e wb ⟨rfl, hbb⟩
    rw [ex2]
    have hwb : Below w.heap.size w wb := bstep (bal (bal hwa _) _) hbb
    clear hbb hwa
    go_wp2_with fail
    refine (spans_c _ _ _ z0 3 _ (w0.below hwb) (by omega) (by omega)).mono ?_
    rintro e wc ⟨v, rfl, hv, hbc⟩
    have hwc : Below w.heap.size w wc := bstep hwb hbc
    have hN : min len0 40 ≤ 40 := by omega
    generalize min len0 40 = N at *
    obtain ⟨asp, csp, hve, has⟩ := owns_spans hv
    subst hve
    have HOK := hidp (spans_ok z0 3 (by omega) (by omega) N)
    have msp := hidp has.max
    clear hv hwb hbc
    go_wp2_with fail
    go_loopw [12, 13, 14, 15, 58] (fun x y b a i wr => ∃ k : Nat, k ≤ N ∧ i = .int .i64 k ∧ wr.ownsRow wc.heap.size 4 1 x k ((tab (pf z1) k).map Value.bool) ∧ wr.ownsRow wc.heap.size 4 1 y k ((tab (pf z2) k).map Value.bool) ∧ wr.ownsRow wc.heap.size 4 1 b k ((tab (fun i => pf z1 i && pf z2 i) k).map Value.bool) ∧ wr.ownsRow wc.heap.size 4 1 a k ((tab (fun i => pf z1 i || pf z2 i) k).map Value.bool) ∧ Apart x y ∧ Apart x b ∧ Apart x a ∧ Apart y b ∧ Apart y a ∧ Apart b a ∧ Below wc.heap.size wc wr) (fun _ _ _ _ i _ => N - (intOf i).toNat)
    case atStart => exact ⟨0, by omega, rfl, World.ownsRow_nil _ _ _ _, World.ownsRow_nil _ _ _ _, World.ownsRow_nil _ _ _ _, World.ownsRow_nil _ _ _ _, .inl rfl, .inl rfl, .inl rfl, .inl rfl, .inl rfl, .inl rfl, Below.refl _ _⟩
    case round =>
      obtain ⟨k, hk, rfl, hx, hy, hb, ha, apxy, apxb, apxa, apyb, apya, apba, hbl⟩ := hrel
      by_cases hlt : k < N
      · have hwr := bstep hwc hbl
        by_cases hP : k < len1 <;> by_cases hQ : k < len2
        · first
          | (exfalso; have := hz1.out; omega)
          | (exfalso; have := hz2.out; omega)
          | (
            have q1 := carry_cell (HX1.out k hP) hwr
            have q2 := carry_cell (HX2.out k hQ) hwr
            cases hx1 : gb z1 k
            · cases hx2 : gb z2 k
              · have P := hidp (show pf z1 k = false by unfold pf; rw [PL.out, hx1]; simp [hP])
                rw [hx1] at q1
                have Q := hidp (show pf z2 k = false by unfold pf; rw [QL.out, hx2]; simp [hQ])
                rw [hx2] at q2
                have dP : (k : Int) < (len1 : Int) := by omega
                clear hx1
                have dQ : (k : Int) < (len2 : Int) := by omega
                clear hx2
                go_wp2_with fail
                go_quiet (fail)
                have hbl := below_drewN hbl nq
                have hx : (wr.drewN nq).ownsRow wc.heap.size 4 1 _ k _ := hx
                have hy : (wr.drewN nq).ownsRow wc.heap.size 4 1 _ k _ := hy
                have hb : (wr.drewN nq).ownsRow wc.heap.size 4 1 _ k _ := hb
                have ha : (wr.drewN nq).ownsRow wc.heap.size 4 1 _ k _ := ha
                go_wp2_with (first | (at_builtin; refine wpList_append_new rfl (.tmp 81) (.tmp 83) 44 rfl wc.heap.size 4 _ 1 1 info_bool rfl (by decide) Try.underlying44 _ k _ rfl hx rfl (one_bool _) rfl rfl (by omega) (by decide) hbl.size ?_; intro v0 x0 nx g0 d0; have o0y := hy.kept g0 (apxy.symm); have o0b := hb.kept g0 (apxb.symm); have o0a := ha.kept g0 (apxa.symm); have p0xy := (apxy).grown hy d0; have p0xb := (apxb).grown hb d0; have p0xa := (apxa).grown ha d0; have bl0 := append_step hx hbl (Nat.le_refl _) g0; clear g0 d0 hy hb ha apxy apxb apxa hx hbl) | (at_builtin; refine wpList_append_new rfl (.tmp 85) (.tmp 87) 44 rfl wc.heap.size 4 _ 1 1 info_bool rfl (by decide) Try.underlying44 _ k _ rfl o0y rfl (one_bool _) rfl rfl (by omega) (by decide) bl0.size ?_; intro v1 x1 ny g1 d1; have o1x := nx.kept g1 (p0xy); have o1b := o0b.kept g1 (apyb.symm); have o1a := o0a.kept g1 (apya.symm); have p1xy := ((p0xy.symm).grown nx d1).symm; have p1yb := (apyb).grown o0b d1; have p1ya := (apya).grown o0a d1; have bl1 := append_step o0y bl0 (Nat.le_refl _) g1; clear g1 d1 nx o0b o0a p0xy apyb apya o0y bl0) | (at_builtin; refine wpList_append_new rfl (.tmp 89) (.tmp 94) 44 rfl wc.heap.size 4 _ 1 1 info_bool rfl (by decide) Try.underlying44 _ k _ rfl o1b rfl (one_bool _) rfl rfl (by omega) (by decide) bl1.size ?_; intro v2 x2 nb g2 d2; have o2x := o1x.kept g2 (p0xb); have o2y := ny.kept g2 (p1yb); have o2a := o1a.kept g2 (apba.symm); have p2xb := ((p0xb.symm).grown o1x d2).symm; have p2yb := ((p1yb.symm).grown ny d2).symm; have p2ba := (apba).grown o1a d2; have bl2 := append_step o1b bl1 (Nat.le_refl _) g2; clear g2 d2 o1x ny o1a p0xb p1yb apba o1b bl1) | (at_builtin; refine wpList_append_new rfl (.tmp 96) (.tmp 101) 44 rfl wc.heap.size 4 _ 1 1 info_bool rfl (by decide) Try.underlying44 _ k _ rfl o2a rfl (one_bool _) rfl rfl (by omega) (by decide) bl2.size ?_; intro v3 x3 na g3 d3; have o3x := o2x.kept g3 (p0xa); have o3y := o2y.kept g3 (p1ya); have o3b := nb.kept g3 (p2ba); have p3xa := ((p0xa.symm).grown o2x d3).symm; have p3ya := ((p1ya.symm).grown o2y d3).symm; have p3ba := ((p2ba.symm).grown nb d3).symm; have bl3 := append_step o2a bl2 (Nat.le_refl _) g3; clear g3 d3 o2x o2y nb p0xa p1ya p2ba o2a bl2))
                go_roundw
                case rel => exact ⟨k + 1, by omega, by go_num, by rw [tab_snoc, List.map_append, P.out]; exact o3x, by rw [tab_snoc, List.map_append, Q.out]; exact o3y, by rw [tab_snoc, List.map_append, P.out, Q.out]; exact o3b, by rw [tab_snoc, List.map_append, P.out, Q.out]; exact na, p1xy, p2xb, p3xa, p2yb, p3ya, p3ba, bl3⟩
                case measure => simp [intOf]; omega
              · have P := hidp (show pf z1 k = false by unfold pf; rw [PL.out, hx1]; simp [hP])
                rw [hx1] at q1
                have Q := hidp (show pf z2 k = true by unfold pf; rw [QL.out, hx2]; simp [hQ])
                rw [hx2] at q2
                have dP : (k : Int) < (len1 : Int) := by omega
                clear hx1
                have dQ : (k : Int) < (len2 : Int) := by omega
                clear hx2
                go_wp2_with fail
                go_quiet (fail)
                have hbl := below_drewN hbl nq
                have hx : (wr.drewN nq).ownsRow wc.heap.size 4 1 _ k _ := hx
                have hy : (wr.drewN nq).ownsRow wc.heap.size 4 1 _ k _ := hy
                have hb : (wr.drewN nq).ownsRow wc.heap.size 4 1 _ k _ := hb
                have ha : (wr.drewN nq).ownsRow wc.heap.size 4 1 _ k _ := ha
                go_wp2_with (first | (at_builtin; refine wpList_append_new rfl (.tmp 81) (.tmp 83) 44 rfl wc.heap.size 4 _ 1 1 info_bool rfl (by decide) Try.underlying44 _ k _ rfl hx rfl (one_bool _) rfl rfl (by omega) (by decide) hbl.size ?_; intro v0 x0 nx g0 d0; have o0y := hy.kept g0 (apxy.symm); have o0b := hb.kept g0 (apxb.symm); have o0a := ha.kept g0 (apxa.symm); have p0xy := (apxy).grown hy d0; have p0xb := (apxb).grown hb d0; have p0xa := (apxa).grown ha d0; have bl0 := append_step hx hbl (Nat.le_refl _) g0; clear g0 d0 hy hb ha apxy apxb apxa hx hbl) | (at_builtin; refine wpList_append_new rfl (.tmp 85) (.tmp 87) 44 rfl wc.heap.size 4 _ 1 1 info_bool rfl (by decide) Try.underlying44 _ k _ rfl o0y rfl (one_bool _) rfl rfl (by omega) (by decide) bl0.size ?_; intro v1 x1 ny g1 d1; have o1x := nx.kept g1 (p0xy); have o1b := o0b.kept g1 (apyb.symm); have o1a := o0a.kept g1 (apya.symm); have p1xy := ((p0xy.symm).grown nx d1).symm; have p1yb := (apyb).grown o0b d1; have p1ya := (apya).grown o0a d1; have bl1 := append_step o0y bl0 (Nat.le_refl _) g1; clear g1 d1 nx o0b o0a p0xy apyb apya o0y bl0) | (at_builtin; refine wpList_append_new rfl (.tmp 89) (.tmp 94) 44 rfl wc.heap.size 4 _ 1 1 info_bool rfl (by decide) Try.underlying44 _ k _ rfl o1b rfl (one_bool _) rfl rfl (by omega) (by decide) bl1.size ?_; intro v2 x2 nb g2 d2; have o2x := o1x.kept g2 (p0xb); have o2y := ny.kept g2 (p1yb); have o2a := o1a.kept g2 (apba.symm); have p2xb := ((p0xb.symm).grown o1x d2).symm; have p2yb := ((p1yb.symm).grown ny d2).symm; have p2ba := (apba).grown o1a d2; have bl2 := append_step o1b bl1 (Nat.le_refl _) g2; clear g2 d2 o1x ny o1a p0xb p1yb apba o1b bl1) | (at_builtin; refine wpList_append_new rfl (.tmp 96) (.tmp 101) 44 rfl wc.heap.size 4 _ 1 1 info_bool rfl (by decide) Try.underlying44 _ k _ rfl o2a rfl (one_bool _) rfl rfl (by omega) (by decide) bl2.size ?_; intro v3 x3 na g3 d3; have o3x := o2x.kept g3 (p0xa); have o3y := o2y.kept g3 (p1ya); have o3b := nb.kept g3 (p2ba); have p3xa := ((p0xa.symm).grown o2x d3).symm; have p3ya := ((p1ya.symm).grown o2y d3).symm; have p3ba := ((p2ba.symm).grown nb d3).symm; have bl3 := append_step o2a bl2 (Nat.le_refl _) g3; clear g3 d3 o2x o2y nb p0xa p1ya p2ba o2a bl2))
                go_roundw
                case rel => exact ⟨k + 1, by omega, by go_num, by rw [tab_snoc, List.map_append, P.out]; exact o3x, by rw [tab_snoc, List.map_append, Q.out]; exact o3y, by rw [tab_snoc, List.map_append, P.out, Q.out]; exact o3b, by rw [tab_snoc, List.map_append, P.out, Q.out]; exact na, p1xy, p2xb, p3xa, p2yb, p3ya, p3ba, bl3⟩
                case measure => simp [intOf]; omega
            · cases hx2 : gb z2 k
              · have P := hidp (show pf z1 k = true by unfold pf; rw [PL.out, hx1]; simp [hP])
                rw [hx1] at q1
                have Q := hidp (show pf z2 k = false by unfold pf; rw [QL.out, hx2]; simp [hQ])
                rw [hx2] at q2
                have dP : (k : Int) < (len1 : Int) := by omega
                clear hx1
                have dQ : (k : Int) < (len2 : Int) := by omega
                clear hx2
                go_wp2_with fail
                go_quiet (fail)
                have hbl := below_drewN hbl nq
                have hx : (wr.drewN nq).ownsRow wc.heap.size 4 1 _ k _ := hx
                have hy : (wr.drewN nq).ownsRow wc.heap.size 4 1 _ k _ := hy
                have hb : (wr.drewN nq).ownsRow wc.heap.size 4 1 _ k _ := hb
                have ha : (wr.drewN nq).ownsRow wc.heap.size 4 1 _ k _ := ha
                go_wp2_with (first | (at_builtin; refine wpList_append_new rfl (.tmp 81) (.tmp 83) 44 rfl wc.heap.size 4 _ 1 1 info_bool rfl (by decide) Try.underlying44 _ k _ rfl hx rfl (one_bool _) rfl rfl (by omega) (by decide) hbl.size ?_; intro v0 x0 nx g0 d0; have o0y := hy.kept g0 (apxy.symm); have o0b := hb.kept g0 (apxb.symm); have o0a := ha.kept g0 (apxa.symm); have p0xy := (apxy).grown hy d0; have p0xb := (apxb).grown hb d0; have p0xa := (apxa).grown ha d0; have bl0 := append_step hx hbl (Nat.le_refl _) g0; clear g0 d0 hy hb ha apxy apxb apxa hx hbl) | (at_builtin; refine wpList_append_new rfl (.tmp 85) (.tmp 87) 44 rfl wc.heap.size 4 _ 1 1 info_bool rfl (by decide) Try.underlying44 _ k _ rfl o0y rfl (one_bool _) rfl rfl (by omega) (by decide) bl0.size ?_; intro v1 x1 ny g1 d1; have o1x := nx.kept g1 (p0xy); have o1b := o0b.kept g1 (apyb.symm); have o1a := o0a.kept g1 (apya.symm); have p1xy := ((p0xy.symm).grown nx d1).symm; have p1yb := (apyb).grown o0b d1; have p1ya := (apya).grown o0a d1; have bl1 := append_step o0y bl0 (Nat.le_refl _) g1; clear g1 d1 nx o0b o0a p0xy apyb apya o0y bl0) | (at_builtin; refine wpList_append_new rfl (.tmp 89) (.tmp 94) 44 rfl wc.heap.size 4 _ 1 1 info_bool rfl (by decide) Try.underlying44 _ k _ rfl o1b rfl (one_bool _) rfl rfl (by omega) (by decide) bl1.size ?_; intro v2 x2 nb g2 d2; have o2x := o1x.kept g2 (p0xb); have o2y := ny.kept g2 (p1yb); have o2a := o1a.kept g2 (apba.symm); have p2xb := ((p0xb.symm).grown o1x d2).symm; have p2yb := ((p1yb.symm).grown ny d2).symm; have p2ba := (apba).grown o1a d2; have bl2 := append_step o1b bl1 (Nat.le_refl _) g2; clear g2 d2 o1x ny o1a p0xb p1yb apba o1b bl1) | (at_builtin; refine wpList_append_new rfl (.tmp 96) (.tmp 101) 44 rfl wc.heap.size 4 _ 1 1 info_bool rfl (by decide) Try.underlying44 _ k _ rfl o2a rfl (one_bool _) rfl rfl (by omega) (by decide) bl2.size ?_; intro v3 x3 na g3 d3; have o3x := o2x.kept g3 (p0xa); have o3y := o2y.kept g3 (p1ya); have o3b := nb.kept g3 (p2ba); have p3xa := ((p0xa.symm).grown o2x d3).symm; have p3ya := ((p1ya.symm).grown o2y d3).symm; have p3ba := ((p2ba.symm).grown nb d3).symm; have bl3 := append_step o2a bl2 (Nat.le_refl _) g3; clear g3 d3 o2x o2y nb p0xa p1ya p2ba o2a bl2))
                go_roundw
                case rel => exact ⟨k + 1, by omega, by go_num, by rw [tab_snoc, List.map_append, P.out]; exact o3x, by rw [tab_snoc, List.map_append, Q.out]; exact o3y, by rw [tab_snoc, List.map_append, P.out, Q.out]; exact o3b, by rw [tab_snoc, List.map_append, P.out, Q.out]; exact na, p1xy, p2xb, p3xa, p2yb, p3ya, p3ba, bl3⟩
                case measure => simp [intOf]; omega
              · have P := hidp (show pf z1 k = true by unfold pf; rw [PL.out, hx1]; simp [hP])
                rw [hx1] at q1
                have Q := hidp (show pf z2 k = true by unfold pf; rw [QL.out, hx2]; simp [hQ])
                rw [hx2] at q2
                have dP : (k : Int) < (len1 : Int) := by omega
                clear hx1
                have dQ : (k : Int) < (len2 : Int) := by omega
                clear hx2
                go_wp2_with fail
                go_quiet (fail)
                have hbl := below_drewN hbl nq
                have hx : (wr.drewN nq).ownsRow wc.heap.size 4 1 _ k _ := hx
                have hy : (wr.drewN nq).ownsRow wc.heap.size 4 1 _ k _ := hy
                have hb : (wr.drewN nq).ownsRow wc.heap.size 4 1 _ k _ := hb
                have ha : (wr.drewN nq).ownsRow wc.heap.size 4 1 _ k _ := ha
                go_wp2_with (first | (at_builtin; refine wpList_append_new rfl (.tmp 81) (.tmp 83) 44 rfl wc.heap.size 4 _ 1 1 info_bool rfl (by decide) Try.underlying44 _ k _ rfl hx rfl (one_bool _) rfl rfl (by omega) (by decide) hbl.size ?_; intro v0 x0 nx g0 d0; have o0y := hy.kept g0 (apxy.symm); have o0b := hb.kept g0 (apxb.symm); have o0a := ha.kept g0 (apxa.symm); have p0xy := (apxy).grown hy d0; have p0xb := (apxb).grown hb d0; have p0xa := (apxa).grown ha d0; have bl0 := append_step hx hbl (Nat.le_refl _) g0; clear g0 d0 hy hb ha apxy apxb apxa hx hbl) | (at_builtin; refine wpList_append_new rfl (.tmp 85) (.tmp 87) 44 rfl wc.heap.size 4 _ 1 1 info_bool rfl (by decide) Try.underlying44 _ k _ rfl o0y rfl (one_bool _) rfl rfl (by omega) (by decide) bl0.size ?_; intro v1 x1 ny g1 d1; have o1x := nx.kept g1 (p0xy); have o1b := o0b.kept g1 (apyb.symm); have o1a := o0a.kept g1 (apya.symm); have p1xy := ((p0xy.symm).grown nx d1).symm; have p1yb := (apyb).grown o0b d1; have p1ya := (apya).grown o0a d1; have bl1 := append_step o0y bl0 (Nat.le_refl _) g1; clear g1 d1 nx o0b o0a p0xy apyb apya o0y bl0) | (at_builtin; refine wpList_append_new rfl (.tmp 89) (.tmp 94) 44 rfl wc.heap.size 4 _ 1 1 info_bool rfl (by decide) Try.underlying44 _ k _ rfl o1b rfl (one_bool _) rfl rfl (by omega) (by decide) bl1.size ?_; intro v2 x2 nb g2 d2; have o2x := o1x.kept g2 (p0xb); have o2y := ny.kept g2 (p1yb); have o2a := o1a.kept g2 (apba.symm); have p2xb := ((p0xb.symm).grown o1x d2).symm; have p2yb := ((p1yb.symm).grown ny d2).symm; have p2ba := (apba).grown o1a d2; have bl2 := append_step o1b bl1 (Nat.le_refl _) g2; clear g2 d2 o1x ny o1a p0xb p1yb apba o1b bl1) | (at_builtin; refine wpList_append_new rfl (.tmp 96) (.tmp 101) 44 rfl wc.heap.size 4 _ 1 1 info_bool rfl (by decide) Try.underlying44 _ k _ rfl o2a rfl (one_bool _) rfl rfl (by omega) (by decide) bl2.size ?_; intro v3 x3 na g3 d3; have o3x := o2x.kept g3 (p0xa); have o3y := o2y.kept g3 (p1ya); have o3b := nb.kept g3 (p2ba); have p3xa := ((p0xa.symm).grown o2x d3).symm; have p3ya := ((p1ya.symm).grown o2y d3).symm; have p3ba := ((p2ba.symm).grown nb d3).symm; have bl3 := append_step o2a bl2 (Nat.le_refl _) g3; clear g3 d3 o2x o2y nb p0xa p1ya p2ba o2a bl2))
                go_roundw
                case rel => exact ⟨k + 1, by omega, by go_num, by rw [tab_snoc, List.map_append, P.out]; exact o3x, by rw [tab_snoc, List.map_append, Q.out]; exact o3y, by rw [tab_snoc, List.map_append, P.out, Q.out]; exact o3b, by rw [tab_snoc, List.map_append, P.out, Q.out]; exact na, p1xy, p2xb, p3xa, p2yb, p3ya, p3ba, bl3⟩
                case measure => simp [intOf]; omega)
        · first
          | (exfalso; have := hz1.out; omega)
          | (
            have q1 := carry_cell (HX1.out k hP) hwr
            cases hx1 : gb z1 k
            · have P := hidp (show pf z1 k = false by unfold pf; rw [PL.out, hx1]; simp [hP])
              rw [hx1] at q1
              have Q := hidp (show pf z2 k = false by unfold pf; rw [QL.out]; simp [hQ])
              have dP : (k : Int) < (len1 : Int) := by omega
              clear hx1
              have dQ : decide ((k : Int) < (len2 : Int)) = false := decide_eq_false (by omega)
              go_wp2_with fail
              go_quiet (fail)
              have hbl := below_drewN hbl nq
              have hx : (wr.drewN nq).ownsRow wc.heap.size 4 1 _ k _ := hx
              have hy : (wr.drewN nq).ownsRow wc.heap.size 4 1 _ k _ := hy
              have hb : (wr.drewN nq).ownsRow wc.heap.size 4 1 _ k _ := hb
              have ha : (wr.drewN nq).ownsRow wc.heap.size 4 1 _ k _ := ha
              go_wp2_with (first | (at_builtin; refine wpList_append_new rfl (.tmp 81) (.tmp 83) 44 rfl wc.heap.size 4 _ 1 1 info_bool rfl (by decide) Try.underlying44 _ k _ rfl hx rfl (one_bool _) rfl rfl (by omega) (by decide) hbl.size ?_; intro v0 x0 nx g0 d0; have o0y := hy.kept g0 (apxy.symm); have o0b := hb.kept g0 (apxb.symm); have o0a := ha.kept g0 (apxa.symm); have p0xy := (apxy).grown hy d0; have p0xb := (apxb).grown hb d0; have p0xa := (apxa).grown ha d0; have bl0 := append_step hx hbl (Nat.le_refl _) g0; clear g0 d0 hy hb ha apxy apxb apxa hx hbl) | (at_builtin; refine wpList_append_new rfl (.tmp 85) (.tmp 87) 44 rfl wc.heap.size 4 _ 1 1 info_bool rfl (by decide) Try.underlying44 _ k _ rfl o0y rfl (one_bool _) rfl rfl (by omega) (by decide) bl0.size ?_; intro v1 x1 ny g1 d1; have o1x := nx.kept g1 (p0xy); have o1b := o0b.kept g1 (apyb.symm); have o1a := o0a.kept g1 (apya.symm); have p1xy := ((p0xy.symm).grown nx d1).symm; have p1yb := (apyb).grown o0b d1; have p1ya := (apya).grown o0a d1; have bl1 := append_step o0y bl0 (Nat.le_refl _) g1; clear g1 d1 nx o0b o0a p0xy apyb apya o0y bl0) | (at_builtin; refine wpList_append_new rfl (.tmp 89) (.tmp 94) 44 rfl wc.heap.size 4 _ 1 1 info_bool rfl (by decide) Try.underlying44 _ k _ rfl o1b rfl (one_bool _) rfl rfl (by omega) (by decide) bl1.size ?_; intro v2 x2 nb g2 d2; have o2x := o1x.kept g2 (p0xb); have o2y := ny.kept g2 (p1yb); have o2a := o1a.kept g2 (apba.symm); have p2xb := ((p0xb.symm).grown o1x d2).symm; have p2yb := ((p1yb.symm).grown ny d2).symm; have p2ba := (apba).grown o1a d2; have bl2 := append_step o1b bl1 (Nat.le_refl _) g2; clear g2 d2 o1x ny o1a p0xb p1yb apba o1b bl1) | (at_builtin; refine wpList_append_new rfl (.tmp 96) (.tmp 101) 44 rfl wc.heap.size 4 _ 1 1 info_bool rfl (by decide) Try.underlying44 _ k _ rfl o2a rfl (one_bool _) rfl rfl (by omega) (by decide) bl2.size ?_; intro v3 x3 na g3 d3; have o3x := o2x.kept g3 (p0xa); have o3y := o2y.kept g3 (p1ya); have o3b := nb.kept g3 (p2ba); have p3xa := ((p0xa.symm).grown o2x d3).symm; have p3ya := ((p1ya.symm).grown o2y d3).symm; have p3ba := ((p2ba.symm).grown nb d3).symm; have bl3 := append_step o2a bl2 (Nat.le_refl _) g3; clear g3 d3 o2x o2y nb p0xa p1ya p2ba o2a bl2))
              go_roundw
              case rel => exact ⟨k + 1, by omega, by go_num, by rw [tab_snoc, List.map_append, P.out]; exact o3x, by rw [tab_snoc, List.map_append, Q.out]; exact o3y, by rw [tab_snoc, List.map_append, P.out, Q.out]; exact o3b, by rw [tab_snoc, List.map_append, P.out, Q.out]; exact na, p1xy, p2xb, p3xa, p2yb, p3ya, p3ba, bl3⟩
              case measure => simp [intOf]; omega
            · have P := hidp (show pf z1 k = true by unfold pf; rw [PL.out, hx1]; simp [hP])
              rw [hx1] at q1
              have Q := hidp (show pf z2 k = false by unfold pf; rw [QL.out]; simp [hQ])
              have dP : (k : Int) < (len1 : Int) := by omega
              clear hx1
              have dQ : decide ((k : Int) < (len2 : Int)) = false := decide_eq_false (by omega)
              go_wp2_with fail
              go_quiet (fail)
              have hbl := below_drewN hbl nq
              have hx : (wr.drewN nq).ownsRow wc.heap.size 4 1 _ k _ := hx
              have hy : (wr.drewN nq).ownsRow wc.heap.size 4 1 _ k _ := hy
              have hb : (wr.drewN nq).ownsRow wc.heap.size 4 1 _ k _ := hb
              have ha : (wr.drewN nq).ownsRow wc.heap.size 4 1 _ k _ := ha
              go_wp2_with (first | (at_builtin; refine wpList_append_new rfl (.tmp 81) (.tmp 83) 44 rfl wc.heap.size 4 _ 1 1 info_bool rfl (by decide) Try.underlying44 _ k _ rfl hx rfl (one_bool _) rfl rfl (by omega) (by decide) hbl.size ?_; intro v0 x0 nx g0 d0; have o0y := hy.kept g0 (apxy.symm); have o0b := hb.kept g0 (apxb.symm); have o0a := ha.kept g0 (apxa.symm); have p0xy := (apxy).grown hy d0; have p0xb := (apxb).grown hb d0; have p0xa := (apxa).grown ha d0; have bl0 := append_step hx hbl (Nat.le_refl _) g0; clear g0 d0 hy hb ha apxy apxb apxa hx hbl) | (at_builtin; refine wpList_append_new rfl (.tmp 85) (.tmp 87) 44 rfl wc.heap.size 4 _ 1 1 info_bool rfl (by decide) Try.underlying44 _ k _ rfl o0y rfl (one_bool _) rfl rfl (by omega) (by decide) bl0.size ?_; intro v1 x1 ny g1 d1; have o1x := nx.kept g1 (p0xy); have o1b := o0b.kept g1 (apyb.symm); have o1a := o0a.kept g1 (apya.symm); have p1xy := ((p0xy.symm).grown nx d1).symm; have p1yb := (apyb).grown o0b d1; have p1ya := (apya).grown o0a d1; have bl1 := append_step o0y bl0 (Nat.le_refl _) g1; clear g1 d1 nx o0b o0a p0xy apyb apya o0y bl0) | (at_builtin; refine wpList_append_new rfl (.tmp 89) (.tmp 94) 44 rfl wc.heap.size 4 _ 1 1 info_bool rfl (by decide) Try.underlying44 _ k _ rfl o1b rfl (one_bool _) rfl rfl (by omega) (by decide) bl1.size ?_; intro v2 x2 nb g2 d2; have o2x := o1x.kept g2 (p0xb); have o2y := ny.kept g2 (p1yb); have o2a := o1a.kept g2 (apba.symm); have p2xb := ((p0xb.symm).grown o1x d2).symm; have p2yb := ((p1yb.symm).grown ny d2).symm; have p2ba := (apba).grown o1a d2; have bl2 := append_step o1b bl1 (Nat.le_refl _) g2; clear g2 d2 o1x ny o1a p0xb p1yb apba o1b bl1) | (at_builtin; refine wpList_append_new rfl (.tmp 96) (.tmp 101) 44 rfl wc.heap.size 4 _ 1 1 info_bool rfl (by decide) Try.underlying44 _ k _ rfl o2a rfl (one_bool _) rfl rfl (by omega) (by decide) bl2.size ?_; intro v3 x3 na g3 d3; have o3x := o2x.kept g3 (p0xa); have o3y := o2y.kept g3 (p1ya); have o3b := nb.kept g3 (p2ba); have p3xa := ((p0xa.symm).grown o2x d3).symm; have p3ya := ((p1ya.symm).grown o2y d3).symm; have p3ba := ((p2ba.symm).grown nb d3).symm; have bl3 := append_step o2a bl2 (Nat.le_refl _) g3; clear g3 d3 o2x o2y nb p0xa p1ya p2ba o2a bl2))
              go_roundw
              case rel => exact ⟨k + 1, by omega, by go_num, by rw [tab_snoc, List.map_append, P.out]; exact o3x, by rw [tab_snoc, List.map_append, Q.out]; exact o3y, by rw [tab_snoc, List.map_append, P.out, Q.out]; exact o3b, by rw [tab_snoc, List.map_append, P.out, Q.out]; exact na, p1xy, p2xb, p3xa, p2yb, p3ya, p3ba, bl3⟩
              case measure => simp [intOf]; omega)
        · first
          | (exfalso; have := hz2.out; omega)
          | (
            have q2 := carry_cell (HX2.out k hQ) hwr
            cases hx2 : gb z2 k
            · have P := hidp (show pf z1 k = false by unfold pf; rw [PL.out]; simp [hP])
              have Q := hidp (show pf z2 k = false by unfold pf; rw [QL.out, hx2]; simp [hQ])
              rw [hx2] at q2
              have dP : decide ((k : Int) < (len1 : Int)) = false := decide_eq_false (by omega)
              have dQ : (k : Int) < (len2 : Int) := by omega
              clear hx2
              go_wp2_with fail
              go_quiet (fail)
              have hbl := below_drewN hbl nq
              have hx : (wr.drewN nq).ownsRow wc.heap.size 4 1 _ k _ := hx
              have hy : (wr.drewN nq).ownsRow wc.heap.size 4 1 _ k _ := hy
              have hb : (wr.drewN nq).ownsRow wc.heap.size 4 1 _ k _ := hb
              have ha : (wr.drewN nq).ownsRow wc.heap.size 4 1 _ k _ := ha
              go_wp2_with (first | (at_builtin; refine wpList_append_new rfl (.tmp 81) (.tmp 83) 44 rfl wc.heap.size 4 _ 1 1 info_bool rfl (by decide) Try.underlying44 _ k _ rfl hx rfl (one_bool _) rfl rfl (by omega) (by decide) hbl.size ?_; intro v0 x0 nx g0 d0; have o0y := hy.kept g0 (apxy.symm); have o0b := hb.kept g0 (apxb.symm); have o0a := ha.kept g0 (apxa.symm); have p0xy := (apxy).grown hy d0; have p0xb := (apxb).grown hb d0; have p0xa := (apxa).grown ha d0; have bl0 := append_step hx hbl (Nat.le_refl _) g0; clear g0 d0 hy hb ha apxy apxb apxa hx hbl) | (at_builtin; refine wpList_append_new rfl (.tmp 85) (.tmp 87) 44 rfl wc.heap.size 4 _ 1 1 info_bool rfl (by decide) Try.underlying44 _ k _ rfl o0y rfl (one_bool _) rfl rfl (by omega) (by decide) bl0.size ?_; intro v1 x1 ny g1 d1; have o1x := nx.kept g1 (p0xy); have o1b := o0b.kept g1 (apyb.symm); have o1a := o0a.kept g1 (apya.symm); have p1xy := ((p0xy.symm).grown nx d1).symm; have p1yb := (apyb).grown o0b d1; have p1ya := (apya).grown o0a d1; have bl1 := append_step o0y bl0 (Nat.le_refl _) g1; clear g1 d1 nx o0b o0a p0xy apyb apya o0y bl0) | (at_builtin; refine wpList_append_new rfl (.tmp 89) (.tmp 94) 44 rfl wc.heap.size 4 _ 1 1 info_bool rfl (by decide) Try.underlying44 _ k _ rfl o1b rfl (one_bool _) rfl rfl (by omega) (by decide) bl1.size ?_; intro v2 x2 nb g2 d2; have o2x := o1x.kept g2 (p0xb); have o2y := ny.kept g2 (p1yb); have o2a := o1a.kept g2 (apba.symm); have p2xb := ((p0xb.symm).grown o1x d2).symm; have p2yb := ((p1yb.symm).grown ny d2).symm; have p2ba := (apba).grown o1a d2; have bl2 := append_step o1b bl1 (Nat.le_refl _) g2; clear g2 d2 o1x ny o1a p0xb p1yb apba o1b bl1) | (at_builtin; refine wpList_append_new rfl (.tmp 96) (.tmp 101) 44 rfl wc.heap.size 4 _ 1 1 info_bool rfl (by decide) Try.underlying44 _ k _ rfl o2a rfl (one_bool _) rfl rfl (by omega) (by decide) bl2.size ?_; intro v3 x3 na g3 d3; have o3x := o2x.kept g3 (p0xa); have o3y := o2y.kept g3 (p1ya); have o3b := nb.kept g3 (p2ba); have p3xa := ((p0xa.symm).grown o2x d3).symm; have p3ya := ((p1ya.symm).grown o2y d3).symm; have p3ba := ((p2ba.symm).grown nb d3).symm; have bl3 := append_step o2a bl2 (Nat.le_refl _) g3; clear g3 d3 o2x o2y nb p0xa p1ya p2ba o2a bl2))
              go_roundw
              case rel => exact ⟨k + 1, by omega, by go_num, by rw [tab_snoc, List.map_append, P.out]; exact o3x, by rw [tab_snoc, List.map_append, Q.out]; exact o3y, by rw [tab_snoc, List.map_append, P.out, Q.out]; exact o3b, by rw [tab_snoc, List.map_append, P.out, Q.out]; exact na, p1xy, p2xb, p3xa, p2yb, p3ya, p3ba, bl3⟩
              case measure => simp [intOf]; omega
            · have P := hidp (show pf z1 k = false by unfold pf; rw [PL.out]; simp [hP])
              have Q := hidp (show pf z2 k = true by unfold pf; rw [QL.out, hx2]; simp [hQ])
              rw [hx2] at q2
              have dP : decide ((k : Int) < (len1 : Int)) = false := decide_eq_false (by omega)
              have dQ : (k : Int) < (len2 : Int) := by omega
              clear hx2
              go_wp2_with fail
              go_quiet (fail)
              have hbl := below_drewN hbl nq
              have hx : (wr.drewN nq).ownsRow wc.heap.size 4 1 _ k _ := hx
              have hy : (wr.drewN nq).ownsRow wc.heap.size 4 1 _ k _ := hy
              have hb : (wr.drewN nq).ownsRow wc.heap.size 4 1 _ k _ := hb
              have ha : (wr.drewN nq).ownsRow wc.heap.size 4 1 _ k _ := ha
              go_wp2_with (first | (at_builtin; refine wpList_append_new rfl (.tmp 81) (.tmp 83) 44 rfl wc.heap.size 4 _ 1 1 info_bool rfl (by decide) Try.underlying44 _ k _ rfl hx rfl (one_bool _) rfl rfl (by omega) (by decide) hbl.size ?_; intro v0 x0 nx g0 d0; have o0y := hy.kept g0 (apxy.symm); have o0b := hb.kept g0 (apxb.symm); have o0a := ha.kept g0 (apxa.symm); have p0xy := (apxy).grown hy d0; have p0xb := (apxb).grown hb d0; have p0xa := (apxa).grown ha d0; have bl0 := append_step hx hbl (Nat.le_refl _) g0; clear g0 d0 hy hb ha apxy apxb apxa hx hbl) | (at_builtin; refine wpList_append_new rfl (.tmp 85) (.tmp 87) 44 rfl wc.heap.size 4 _ 1 1 info_bool rfl (by decide) Try.underlying44 _ k _ rfl o0y rfl (one_bool _) rfl rfl (by omega) (by decide) bl0.size ?_; intro v1 x1 ny g1 d1; have o1x := nx.kept g1 (p0xy); have o1b := o0b.kept g1 (apyb.symm); have o1a := o0a.kept g1 (apya.symm); have p1xy := ((p0xy.symm).grown nx d1).symm; have p1yb := (apyb).grown o0b d1; have p1ya := (apya).grown o0a d1; have bl1 := append_step o0y bl0 (Nat.le_refl _) g1; clear g1 d1 nx o0b o0a p0xy apyb apya o0y bl0) | (at_builtin; refine wpList_append_new rfl (.tmp 89) (.tmp 94) 44 rfl wc.heap.size 4 _ 1 1 info_bool rfl (by decide) Try.underlying44 _ k _ rfl o1b rfl (one_bool _) rfl rfl (by omega) (by decide) bl1.size ?_; intro v2 x2 nb g2 d2; have o2x := o1x.kept g2 (p0xb); have o2y := ny.kept g2 (p1yb); have o2a := o1a.kept g2 (apba.symm); have p2xb := ((p0xb.symm).grown o1x d2).symm; have p2yb := ((p1yb.symm).grown ny d2).symm; have p2ba := (apba).grown o1a d2; have bl2 := append_step o1b bl1 (Nat.le_refl _) g2; clear g2 d2 o1x ny o1a p0xb p1yb apba o1b bl1) | (at_builtin; refine wpList_append_new rfl (.tmp 96) (.tmp 101) 44 rfl wc.heap.size 4 _ 1 1 info_bool rfl (by decide) Try.underlying44 _ k _ rfl o2a rfl (one_bool _) rfl rfl (by omega) (by decide) bl2.size ?_; intro v3 x3 na g3 d3; have o3x := o2x.kept g3 (p0xa); have o3y := o2y.kept g3 (p1ya); have o3b := nb.kept g3 (p2ba); have p3xa := ((p0xa.symm).grown o2x d3).symm; have p3ya := ((p1ya.symm).grown o2y d3).symm; have p3ba := ((p2ba.symm).grown nb d3).symm; have bl3 := append_step o2a bl2 (Nat.le_refl _) g3; clear g3 d3 o2x o2y nb p0xa p1ya p2ba o2a bl2))
              go_roundw
              case rel => exact ⟨k + 1, by omega, by go_num, by rw [tab_snoc, List.map_append, P.out]; exact o3x, by rw [tab_snoc, List.map_append, Q.out]; exact o3y, by rw [tab_snoc, List.map_append, P.out, Q.out]; exact o3b, by rw [tab_snoc, List.map_append, P.out, Q.out]; exact na, p1xy, p2xb, p3xa, p2yb, p3ya, p3ba, bl3⟩
              case measure => simp [intOf]; omega)
        · first
          | (
            have P := hidp (show pf z1 k = false by unfold pf; rw [PL.out]; simp [hP])
            have Q := hidp (show pf z2 k = false by unfold pf; rw [QL.out]; simp [hQ])
            have dP : decide ((k : Int) < (len1 : Int)) = false := decide_eq_false (by omega)
            have dQ : decide ((k : Int) < (len2 : Int)) = false := decide_eq_false (by omega)
            go_wp2_with fail
            go_quiet (fail)
            have hbl := below_drewN hbl nq
            have hx : (wr.drewN nq).ownsRow wc.heap.size 4 1 _ k _ := hx
            have hy : (wr.drewN nq).ownsRow wc.heap.size 4 1 _ k _ := hy
            have hb : (wr.drewN nq).ownsRow wc.heap.size 4 1 _ k _ := hb
            have ha : (wr.drewN nq).ownsRow wc.heap.size 4 1 _ k _ := ha
            go_wp2_with (first | (at_builtin; refine wpList_append_new rfl (.tmp 81) (.tmp 83) 44 rfl wc.heap.size 4 _ 1 1 info_bool rfl (by decide) Try.underlying44 _ k _ rfl hx rfl (one_bool _) rfl rfl (by omega) (by decide) hbl.size ?_; intro v0 x0 nx g0 d0; have o0y := hy.kept g0 (apxy.symm); have o0b := hb.kept g0 (apxb.symm); have o0a := ha.kept g0 (apxa.symm); have p0xy := (apxy).grown hy d0; have p0xb := (apxb).grown hb d0; have p0xa := (apxa).grown ha d0; have bl0 := append_step hx hbl (Nat.le_refl _) g0; clear g0 d0 hy hb ha apxy apxb apxa hx hbl) | (at_builtin; refine wpList_append_new rfl (.tmp 85) (.tmp 87) 44 rfl wc.heap.size 4 _ 1 1 info_bool rfl (by decide) Try.underlying44 _ k _ rfl o0y rfl (one_bool _) rfl rfl (by omega) (by decide) bl0.size ?_; intro v1 x1 ny g1 d1; have o1x := nx.kept g1 (p0xy); have o1b := o0b.kept g1 (apyb.symm); have o1a := o0a.kept g1 (apya.symm); have p1xy := ((p0xy.symm).grown nx d1).symm; have p1yb := (apyb).grown o0b d1; have p1ya := (apya).grown o0a d1; have bl1 := append_step o0y bl0 (Nat.le_refl _) g1; clear g1 d1 nx o0b o0a p0xy apyb apya o0y bl0) | (at_builtin; refine wpList_append_new rfl (.tmp 89) (.tmp 94) 44 rfl wc.heap.size 4 _ 1 1 info_bool rfl (by decide) Try.underlying44 _ k _ rfl o1b rfl (one_bool _) rfl rfl (by omega) (by decide) bl1.size ?_; intro v2 x2 nb g2 d2; have o2x := o1x.kept g2 (p0xb); have o2y := ny.kept g2 (p1yb); have o2a := o1a.kept g2 (apba.symm); have p2xb := ((p0xb.symm).grown o1x d2).symm; have p2yb := ((p1yb.symm).grown ny d2).symm; have p2ba := (apba).grown o1a d2; have bl2 := append_step o1b bl1 (Nat.le_refl _) g2; clear g2 d2 o1x ny o1a p0xb p1yb apba o1b bl1) | (at_builtin; refine wpList_append_new rfl (.tmp 96) (.tmp 101) 44 rfl wc.heap.size 4 _ 1 1 info_bool rfl (by decide) Try.underlying44 _ k _ rfl o2a rfl (one_bool _) rfl rfl (by omega) (by decide) bl2.size ?_; intro v3 x3 na g3 d3; have o3x := o2x.kept g3 (p0xa); have o3y := o2y.kept g3 (p1ya); have o3b := nb.kept g3 (p2ba); have p3xa := ((p0xa.symm).grown o2x d3).symm; have p3ya := ((p1ya.symm).grown o2y d3).symm; have p3ba := ((p2ba.symm).grown nb d3).symm; have bl3 := append_step o2a bl2 (Nat.le_refl _) g3; clear g3 d3 o2x o2y nb p0xa p1ya p2ba o2a bl2))
            go_roundw
            case rel => exact ⟨k + 1, by omega, by go_num, by rw [tab_snoc, List.map_append, P.out]; exact o3x, by rw [tab_snoc, List.map_append, Q.out]; exact o3y, by rw [tab_snoc, List.map_append, P.out, Q.out]; exact o3b, by rw [tab_snoc, List.map_append, P.out, Q.out]; exact na, p1xy, p2xb, p3xa, p2yb, p3ya, p3ba, bl3⟩
            case measure => simp [intOf]; omega)
      · obtain rfl : k = N := by omega
        obtain ⟨ax, cx, hxe, hax⟩ := owns_bools hx
        obtain ⟨ay, cy, hye, hay⟩ := owns_bools hy
        obtain ⟨ab, cb, hbe, hab⟩ := owns_bools hb
        obtain ⟨aa, ca, hae, haa⟩ := owns_bools ha
        subst hxe hye hbe hae
        clear hx hy hb ha apxy apxb apxa apyb apya apba
        have PL2 := hidp (plain (tab (upf z0) k) (pf z1) (pf z2) k (fun i hi => by rw [tab_gi _ _ _ hi]; have := upf_bd z0 i; omega))
        go_wp2_with fail
        refine (whole_c _ _ _ _ _ _ _ _ _ (has.below hbl) hax hN HOK.out).mono ?_
        rintro e w1' ⟨rfl, h1'⟩
        go_wp2_with fail
        refine (whole_c _ _ _ _ _ _ _ _ _ ((has.below hbl).below h1') (hay.below h1') hN HOK.out).mono ?_
        rintro e w2' ⟨rfl, h2'⟩
        go_wp2_with fail
        refine (whole_c _ _ _ _ _ _ _ _ _ (((has.below hbl).below h1').below h2') ((hab.below h1').below h2') hN HOK.out).mono ?_
        rintro e w3' ⟨rfl, h3'⟩
        go_wp2_with fail
        refine (whole_c _ _ _ _ _ _ _ _ _ ((((has.below hbl).below h1').below h2').below h3') (((haa.below h1').below h2').below h3') hN HOK.out).mono ?_
        rintro e w4' ⟨rfl, h4'⟩
        have hz : Below w.heap.size w w4' := bstep (bstep (bstep (bstep (bstep hwc hbl) h1') h2') h3') h4'
        have PLL := PL2.out
        revert PLL
        generalize wholeB (tab (upf z0) k) (tab (pf z1) k) k = B1
        generalize wholeB (tab (upf z0) k) (tab (pf z2) k) k = B2
        generalize wholeB (tab (upf z0) k) (tab (fun i => pf z1 i && pf z2 i) k) k = B3
        generalize wholeB (tab (upf z0) k) (tab (fun i => pf z1 i || pf z2 i) k) k = B4
        intro PLL
        cases B1 <;> cases B2 <;> cases B3 <;> cases B4 <;> first
          | (exfalso; simp at PLL; done)
          | (clear PLL; go_wp2; go_ret; exact ⟨rfl, hz⟩)
end Go.Proofs.Ytlkcdknbkchglaa.spanWhole
