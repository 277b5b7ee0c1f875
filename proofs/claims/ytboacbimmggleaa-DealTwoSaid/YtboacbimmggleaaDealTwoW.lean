/- The walk of DealTwo: the law returns true at all inputs, and no old memory changes. -/
import Derived.Test.YtboacbimmggleaaDeal
import Derived.Test.YtboacbimmggleaaEqI
namespace Go.Proofs.Ytboacbimmggleaa.dealTwo
open Go.ChangeShapes Go.WideShapes Go.ChangeAt Go.RowKit
open Go.Proofs.Ytboacbimmggleaa

theorem ex1 : (tab (dealF [7, 8, 9] [0, 1, 0] 3) 3).map (Value.int .i64) = [9, 8, 7].map (Value.int .i64) := by
  rw [show tab (dealF [7, 8, 9] [0, 1, 0] 3) 3 = [9, 8, 7] from by decide +kernel]
def df (ds : List Int) (i : Nat) : Int := if i < ds.length then wi (gi ds i) ((i : Int) + 1) else 0def lf (ds : List Int) (p : Nat) (A : Int) (i : Nat) : Int := if i = p then A else df ds i
theorem df_bd (ds : List Int) (i : Nat) : 0 ≤ df ds i ∧ df ds i ≤ i := by
  unfold df
  have := wi_lo (gi ds i) ((i : Int) + 1) (by omega)
  have := wi_hi (gi ds i) ((i : Int) + 1) (by omega)
  split <;> omega
theorem gi_any (xs : List Int) (h : ∀ x ∈ xs, -9223372036854775808 ≤ x ∧ x ≤ 9223372036854775807) (i : Nat) : -9223372036854775808 ≤ gi xs i ∧ gi xs i ≤ 9223372036854775807 := by
  unfold gi
  rw [List.getD_eq_getElem?_getD]
  cases hi : xs[i]? with
  | none => simp
  | some x => exact h x (List.mem_of_getElem? hi)
theorem dealF_wf (xs ds : List Int) (h : ∀ x ∈ xs, -9223372036854775808 ≤ x ∧ x ≤ 9223372036854775807) : ∀ k j, -9223372036854775808 ≤ dealF xs ds k j ∧ dealF xs ds k j ≤ 9223372036854775807
  | 0, j => gi_any xs h j
  | k + 1, j => by
    simp only [dealF]
    unfold swp
    split
    · exact dealF_wf xs ds h k _
    · split <;> exact dealF_wf xs ds h k _
theorem deal_wf {xs ds : List Int} {n : Nat} (h : ∀ x ∈ xs, -9223372036854775808 ≤ x ∧ x ≤ 9223372036854775807) : ∀ x ∈ tab (dealF xs ds n) n, -9223372036854775808 ≤ x ∧ x ≤ 9223372036854775807 := fun x hx => by
  obtain ⟨i, _, rfl⟩ := tab_mem _ _ _ hx
  exact dealF_wf xs ds h n i
theorem dealF_congr (xs d e : List Int) : ∀ k, (∀ i, i < k → gi d i = gi e i) → dealF xs d k = dealF xs e k
  | 0, _ => rfl
  | k + 1, h => by
    simp only [dealF]
    rw [dealF_congr xs d e k (fun i hi => h i (by omega)), h k (by omega)]
/-- At how many of the first k places two functions part. -/
def cnt (F G : Nat → Int) : Nat → Int
  | 0 => 0
  | k + 1 => cnt F G k + if F k = G k then 0 else 1
theorem cnt_bd (F G : Nat → Int) (a b c : Nat) (h : ∀ j, j ≠ a → j ≠ b → j ≠ c → F j = G j) : ∀ k, 0 ≤ cnt F G k ∧ cnt F G k ≤ (if a < k then 1 else 0) + (if b < k then 1 else 0) + (if c < k then 1 else 0)
  | 0 => by simp [cnt]
  | k + 1 => by
    have ih := cnt_bd F G a b c h k
    simp only [cnt]
    have hk := h k
    by_cases e : F k = G k
    · rw [if_pos e]; split at ih <;> split at ih <;> split at ih <;> (repeat (first | rw [if_pos (by omega)] | rw [if_neg (by omega)])) <;> first | omega | (split <;> split <;> split <;> omega)
    · rw [if_neg e]
      have : k = a ∨ k = b ∨ k = c := by
        by_cases h1 : k = a
        · exact .inl h1
        · by_cases h2 : k = b
          · exact .inr (.inl h2)
          · by_cases h3 : k = c
            · exact .inr (.inr h3)
            · exact absurd (hk h1 h2 h3) e
      split at ih <;> split at ih <;> split at ih <;> split <;> split <;> split <;> omega
/-- The plain law: at most three places part. -/
theorem plain (xs ds : List Int) (p : Nat) (A B : Int) (k : Nat) : 0 ≤ cnt (dealF xs (tab (lf ds p A) (p + 1)) (p + 1)) (dealF xs (tab (lf ds p B) (p + 1)) (p + 1)) k ∧ cnt (dealF xs (tab (lf ds p A) (p + 1)) (p + 1)) (dealF xs (tab (lf ds p B) (p + 1)) (p + 1)) k ≤ 3 := by
  have hc : dealF xs (tab (lf ds p A) (p + 1)) p = dealF xs (tab (lf ds p B) (p + 1)) p := dealF_congr _ _ _ _ (fun i hi => by
    rw [tab_gi _ _ _ (by omega), tab_gi _ _ _ (by omega)]; unfold lf; rw [if_neg (by omega), if_neg (by omega)])
  have h := cnt_bd (dealF xs (tab (lf ds p A) (p + 1)) (p + 1)) (dealF xs (tab (lf ds p B) (p + 1)) (p + 1)) p A.toNat B.toNat (fun j h1 h2 h3 => by
    simp only [dealF]
    rw [tab_gi _ _ _ (by omega), tab_gi _ _ _ (by omega), hc]
    unfold swp lf
    rw [if_neg h1, if_neg h1, if_pos rfl, if_pos rfl, if_neg h2, if_neg h3]) k
  refine ⟨h.1, Int.le_trans h.2 ?_⟩
  split <;> split <;> split <;> omega

set_option linter.unusedVariables false
set_option maxHeartbeats 2000000 in
theorem walk (a0 : Option Addr) (len0 cap0 : Nat) (z0 : List Int) (a1 : Option Addr) (len1 cap1 : Nat) (z1 : List Int) (a2 : Int) (a3 : Int) (w : World)
    (w0 : IntsAt w a0 len0 cap0 z0) (w1 : IntsAt w a1 len1 cap1 z1) (w2 : (Lit.int .i64 a2).wf = true) (w3 : (Lit.int .i64 a3).wf = true) :
    Calls Try.prog 4 #[.slice a0 len0 cap0, .slice a1 len1 cap1, .int .i64 a2, .int .i64 a3] w fun e w' => e = .returned (.bool true) ∧ Below w.heap.size w w' := by
  obtain ⟨b1, o1, hz1, hx1⟩ := w1.split
  have hz1' : Hid (len1 = 0) ∨ a1 = some ⟨b1, o1, none⟩ := hz1.imp_left hidp
  have HX1 := hidp hx1
  have L1 := hidp w1.len
  have mm := w0.max
  have ee := w0.le
  have mm1 := w1.max
  have ee1 := w1.le
  clear hx1 hz1 w2 w3 w1
  rcases Nat.eq_zero_or_pos len0 with hn0 | hn0
  · subst hn0
    clear w0 hz1'
    go_enter Try.func4, Try.ntmps4
    go_wp2_with fail
    refine (deal_c _ _ 3 3 3 [7, 8, 9] [0, 1, 0] _ ?s0 ?s1 (by omega) ?s2).mono ?_
    case s0 => exact (ints_lit [7, 8, 9] (by simp) (by rfl) (by rfl) (by simp) (by omega)).alloc _
    case s1 => exact ints_lit [0, 1, 0] (by simp) (by rfl) (by rfl) (by simp) (by omega)
    case s2 => intro i hi; match i, hi with | 0, _ => decide | 1, _ => decide | 2, _ => decide
    rintro e wa ⟨v, rfl, hv, hba⟩
    rw [ex1] at hv
    obtain ⟨av, cv, hve, hav⟩ := owns_ints hv (by simp)
    subst hve
    clear hv
    go_wp2_with fail
    refine (equali_c _ _ 3 3 _ _ [9, 8, 7] [9, 8, 7] _ (hav.alloc _) ?s3).mono ?_
    case s3 => exact ints_lit [9, 8, 7] (by rfl) (by rfl) (by rfl) (by simp) (by omega)
    rintro e wb ⟨rfl, hbb⟩
    have hwb : Below w.heap.size w wb := bstep (bal (bstep (bal (bal (Below.refl _ _) _) _) hba) _) hbb
    go_wp2_with fail
    first | go_ret | skip
    exact ⟨rfl, hwb⟩
  · obtain ⟨M, hM⟩ : ∃ M, len0 = M + 1 := ⟨len0 - 1, by omega⟩
    subst hM
    have hM0 : ((M : Int) + 1 == 0) = false := by rw [beq_eq_false_iff_ne]; omega
    by_cases h12 : M + 1 ≤ 12
    · have w0' := w0.take (M + 1) (Nat.le_refl _)
      clear w0
      rcases hz1' with hz1 | rfl
      all_goals
        go_enter Try.func4, Try.ntmps4
        go_wp2_with fail
        refine (deal_c _ _ 3 3 3 [7, 8, 9] [0, 1, 0] _ ?s0 ?s1 (by omega) ?s2).mono ?_
        case s0 => exact (ints_lit [7, 8, 9] (by simp) (by rfl) (by rfl) (by simp) (by omega)).alloc _
        case s1 => exact ints_lit [0, 1, 0] (by simp) (by rfl) (by rfl) (by simp) (by omega)
        case s2 => intro i hi; match i, hi with | 0, _ => decide | 1, _ => decide | 2, _ => decide
        rintro e wa ⟨v, rfl, hv, hba⟩
        rw [ex1] at hv
        obtain ⟨av, cv, hve, hav⟩ := owns_ints hv (by simp)
        subst hve
        clear hv
        go_wp2_with fail
        refine (equali_c _ _ 3 3 _ _ [9, 8, 7] [9, 8, 7] _ (hav.alloc _) ?s3).mono ?_
        case s3 => exact ints_lit [9, 8, 7] (by rfl) (by rfl) (by rfl) (by simp) (by omega)
        rintro e wb ⟨rfl, hbb⟩
        have hwb : Below w.heap.size w wb := bstep (bal (bstep (bal (bal (Below.refl _ _) _) _) hba) _) hbb
        have W0 := hidp (w0'.below hwb)
        clear hba hbb hav w0'
        go_wp2_with fail
        go_loopw [11, 12, 45] (fun o t i wr => ∃ k : Nat, k ≤ (M + 1) ∧ i = .int .i64 k ∧ wr.ownsRow wb.heap.size 3 1 o k ((tab (df z1) k).map (Value.int .i64)) ∧ wr.ownsRow wb.heap.size 3 1 t k ((tab (df z1) k).map (Value.int .i64)) ∧ Apart o t ∧ Below wb.heap.size wb wr) (fun _ _ i _ => (M + 1) - (intOf i).toNat)
        case atStart => exact ⟨0, by omega, rfl, World.ownsRow_nil _ _ _ _, World.ownsRow_nil _ _ _ _, .inl rfl, Below.refl _ _⟩
        case round =>
          obtain ⟨k, hk, rfl, ho, ht, apot, hbl⟩ := hrel
          by_cases hlt : k < (M + 1)
          · by_cases hk1 : k < len1
            · first
              | (exfalso; have := hz1.out; omega)
              | (
              have q1 := carry_cell (HX1.out k hk1) (bstep hwb hbl)
              have q2 := wi_lo (gi z1 k) ((k : Int) + 1) (by omega)
              have q3 := wi_hi (gi z1 k) ((k : Int) + 1) (by omega)
              have DF := hidp (show df z1 k = wi (gi z1 k) ((k : Int) + 1) by unfold df; rw [if_pos (by rw [L1.out]; omega)])
              go_wp2_with (first | (at_builtin; refine wpList_append_new rfl (.tmp 59) (.tmp 61) 22 rfl wb.heap.size 3 _ 1 8 info_int rfl (by decide) Try.underlying22 _ k _ rfl ho rfl (one_int _ _) rfl rfl (by omega) (by decide) hbl.size ?_; intro v0 x0 no g0 d0; have o0t := ht.kept g0 (apot.symm); have p0ot := (apot).grown ht d0; have bl0 := append_step ho hbl (Nat.le_refl _) g0; clear g0 d0 ht apot ho hbl) | (at_builtin; refine wpList_append_new rfl (.tmp 63) (.tmp 65) 22 rfl wb.heap.size 3 _ 1 8 info_int rfl (by decide) Try.underlying22 _ k _ rfl o0t rfl (one_int _ _) rfl rfl (by omega) (by decide) bl0.size ?_; intro v1 x1 nt g1 d1; have o1o := no.kept g1 (p0ot); have p1ot := ((p0ot.symm).grown no d1).symm; have bl1 := append_step o0t bl0 (Nat.le_refl _) g1; clear g1 d1 no p0ot o0t bl0) | (go_at_call 17; refine (within_c _ _ (by omega) (by omega) _).mono ?_; rintro e w' ⟨rfl, rfl⟩))
              go_roundw
              case rel => exact ⟨k + 1, by omega, by go_num, by rw [tab_snoc, List.map_append, DF.out]; exact o1o, by rw [tab_snoc, List.map_append, DF.out]; exact nt, p1ot, bl1⟩
              case measure => simp [intOf]; omega)
            · (
              have DF := hidp (show df z1 k = 0 by unfold df; rw [if_neg (by rw [L1.out]; omega)])
              go_wp2_with (first | (at_builtin; refine wpList_append_new rfl (.tmp 59) (.tmp 61) 22 rfl wb.heap.size 3 _ 1 8 info_int rfl (by decide) Try.underlying22 _ k _ rfl ho rfl (one_int _ _) rfl rfl (by omega) (by decide) hbl.size ?_; intro v0 x0 no g0 d0; have o0t := ht.kept g0 (apot.symm); have p0ot := (apot).grown ht d0; have bl0 := append_step ho hbl (Nat.le_refl _) g0; clear g0 d0 ht apot ho hbl) | (at_builtin; refine wpList_append_new rfl (.tmp 63) (.tmp 65) 22 rfl wb.heap.size 3 _ 1 8 info_int rfl (by decide) Try.underlying22 _ k _ rfl o0t rfl (one_int _ _) rfl rfl (by omega) (by decide) bl0.size ?_; intro v1 x1 nt g1 d1; have o1o := no.kept g1 (p0ot); have p1ot := ((p0ot.symm).grown no d1).symm; have bl1 := append_step o0t bl0 (Nat.le_refl _) g1; clear g1 d1 no p0ot o0t bl0) | (go_at_call 17; refine (within_c _ _ (by omega) (by omega) _).mono ?_; rintro e w' ⟨rfl, rfl⟩))
              go_roundw
              case rel => exact ⟨k + 1, by omega, by go_num, by rw [tab_snoc, List.map_append, DF.out]; exact o1o, by rw [tab_snoc, List.map_append, DF.out]; exact nt, p1ot, bl1⟩
              case measure => simp [intOf]; omega)
          · obtain rfl : k = (M + 1) := by omega
            obtain ⟨g1, m1', h1e, h1B, h1l, h1n, h1c⟩ := owns_addr ho (by omega)
            obtain ⟨g2, m2', h2e, h2B, h2l, h2n, h2c⟩ := owns_addr ht (by omega)
            subst h1e h2e
            have hne : g1 ≠ g2 := by
              rcases apot with h | h
              · simp [Value.ownBlock] at h
              · intro e; apply h; rw [e]; rfl
            have x1 := wi_lo a2 ((M + 1) : Int) (by omega)
            have x2 := wi_hi a2 ((M + 1) : Int) (by omega)
            have x3 := wi_lo a3 ((M + 1) : Int) (by omega)
            have x4 := wi_hi a3 ((M + 1) : Int) (by omega)
            have q5 : wr.cell? ⟨g1, M, none⟩ = some (.int .i64 (df z1 M)) := by rw [ho.cellAt _ (by omega), tab_map, tab_get _ _ _ (by omega)]
            have q6 : wr.cell? ⟨g2, M, none⟩ = some (.int .i64 (df z1 M)) := by rw [ht.cellAt _ (by omega), tab_map, tab_get _ _ _ (by omega)]
            have q7 := ho.frozenAt (M)
            have q8 := ht.frozenAt (M)
            go_wp2_with (go_at_call 17; refine (within_c _ _ (by omega) (by omega) _).mono ?_; rintro e w' ⟨rfl, rfl⟩)
            rw [tab_map] at ho ht
            have em : ∀ A, tab (fun i => if i = M then Value.int .i64 A else Value.int .i64 (df z1 i)) ((M + 1)) = (tab (lf z1 (M) A) ((M + 1))).map (Value.int .i64) := fun A => by
              rw [tab_map]
              exact tab_congr _ _ _ (fun i _ => by unfold lf; split <;> rfl)
            have s1 := own_store_tab ho (M) (.int .i64 (wi a2 ((M + 1) : Int)))
            have g1r := (ho.stored (M) (.int .i64 (wi a2 ((M + 1) : Int)))).2
            have t1 := ht.kept g1r (.inr (by simp [Value.ownBlock]; exact fun e => hne e.symm))
            have s2 := own_store_tab t1 (M) (.int .i64 (wi a3 ((M + 1) : Int)))
            have g2r := (t1.stored (M) (.int .i64 (wi a3 ((M + 1) : Int)))).2
            have s1' := s1.kept g2r (.inr (by simp [Value.ownBlock]; exact hne))
            rw [em] at s1' s2
            have hb2 : Below wb.heap.size wb ((wr.setCell ⟨g1, M, none⟩ (.int .i64 (wi a2 ((M + 1) : Int)))).setCell ⟨g2, M, none⟩ (.int .i64 (wi a3 ((M + 1) : Int)))) := (hbl.setCell (p := ⟨g1, M, none⟩) h1B _).setCell (p := ⟨g2, M, none⟩) h2B _
            generalize (wr.setCell ⟨g1, M, none⟩ (.int .i64 (wi a2 ((M + 1) : Int)))).setCell ⟨g2, M, none⟩ (.int .i64 (wi a3 ((M + 1) : Int))) = wd at *
            have B1 : ∀ i, i < (M + 1) → 0 ≤ lf z1 (M) (wi a2 ((M + 1) : Int)) i ∧ lf z1 (M) (wi a2 ((M + 1) : Int)) i ≤ i := fun i hi => by
              unfold lf; have := df_bd z1 i; split <;> omega
            have B2 : ∀ i, i < (M + 1) → 0 ≤ lf z1 (M) (wi a3 ((M + 1) : Int)) i ∧ lf z1 (M) (wi a3 ((M + 1) : Int)) i ≤ i := fun i hi => by
              unfold lf; have := df_bd z1 i; split <;> omega
            obtain ⟨_, _, e1, i1⟩ := owns_ints s1' (fun x hx => by obtain ⟨i, hi, rfl⟩ := tab_mem _ _ _ hx; have := B1 i hi; omega)
            obtain ⟨_, _, e2, i2⟩ := owns_ints s2 (fun x hx => by obtain ⟨i, hi, rfl⟩ := tab_mem _ _ _ hx; have := B2 i hi; omega)
            simp only [Value.slice.injEq] at e1 e2
            obtain ⟨rfl, _, rfl⟩ := e1
            obtain ⟨rfl, _, rfl⟩ := e2
            have HP := hidp (plain (z0.take ((M + 1))) z1 (M) (wi a2 ((M + 1) : Int)) (wi a3 ((M + 1) : Int)))
            have HB1 := hidp (fun i (hi : i < (M + 1)) => show 0 ≤ gi (tab (lf z1 (M) (wi a2 ((M + 1) : Int))) ((M + 1))) i ∧ gi (tab (lf z1 (M) (wi a2 ((M + 1) : Int))) ((M + 1))) i ≤ i by rw [tab_gi _ _ _ hi]; exact B1 i hi)
            have HB2 := hidp (fun i (hi : i < (M + 1)) => show 0 ≤ gi (tab (lf z1 (M) (wi a3 ((M + 1) : Int))) ((M + 1))) i ∧ gi (tab (lf z1 (M) (wi a3 ((M + 1) : Int))) ((M + 1))) i ≤ i by rw [tab_gi _ _ _ hi]; exact B2 i hi)
            clear em s1 g1r t1 s2 g2r s1' B1 B2 q5 q6 q7 q8 ho ht apot hbl h1l h2l
            refine (deal_c _ _ ((M + 1)) _ _ _ _ _ (W0.out.below hb2) i1 (by omega) HB1.out).mono ?_
            rintro e we ⟨v, rfl, hv, hbe⟩
            obtain ⟨vx, cx, vxe, hvx⟩ := owns_ints hv (deal_wf W0.out.bd)
            subst vxe
            clear hv
            go_wp2_with fail
            refine (deal_c _ _ ((M + 1)) _ _ _ _ _ ((W0.out.below hb2).below hbe) (i2.below hbe) (by omega) HB2.out).mono ?_
            rintro e wf ⟨v, rfl, hv, hbf⟩
            obtain ⟨vy, cy, vye, hvy⟩ := owns_ints hv (deal_wf W0.out.bd)
            subst vye
            clear hv
            have hwf : Below w.heap.size w wf := bstep (bstep (bstep hwb hb2) hbe) hbf
            have hvx' := hvx.below hbf
            generalize hF : dealF (List.take ((M + 1)) z0) (tab (lf z1 (M) (wi a2 ((M + 1) : Int))) ((M + 1))) ((M + 1)) = F at hvx'
            generalize hG : dealF (List.take ((M + 1)) z0) (tab (lf z1 (M) (wi a3 ((M + 1) : Int))) ((M + 1))) ((M + 1)) = G at hvy
            have HQ := hidp (show ∀ k, 0 ≤ cnt F G k ∧ cnt F G k ≤ 3 from fun k => by rw [← hF, ← hG]; exact HP.out k)
            obtain ⟨bx, ox, rfl, hbx, hcx⟩ := hvx'.addr (by omega)
            obtain ⟨byy, oy, rfl, hby, hcy⟩ := hvy.addr (by omega)
            have CX := hidp hcx
            have CY := hidp hcy
            have vm := hvx.max
            have ve := hvx.le
            have vm' := hvy.max
            have ve' := hvy.le
            clear hF hG hcx hcy hvx hvx' hvy HP
            go_wp2_with fail
            go_loopw [19, 120] (fun u i wr => ∃ k : Nat, k ≤ (M + 1) ∧ i = .int .i64 k ∧ u = .int .i64 (cnt F G k) ∧ Below wf.heap.size wf wr) (fun _ i _ => (M + 1) - (intOf i).toNat)
            case atStart => exact ⟨0, by omega, rfl, rfl, Below.refl _ _⟩
            case round =>
              obtain ⟨k, hk, rfl, rfl, hbl⟩ := hrel
              have P1 := (HQ.out k).1
              have P2 := (HQ.out k).2
              by_cases hlt : k < (M + 1)
              · have q1 := carry_cell ⟨hbx, CX.out k hlt⟩ hbl
                have q2 := carry_cell ⟨hby, CY.out k hlt⟩ hbl
                rw [tab_gi _ _ _ hlt] at q1 q2
                by_cases hxy : F k = G k
                · have hB : (F k != G k) = false := by rw [hxy]; simp
                  have HXY := hidp hxy
                  clear hxy
                  go_wp2_with fail
                  go_quiet (fail)
                  go_wp2
                  go_roundw
                  case rel => exact ⟨k + 1, by omega, by go_num, by rw [cnt, if_pos HXY.out]; simp, below_drewN hbl _⟩
                  case measure => simp [intOf]; omega
                · have hB : (F k != G k) = true := by simp [hxy]
                  have HXY := hidp hxy
                  clear hxy
                  go_wp2_with fail
                  go_quiet (fail)
                  go_wp2
                  go_roundw
                  case rel => exact ⟨k + 1, by omega, by go_num, by rw [cnt, if_neg HXY.out], below_drewN hbl _⟩
                  case measure => simp [intOf]; omega
              · obtain rfl : k = (M + 1) := by omega
                go_wp2_with fail
                go_ret
                exact ⟨rfl, bstep hwf hbl⟩
    · have h12' : 12 < M + 1 := by omega
      have w0' := w0.take 12 (by omega)
      clear w0
      rcases hz1' with hz1 | rfl
      all_goals
        go_enter Try.func4, Try.ntmps4
        go_wp2_with fail
        refine (deal_c _ _ 3 3 3 [7, 8, 9] [0, 1, 0] _ ?s0 ?s1 (by omega) ?s2).mono ?_
        case s0 => exact (ints_lit [7, 8, 9] (by simp) (by rfl) (by rfl) (by simp) (by omega)).alloc _
        case s1 => exact ints_lit [0, 1, 0] (by simp) (by rfl) (by rfl) (by simp) (by omega)
        case s2 => intro i hi; match i, hi with | 0, _ => decide | 1, _ => decide | 2, _ => decide
        rintro e wa ⟨v, rfl, hv, hba⟩
        rw [ex1] at hv
        obtain ⟨av, cv, hve, hav⟩ := owns_ints hv (by simp)
        subst hve
        clear hv
        go_wp2_with fail
        refine (equali_c _ _ 3 3 _ _ [9, 8, 7] [9, 8, 7] _ (hav.alloc _) ?s3).mono ?_
        case s3 => exact ints_lit [9, 8, 7] (by rfl) (by rfl) (by rfl) (by simp) (by omega)
        rintro e wb ⟨rfl, hbb⟩
        have hwb : Below w.heap.size w wb := bstep (bal (bstep (bal (bal (Below.refl _ _) _) _) hba) _) hbb
        have W0 := hidp (w0'.below hwb)
        clear hba hbb hav w0'
        go_wp2_with fail
        go_loopw [11, 12, 45] (fun o t i wr => ∃ k : Nat, k ≤ 12 ∧ i = .int .i64 k ∧ wr.ownsRow wb.heap.size 3 1 o k ((tab (df z1) k).map (Value.int .i64)) ∧ wr.ownsRow wb.heap.size 3 1 t k ((tab (df z1) k).map (Value.int .i64)) ∧ Apart o t ∧ Below wb.heap.size wb wr) (fun _ _ i _ => 12 - (intOf i).toNat)
        case atStart => exact ⟨0, by omega, rfl, World.ownsRow_nil _ _ _ _, World.ownsRow_nil _ _ _ _, .inl rfl, Below.refl _ _⟩
        case round =>
          obtain ⟨k, hk, rfl, ho, ht, apot, hbl⟩ := hrel
          by_cases hlt : k < 12
          · by_cases hk1 : k < len1
            · first
              | (exfalso; have := hz1.out; omega)
              | (
              have q1 := carry_cell (HX1.out k hk1) (bstep hwb hbl)
              have q2 := wi_lo (gi z1 k) ((k : Int) + 1) (by omega)
              have q3 := wi_hi (gi z1 k) ((k : Int) + 1) (by omega)
              have DF := hidp (show df z1 k = wi (gi z1 k) ((k : Int) + 1) by unfold df; rw [if_pos (by rw [L1.out]; omega)])
              go_wp2_with (first | (at_builtin; refine wpList_append_new rfl (.tmp 59) (.tmp 61) 22 rfl wb.heap.size 3 _ 1 8 info_int rfl (by decide) Try.underlying22 _ k _ rfl ho rfl (one_int _ _) rfl rfl (by omega) (by decide) hbl.size ?_; intro v0 x0 no g0 d0; have o0t := ht.kept g0 (apot.symm); have p0ot := (apot).grown ht d0; have bl0 := append_step ho hbl (Nat.le_refl _) g0; clear g0 d0 ht apot ho hbl) | (at_builtin; refine wpList_append_new rfl (.tmp 63) (.tmp 65) 22 rfl wb.heap.size 3 _ 1 8 info_int rfl (by decide) Try.underlying22 _ k _ rfl o0t rfl (one_int _ _) rfl rfl (by omega) (by decide) bl0.size ?_; intro v1 x1 nt g1 d1; have o1o := no.kept g1 (p0ot); have p1ot := ((p0ot.symm).grown no d1).symm; have bl1 := append_step o0t bl0 (Nat.le_refl _) g1; clear g1 d1 no p0ot o0t bl0) | (go_at_call 17; refine (within_c _ _ (by omega) (by omega) _).mono ?_; rintro e w' ⟨rfl, rfl⟩))
              go_roundw
              case rel => exact ⟨k + 1, by omega, by go_num, by rw [tab_snoc, List.map_append, DF.out]; exact o1o, by rw [tab_snoc, List.map_append, DF.out]; exact nt, p1ot, bl1⟩
              case measure => simp [intOf]; omega)
            · (
              have DF := hidp (show df z1 k = 0 by unfold df; rw [if_neg (by rw [L1.out]; omega)])
              go_wp2_with (first | (at_builtin; refine wpList_append_new rfl (.tmp 59) (.tmp 61) 22 rfl wb.heap.size 3 _ 1 8 info_int rfl (by decide) Try.underlying22 _ k _ rfl ho rfl (one_int _ _) rfl rfl (by omega) (by decide) hbl.size ?_; intro v0 x0 no g0 d0; have o0t := ht.kept g0 (apot.symm); have p0ot := (apot).grown ht d0; have bl0 := append_step ho hbl (Nat.le_refl _) g0; clear g0 d0 ht apot ho hbl) | (at_builtin; refine wpList_append_new rfl (.tmp 63) (.tmp 65) 22 rfl wb.heap.size 3 _ 1 8 info_int rfl (by decide) Try.underlying22 _ k _ rfl o0t rfl (one_int _ _) rfl rfl (by omega) (by decide) bl0.size ?_; intro v1 x1 nt g1 d1; have o1o := no.kept g1 (p0ot); have p1ot := ((p0ot.symm).grown no d1).symm; have bl1 := append_step o0t bl0 (Nat.le_refl _) g1; clear g1 d1 no p0ot o0t bl0) | (go_at_call 17; refine (within_c _ _ (by omega) (by omega) _).mono ?_; rintro e w' ⟨rfl, rfl⟩))
              go_roundw
              case rel => exact ⟨k + 1, by omega, by go_num, by rw [tab_snoc, List.map_append, DF.out]; exact o1o, by rw [tab_snoc, List.map_append, DF.out]; exact nt, p1ot, bl1⟩
              case measure => simp [intOf]; omega)
          · obtain rfl : k = 12 := by omega
            obtain ⟨g1, m1', h1e, h1B, h1l, h1n, h1c⟩ := owns_addr ho (by omega)
            obtain ⟨g2, m2', h2e, h2B, h2l, h2n, h2c⟩ := owns_addr ht (by omega)
            subst h1e h2e
            have hne : g1 ≠ g2 := by
              rcases apot with h | h
              · simp [Value.ownBlock] at h
              · intro e; apply h; rw [e]; rfl
            have x1 := wi_lo a2 (12 : Int) (by omega)
            have x2 := wi_hi a2 (12 : Int) (by omega)
            have x3 := wi_lo a3 (12 : Int) (by omega)
            have x4 := wi_hi a3 (12 : Int) (by omega)
            have q5 : wr.cell? ⟨g1, 11, none⟩ = some (.int .i64 (df z1 11)) := by rw [ho.cellAt _ (by omega), tab_map, tab_get _ _ _ (by omega)]
            have q6 : wr.cell? ⟨g2, 11, none⟩ = some (.int .i64 (df z1 11)) := by rw [ht.cellAt _ (by omega), tab_map, tab_get _ _ _ (by omega)]
            have q7 := ho.frozenAt (11)
            have q8 := ht.frozenAt (11)
            go_wp2_with (go_at_call 17; refine (within_c _ _ (by omega) (by omega) _).mono ?_; rintro e w' ⟨rfl, rfl⟩)
            rw [tab_map] at ho ht
            have em : ∀ A, tab (fun i => if i = 11 then Value.int .i64 A else Value.int .i64 (df z1 i)) (12) = (tab (lf z1 (11) A) (12)).map (Value.int .i64) := fun A => by
              rw [tab_map]
              exact tab_congr _ _ _ (fun i _ => by unfold lf; split <;> rfl)
            have s1 := own_store_tab ho (11) (.int .i64 (wi a2 (12 : Int)))
            have g1r := (ho.stored (11) (.int .i64 (wi a2 (12 : Int)))).2
            have t1 := ht.kept g1r (.inr (by simp [Value.ownBlock]; exact fun e => hne e.symm))
            have s2 := own_store_tab t1 (11) (.int .i64 (wi a3 (12 : Int)))
            have g2r := (t1.stored (11) (.int .i64 (wi a3 (12 : Int)))).2
            have s1' := s1.kept g2r (.inr (by simp [Value.ownBlock]; exact hne))
            rw [em] at s1' s2
            have hb2 : Below wb.heap.size wb ((wr.setCell ⟨g1, 11, none⟩ (.int .i64 (wi a2 (12 : Int)))).setCell ⟨g2, 11, none⟩ (.int .i64 (wi a3 (12 : Int)))) := (hbl.setCell (p := ⟨g1, 11, none⟩) h1B _).setCell (p := ⟨g2, 11, none⟩) h2B _
            generalize (wr.setCell ⟨g1, 11, none⟩ (.int .i64 (wi a2 (12 : Int)))).setCell ⟨g2, 11, none⟩ (.int .i64 (wi a3 (12 : Int))) = wd at *
            have B1 : ∀ i, i < 12 → 0 ≤ lf z1 (11) (wi a2 (12 : Int)) i ∧ lf z1 (11) (wi a2 (12 : Int)) i ≤ i := fun i hi => by
              unfold lf; have := df_bd z1 i; split <;> omega
            have B2 : ∀ i, i < 12 → 0 ≤ lf z1 (11) (wi a3 (12 : Int)) i ∧ lf z1 (11) (wi a3 (12 : Int)) i ≤ i := fun i hi => by
              unfold lf; have := df_bd z1 i; split <;> omega
            obtain ⟨_, _, e1, i1⟩ := owns_ints s1' (fun x hx => by obtain ⟨i, hi, rfl⟩ := tab_mem _ _ _ hx; have := B1 i hi; omega)
            obtain ⟨_, _, e2, i2⟩ := owns_ints s2 (fun x hx => by obtain ⟨i, hi, rfl⟩ := tab_mem _ _ _ hx; have := B2 i hi; omega)
            simp only [Value.slice.injEq] at e1 e2
            obtain ⟨rfl, _, rfl⟩ := e1
            obtain ⟨rfl, _, rfl⟩ := e2
            have HP := hidp (plain (z0.take (12)) z1 (11) (wi a2 (12 : Int)) (wi a3 (12 : Int)))
            have HB1 := hidp (fun i (hi : i < 12) => show 0 ≤ gi (tab (lf z1 (11) (wi a2 (12 : Int))) (12)) i ∧ gi (tab (lf z1 (11) (wi a2 (12 : Int))) (12)) i ≤ i by rw [tab_gi _ _ _ hi]; exact B1 i hi)
            have HB2 := hidp (fun i (hi : i < 12) => show 0 ≤ gi (tab (lf z1 (11) (wi a3 (12 : Int))) (12)) i ∧ gi (tab (lf z1 (11) (wi a3 (12 : Int))) (12)) i ≤ i by rw [tab_gi _ _ _ hi]; exact B2 i hi)
            clear em s1 g1r t1 s2 g2r s1' B1 B2 q5 q6 q7 q8 ho ht apot hbl h1l h2l
            refine (deal_c _ _ (12) _ _ _ _ _ (W0.out.below hb2) i1 (by omega) HB1.out).mono ?_
            rintro e we ⟨v, rfl, hv, hbe⟩
            obtain ⟨vx, cx, vxe, hvx⟩ := owns_ints hv (deal_wf W0.out.bd)
            subst vxe
            clear hv
            go_wp2_with fail
            refine (deal_c _ _ (12) _ _ _ _ _ ((W0.out.below hb2).below hbe) (i2.below hbe) (by omega) HB2.out).mono ?_
            rintro e wf ⟨v, rfl, hv, hbf⟩
            obtain ⟨vy, cy, vye, hvy⟩ := owns_ints hv (deal_wf W0.out.bd)
            subst vye
            clear hv
            have hwf : Below w.heap.size w wf := bstep (bstep (bstep hwb hb2) hbe) hbf
            have hvx' := hvx.below hbf
            generalize hF : dealF (List.take (12) z0) (tab (lf z1 (11) (wi a2 (12 : Int))) (12)) (12) = F at hvx'
            generalize hG : dealF (List.take (12) z0) (tab (lf z1 (11) (wi a3 (12 : Int))) (12)) (12) = G at hvy
            have HQ := hidp (show ∀ k, 0 ≤ cnt F G k ∧ cnt F G k ≤ 3 from fun k => by rw [← hF, ← hG]; exact HP.out k)
            obtain ⟨bx, ox, rfl, hbx, hcx⟩ := hvx'.addr (by omega)
            obtain ⟨byy, oy, rfl, hby, hcy⟩ := hvy.addr (by omega)
            have CX := hidp hcx
            have CY := hidp hcy
            have vm := hvx.max
            have ve := hvx.le
            have vm' := hvy.max
            have ve' := hvy.le
            clear hF hG hcx hcy hvx hvx' hvy HP
            go_wp2_with fail
            go_loopw [19, 120] (fun u i wr => ∃ k : Nat, k ≤ 12 ∧ i = .int .i64 k ∧ u = .int .i64 (cnt F G k) ∧ Below wf.heap.size wf wr) (fun _ i _ => 12 - (intOf i).toNat)
            case atStart => exact ⟨0, by omega, rfl, rfl, Below.refl _ _⟩
            case round =>
              obtain ⟨k, hk, rfl, rfl, hbl⟩ := hrel
              have P1 := (HQ.out k).1
              have P2 := (HQ.out k).2
              by_cases hlt : k < 12
              · have q1 := carry_cell ⟨hbx, CX.out k hlt⟩ hbl
                have q2 := carry_cell ⟨hby, CY.out k hlt⟩ hbl
                rw [tab_gi _ _ _ hlt] at q1 q2
                by_cases hxy : F k = G k
                · have hB : (F k != G k) = false := by rw [hxy]; simp
                  have HXY := hidp hxy
                  clear hxy
                  go_wp2_with fail
                  go_quiet (fail)
                  go_wp2
                  go_roundw
                  case rel => exact ⟨k + 1, by omega, by go_num, by rw [cnt, if_pos HXY.out]; simp, below_drewN hbl _⟩
                  case measure => simp [intOf]; omega
                · have hB : (F k != G k) = true := by simp [hxy]
                  have HXY := hidp hxy
                  clear hxy
                  go_wp2_with fail
                  go_quiet (fail)
                  go_wp2
                  go_roundw
                  case rel => exact ⟨k + 1, by omega, by go_num, by rw [cnt, if_neg HXY.out], below_drewN hbl _⟩
                  case measure => simp [intOf]; omega
              · obtain rfl : k = 12 := by omega
                go_wp2_with fail
                go_ret
                exact ⟨rfl, bstep hwf hbl⟩
end Go.Proofs.Ytboacbimmggleaa.dealTwo
