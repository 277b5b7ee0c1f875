/- The walk of DealSame: the law returns true at all inputs, and no old memory changes. -/
import Derived.Test.YtboacbimmggleaaSorted
import Derived.Test.YtboacbimmggleaaEqI
import Derived.Lib.MinMax
namespace Go.Proofs.Ytboacbimmggleaa.dealSame
open Go.ChangeShapes Go.WideShapes Go.ChangeAt Go.RowKit
open Go.Proofs.Ytboacbimmggleaa SortMath

theorem ex1 : (tab (dealF [7, 8] [0, 1] 2) 2).map (Value.int .i64) = [7, 8].map (Value.int .i64) := by
  rw [show tab (dealF [7, 8] [0, 1] 2) 2 = [7, 8] from by decide +kernel]
def df (ds : List Int) (i : Nat) : Int := if i < ds.length then wi (gi ds i) ((i : Int) + 1) else 0
theorem df_bd (ds : List Int) (i : Nat) : 0 ≤ df ds i ∧ df ds i ≤ i := by
  unfold df
  have := wi_lo (gi ds i) ((i : Int) + 1) (by omega)
  have := wi_hi (gi ds i) ((i : Int) + 1) (by omega)
  split <;> omega
def oF (k j : Nat) : Int := if j < k then (j : Int) else 0
def sF (ds : List Int) (k j : Nat) : Int := if j < k then df ds j else 0
theorem oF_step (k i : Nat) : Value.int .i64 (oF (k + 1) i) = if i = k then Value.int .i64 (k : Int) else Value.int .i64 (oF k i) := by
  unfold oF
  by_cases h : i = k
  · rw [if_pos h, if_pos (by omega), h]
  · rw [if_neg h]
    by_cases h2 : i < k
    · rw [if_pos h2, if_pos (by omega)]
    · rw [if_neg h2, if_neg (by omega)]
theorem sF_step (ds : List Int) (k i : Nat) (v : Int) (hv : df ds k = v) : Value.int .i64 (sF ds (k + 1) i) = if i = k then Value.int .i64 v else Value.int .i64 (sF ds k i) := by
  unfold sF
  by_cases h : i = k
  · rw [if_pos h, if_pos (by omega), h, hv]
  · rw [if_neg h]
    by_cases h2 : i < k
    · rw [if_pos h2, if_pos (by omega)]
    · rw [if_neg h2, if_neg (by omega)]
/-- A swap changes no count. -/
theorem cn_swp (P : Int → Bool) (f : Nat → Int) (n i d : Nat) (hi : i < n) (hd : d < n) : cn (fun j => P (swp f i d j)) n = cn (fun j => P (f j)) n := by
  have e : ∀ j, swp f i d j = if j = i then f d else (if j = d then f i else f j) := fun j => rfl
  have a := cn_upd P f d (f i) n
  have b := cn_upd P (fun j => if j = d then f i else f j) i (f d) n
  have c : (fun j => P (swp f i d j)) = fun j => P (if j = i then f d else (fun j => if j = d then f i else f j) j) := by
    funext j; rw [e]
  rw [c]
  show cn (fun j => P (if j = i then f d else if j = d then f i else f j)) n = _
  have h2 : (fun j => if j = d then f i else f j) i = f i := by
    by_cases h : i = d
    · simp [h]
    · simp [h]
  simp only [] at h2 b
  rw [h2] at b
  simp only [hi, hd, true_and] at a b
  omega
theorem cn_deal (P : Int → Bool) (xs ds : List Int) (n : Nat) (hd : ∀ i, i < n → 0 ≤ gi ds i ∧ gi ds i ≤ i) : ∀ k, k ≤ n → cn (fun j => P (dealF xs ds k j)) n = cn (fun j => P (gi xs j)) n
  | 0, _ => rfl
  | k + 1, h => by
    have := hd k (by omega)
    simp only [dealF]
    rw [cn_swp P _ n k _ (by omega) (by omega)]
    exact cn_deal P xs ds n hd k (by omega)
theorem deal_own (xs : List Int) (n : Nat) : ∀ k, k ≤ n → ∀ j, dealF xs (tab (fun i => (i : Int)) n) k j = gi xs j
  | 0, _, _ => rfl
  | k + 1, h, j => by
    have a := deal_own xs n k (by omega)
    simp only [dealF]
    rw [tab_gi _ _ _ (by omega)]
    unfold swp
    simp only [Int.toNat_natCast]
    split
    · rename_i e; rw [a, e]
    · exact a j
theorem tab_self (xs : List Int) (n : Nat) (h : xs.length = n) : tab (gi xs) n = xs := by
  apply List.ext_getElem?
  intro i
  by_cases hi : i < n
  · rw [tab_get _ _ _ hi, gi_get xs i (by omega)]
  · rw [List.getElem?_eq_none (by rw [tab_len]; omega), List.getElem?_eq_none (by omega)]
theorem same_sorted (xs ds : List Int) (n : Nat) (hd : ∀ i, i < n → 0 ≤ gi ds i ∧ gi ds i ≤ i) :
    tab (srt (gi (tab (dealF xs ds n) n)) n n) n = tab (srt (gi xs) n n) n :=
  tab_congr _ _ _ (fun p hp => srt_same _ _ n (fun P => by
    rw [← cn_deal P xs ds n hd n (Nat.le_refl _)]
    exact cn_congr (fun k hk => by rw [tab_gi _ _ _ hk])) p hp)
theorem gi_any (xs : List Int) (h : ∀ x ∈ xs, -9223372036854775808 ≤ x ∧ x ≤ 9223372036854775807) (i : Nat) : -9223372036854775808 ≤ gi xs i ∧ gi xs i ≤ 9223372036854775807 := by
  unfold gi
  rw [List.getD_eq_getElem?_getD]
  cases hi : xs[i]? with
  | none => simp
  | some x => exact h x (List.mem_of_getElem? hi)
theorem dealF_wf (xs ds : List Int) (h : ∀ x ∈ xs, -9223372036854775808 ≤ x ∧ x ≤ 9223372036854775807) : ∀ k j, -9223372036854775808 ≤ dealF xs ds k j ∧ dealF xs ds k j ≤ 9223372036854775807
  | 0, j => gi_any xs h j
  | k + 1, j => by
    simp only [dealF]
    unfold swp
    split
    · exact dealF_wf xs ds h k _
    · split <;> exact dealF_wf xs ds h k _
theorem deal_wf {xs ds : List Int} {n : Nat} (h : ∀ x ∈ xs, -9223372036854775808 ≤ x ∧ x ≤ 9223372036854775807) : ∀ x ∈ tab (dealF xs ds n) n, -9223372036854775808 ≤ x ∧ x ≤ 9223372036854775807 := fun x hx => by
  obtain ⟨i, _, rfl⟩ := tab_mem _ _ _ hx
  exact dealF_wf xs ds h n i
theorem srt_wf {xs : List Int} {n : Nat} (h : ∀ x ∈ xs, -9223372036854775808 ≤ x ∧ x ≤ 9223372036854775807) : ∀ x ∈ tab (srt (gi xs) n n) n, -9223372036854775808 ≤ x ∧ x ≤ 9223372036854775807 := fun x hx => by
  obtain ⟨i, hi, rfl⟩ := tab_mem _ _ _ hx
  obtain ⟨j, _, _, e⟩ := srt_spec (gi xs) n i hi
  rw [e]
  exact gi_any xs h j

set_option linter.unusedVariables false
set_option maxHeartbeats 4000000 in
theorem walk (a0 : Option Addr) (len0 cap0 : Nat) (z0 : List Int) (a1 : Option Addr) (len1 cap1 : Nat) (z1 : List Int) (w : World)
    (w0 : IntsAt w a0 len0 cap0 z0) (w1 : IntsAt w a1 len1 cap1 z1) :
    Calls Try.prog 3 #[.slice a0 len0 cap0, .slice a1 len1 cap1] w fun e w' => e = .returned (.bool true) ∧ Below w.heap.size w w' := by
  obtain ⟨ib, hib, hz0, hz1, hz2⟩ := info_parts info_int
  obtain ⟨b1, o1, hy, hx1⟩ := w1.split
  have hy' : Hid (len1 = 0) ∨ a1 = some ⟨b1, o1, none⟩ := hy.imp_left hidp
  have HX1 := hidp hx1
  have L1 := hidp w1.len
  have mm := w0.max
  have ee := w0.le
  have mm1 := w1.max
  have ee1 := w1.le
  obtain ⟨N, hN⟩ : ∃ N : Nat, N = min len0 12 := ⟨_, rfl⟩
  have hN1 : N ≤ 12 := by omega
  have hN2 : N ≤ len0 := by omega
  have hmin : min (len0 : Int) 12 = (N : Int) := by omega
  have W0 := hidp (w0.take N hN2)
  clear hx1 hy w1 w0 hN
  go_enter Try.func3, Try.ntmps3
  go_wp2_with fail
  refine (deal_c _ _ 2 2 2 [7, 8] [0, 1] _ ?s0 ?s1 (by omega) ?s2).mono ?_
  case s0 => exact (ints_lit [7, 8] (by simp) (by rfl) (by rfl) (by simp) (by omega)).alloc _
  case s1 => exact ints_lit [0, 1] (by simp) (by rfl) (by rfl) (by simp) (by omega)
  case s2 => intro i hi; match i, hi with | 0, _ => decide | 1, _ => decide
  rintro e wa ⟨v, rfl, hv, hba⟩
  rw [ex1] at hv
  obtain ⟨av, cv, hve, hav⟩ := owns_ints hv (by simp)
  subst hve
  clear hv
  go_wp2_with fail
  refine (equali_c _ _ 2 2 _ _ [7, 8] [7, 8] _ (hav.alloc _) ?s3).mono ?_
  case s3 => exact ints_lit [7, 8] (by rfl) (by rfl) (by rfl) (by simp) (by omega)
  rintro e wb ⟨rfl, hbb⟩
  have hwb : Below w.heap.size w wb := bstep (bal (bstep (bal (bal (Below.refl _ _) _) _) hba) _) hbb
  clear hba hbb hav
  go_wp2_with (first | (at_make; refine wpList_make_full wb rfl _ _ 22 rfl wb.heap.size 3 ib (.int .i64 0) 1 Try.underlying22 hib hz0 hz1 .i64 .i64 N N N rfl rfl rfl rfl (by rw [hz2]; omega) (by unfold maxLen; omega) (Nat.le_refl _) ?_; intro wc how1 hgr1) | (at_make; refine wpList_make_full wc rfl _ _ 22 rfl wb.heap.size 3 ib (.int .i64 0) 1 Try.underlying22 hib hz0 hz1 .i64 .i64 N N N rfl rfl rfl rfl (by rw [hz2]; omega) (by unfold maxLen; omega) hgr1.size ?_; intro wd how2 hgr2))
  have hbc : Below wb.heap.size wb wc := (Below.refl _ _).grown hgr1 (Nat.le_refl _) (fun k hk => by simp at hk)
  have hbd : Below wb.heap.size wb wd := hbc.grown hgr2 hgr1.size (fun k hk => by simp at hk)
  have how1' := how1.kept hgr2 (.inr (by simp [Value.ownBlock]))
  have g1l : wb.heap.size < wc.heap.size := (how1.lt wb.heap.size rfl).2
  have g2l : wc.heap.size < wd.heap.size := (how2.lt wc.heap.size rfl).2
  have e0 : (madeCells (Value.int .i64 0).cells (N * 1)).toList = tab (fun _ => Value.int .i64 0) N := by
    show (madeCells #[Value.int .i64 0] (N * 1)).toList = _
    rw [made_tab]
  rw [e0] at how1' how2
  have ho1 : wd.ownsRow wb.heap.size 3 1 (.slice (some ⟨wb.heap.size, 0, none⟩) N N) N (tab (fun j => Value.int .i64 (oF 0 j)) N) := by
    rw [tab_congr _ (fun _ => Value.int .i64 0) N (fun i _ => by unfold oF; rw [if_neg (by omega)])]; exact how1'
  have ho2 : wd.ownsRow wb.heap.size 3 1 (.slice (some ⟨wc.heap.size, 0, none⟩) N N) N (tab (fun j => Value.int .i64 (sF z1 0 j)) N) := by
    rw [tab_congr _ (fun _ => Value.int .i64 0) N (fun i _ => by unfold sF; rw [if_neg (by omega)])]; exact how2
  clear e0 how1 how1' how2 hgr1 hgr2 hbc
  have hne : wb.heap.size ≠ wc.heap.size := by omega
  have hg1 : wb.heap.size ≤ wb.heap.size := Nat.le_refl _
  have hg2 : wb.heap.size ≤ wc.heap.size := by omega
  have g1l' : wb.heap.size < wd.heap.size := by omega
  generalize hgg1 : wb.heap.size = B at *
  generalize wc.heap.size = g2 at *
  have HGG := hidp hgg1
  have HW0 := hidp (fun (wr : World) (hb : Below B wb wr) => W0.out.below (bstep hwb (by rw [hgg1]; exact hb)))
  have HX := hidp (fun (wr : World) (hb : Below B wb wr) k (hk : k < len1) => show wr.cell? ⟨b1, o1 + k, none⟩ = some (.int .i64 (gi z1 k)) from carry_cell (HX1.out k hk) (bstep hwb (by rw [hgg1]; exact hb)))
  clear hgg1 g1l
  go_loopw [41] (fun i wr => ∃ k : Nat, k ≤ N ∧ i = .int .i64 k ∧ wr.ownsRow B 3 1 (.slice (some ⟨B, 0, none⟩) N N) N (tab (fun j => Value.int .i64 (oF k j)) N) ∧ wr.ownsRow B 3 1 (.slice (some ⟨g2, 0, none⟩) N N) N (tab (fun j => Value.int .i64 (sF z1 k j)) N) ∧ Below B wb wr ∧ g2 < wr.heap.size) (fun i _ => N - (intOf i).toNat)
  case atStart => exact ⟨0, by omega, rfl, ho1, ho2, hbd, g2l⟩
  case round =>
    obtain ⟨k, hk, rfl, ho1, ho2, hbl, hgl⟩ := hrel
    by_cases hlt : k < N
    · have q1 := ho1.frozenAt k
      have q2 := ho1.cellAt k (by omega)
      have q3 := ho2.frozenAt k
      have q4 := ho2.cellAt k (by omega)
      rw [tab_get _ _ _ hlt] at q2 q4
      by_cases hk1 : k < len1
      · obtain rfl : a1 = some ⟨b1, o1, none⟩ := hy'.resolve_left (fun e => by have := e.out; omega)
        have q5 := HX.out wr hbl k hk1
        have hb1 : b1 < B := by have := (HX1.out k hk1).1; have := hwb.size; have := HGG.out; omega
        have q6 := wi_lo (gi z1 k) ((k : Int) + 1) (by omega)
        have q7 := wi_hi (gi z1 k) ((k : Int) + 1) (by omega)
        have DF := hidp (show df z1 k = wi (gi z1 k) ((k : Int) + 1) by unfold df; rw [if_pos (by rw [L1.out]; omega)])
        go_wp2_with (go_at_call 17; refine (within_c _ _ (by omega) (by omega) _).mono ?_; rintro e w' ⟨rfl, rfl⟩)
        go_roundw
        case rel =>
          have s1 := own_store_tab ho1 k (.int .i64 (k : Int))
          have g1r := (ho1.stored k (.int .i64 (k : Int))).2
          have t1 := ho2.kept g1r (.inr (by simp [Value.ownBlock]; omega))
          have s2 := own_store_tab t1 k (.int .i64 (wi (gi z1 k) ((k : Int) + 1)))
          have g2r := (t1.stored k (.int .i64 (wi (gi z1 k) ((k : Int) + 1)))).2
          have s1' := s1.kept g2r (.inr (by simp [Value.ownBlock]; omega))
          refine ⟨k + 1, by omega, by go_num, ?_, ?_, (hbl.setCell (p := ⟨B, k, none⟩) hg1 _).setCell (p := ⟨g2, k, none⟩) hg2 _, by simpa using hgl⟩
          · rw [tab_congr _ (fun i => if i = k then Value.int .i64 (k : Int) else Value.int .i64 (oF k i)) N (fun i _ => oF_step k i)]; exact s1'
          · rw [tab_congr _ (fun i => if i = k then Value.int .i64 (wi (gi z1 k) ((k : Int) + 1)) else Value.int .i64 (sF z1 k i)) N (fun i _ => sF_step z1 k i _ DF.out)]; exact s2
        case measure => simp [intOf]; omega
      · have DF := hidp (show df z1 k = 0 by unfold df; rw [if_neg (by rw [L1.out]; omega)])
        go_wp2_with fail
        go_roundw
        case rel =>
          have s1 := own_store_tab ho1 k (.int .i64 (k : Int))
          have g1r := (ho1.stored k (.int .i64 (k : Int))).2
          have t1 := ho2.kept g1r (.inr (by simp [Value.ownBlock]; omega))
          refine ⟨k + 1, by omega, by go_num, ?_, ?_, (hbl.setCell (p := ⟨B, k, none⟩) hg1 _), by simpa using hgl⟩
          · rw [tab_congr _ (fun i => if i = k then Value.int .i64 (k : Int) else Value.int .i64 (oF k i)) N (fun i _ => oF_step k i)]; exact s1
          · rw [tab_congr _ (fun i => Value.int .i64 (sF z1 k i)) N (fun i _ => by rw [sF_step z1 k i _ DF.out]; split; (rename_i e; rw [e]; unfold sF; rw [if_neg (by omega)]); rfl)]; exact t1
        case measure => simp [intOf]; omega
    · obtain rfl : k = N := by omega
      have e1 : (tab (fun j => Value.int .i64 (oF k j)) k) = (tab (fun i => (i : Int)) k).map (Value.int .i64) := by
        rw [tab_map]; exact tab_congr _ _ _ (fun i hi => by unfold oF; rw [if_pos hi])
      have e2 : (tab (fun j => Value.int .i64 (sF z1 k j)) k) = (tab (df z1) k).map (Value.int .i64) := by
        rw [tab_map]; exact tab_congr _ _ _ (fun i hi => by unfold sF; rw [if_pos hi])
      rw [e1] at ho1
      rw [e2] at ho2
      have B1 : ∀ i, i < k → 0 ≤ gi (tab (fun i => (i : Int)) k) i ∧ gi (tab (fun i => (i : Int)) k) i ≤ i := fun i hi => by
        rw [tab_gi _ _ _ hi]; omega
      have B2 : ∀ i, i < k → 0 ≤ gi (tab (df z1) k) i ∧ gi (tab (df z1) k) i ≤ i := fun i hi => by
        rw [tab_gi _ _ _ hi]; exact df_bd z1 i
      obtain ⟨_, _, e1, i1⟩ := owns_ints ho1 (fun x hx => by obtain ⟨i, hi, rfl⟩ := tab_mem _ _ _ hx; omega)
      obtain ⟨_, _, e2, i2⟩ := owns_ints ho2 (fun x hx => by obtain ⟨i, hi, rfl⟩ := tab_mem _ _ _ hx; have := df_bd z1 i; omega)
      simp only [Value.slice.injEq] at e1 e2
      obtain ⟨rfl, _, rfl⟩ := e1
      obtain ⟨rfl, _, rfl⟩ := e2
      have wz := HW0.out wr hbl
      have wfz := hidp wz.bd
      have hbr : Below w.heap.size w wr := bstep hwb (by rw [HGG.out]; exact hbl)
      have HB1 := hidp B1
      have HB2 := hidp B2
      have P1 := hidp (same_sorted (z0.take k) (tab (df z1) k) k B2)
      have P2 := hidp (show tab (dealF (z0.take k) (tab (fun i => (i : Int)) k) k) k = z0.take k by
        rw [tab_congr _ (gi (z0.take k)) k (fun i _ => deal_own (z0.take k) k k (Nat.le_refl _) i)]
        exact tab_self _ _ wz.len)
      clear ho1 ho2 B1 B2 e1 e2 hbl HX
      go_wp2_with fail
      refine (deal_c _ _ k _ _ _ _ _ wz i2 hN1 HB2.out).mono ?_
      rintro e we ⟨v, rfl, hv, hbe⟩
      obtain ⟨vx, cx, vxe, hvx⟩ := owns_ints hv (deal_wf wfz.out)
      subst vxe
      clear hv
      go_wp2_with fail
      refine (deal_c _ _ k _ _ _ _ _ (wz.below hbe) (i1.below hbe) hN1 HB1.out).mono ?_
      rintro e wf ⟨v, rfl, hv, hbf⟩
      rw [P2.out] at hv
      obtain ⟨vy, cy, vye, hvy⟩ := owns_ints hv wfz.out
      subst vye
      clear hv
      have wzf := (wz.below hbe).below hbf
      have hvxf := hvx.below hbf
      clear wz i1 i2 hvx
      go_wp2_with fail
      refine (equali_c _ _ k k _ _ _ _ _ hvy wzf).mono ?_
      rintro e wg ⟨rfl, hbg⟩
      have wzg := wzf.below hbg
      have hvxg := hvxf.below hbg
      rw [decide_eq_true rfl]
      clear wzf hvxf hvy
      go_wp2_with fail
      refine (sorted_c _ k _ _ _ hvxg (by omega)).mono ?_
      rintro e wh ⟨v, rfl, hv, hbh⟩
      rw [P1.out] at hv
      obtain ⟨vs, cs, vse, hvs⟩ := owns_ints hv (srt_wf wfz.out)
      subst vse
      clear hv
      go_wp2_with fail
      refine (sorted_c _ k _ _ _ (wzg.below hbh) (by omega)).mono ?_
      rintro e wi ⟨v, rfl, hv, hbi⟩
      obtain ⟨vt, ct, vte, hvt⟩ := owns_ints hv (srt_wf wfz.out)
      subst vte
      clear hv
      go_wp2_with fail
      refine (equali_c _ _ k k _ _ _ _ _ (hvs.below hbi) hvt).mono ?_
      rintro e wj ⟨rfl, hbj⟩
      rw [decide_eq_true rfl]
      have hall : Below w.heap.size w wj := bstep (bstep (bstep (bstep (bstep (bstep hbr hbe) hbf) hbg) hbh) hbi) hbj
      go_wp2_with fail
      go_ret
      exact ⟨rfl, hall⟩
end Go.Proofs.Ytboacbimmggleaa.dealSame
