/- The walk of PondLate: the law returns true at all inputs, and no old memory changes. -/
import Derived.Test.YtboacbimmggleaaPond
import Derived.Test.YtboacbimmggleaaEqI
namespace Go.Proofs.Ytboacbimmggleaa.pondLate
open Go.ChangeShapes Go.WideShapes Go.ChangeAt Go.RowKit
open Go.Proofs.Ytboacbimmggleaa

def idf (i : Nat) : Int := (i : Int)
def laid (d : Int) (i : Nat) : Int := if (i : Int) = d then 99 else (i : Int)
theorem put_late (K : Nat) (S d : Int) (hS : (K : Int) ≤ S) (hd : 0 ≤ d) : pput K S (tab idf K) 99 d = tab (laid d) K := by
  unfold pput
  rw [if_neg (by omega)]
  obtain ⟨D, rfl⟩ := Int.eq_ofNat_of_zero_le hd
  by_cases h : (D : Int) < K
  · rw [if_pos h, Int.toNat_natCast, tab_set]
    refine tab_congr _ _ _ (fun i hi => ?_)
    unfold laid idf
    by_cases e : i = D
    · rw [if_pos e, if_pos (by omega)]
    · rw [if_neg e, if_neg (by omega)]
  · rw [if_neg h]
    refine tab_congr _ _ _ (fun i hi => ?_)
    unfold laid idf
    rw [if_neg (by omega)]
set_option linter.unusedVariables false
set_option maxHeartbeats 4000000 in
theorem walk (a0 : Int) (a1 : Int) (a2 : Int) (w : World)
    (w0 : (Lit.int .i64 a0).wf = true) (w1 : (Lit.int .i64 a1).wf = true) (w2 : (Lit.int .i64 a2).wf = true) :
    Calls Try.prog 11 #[.int .i64 a0, .int .i64 a1, .int .i64 a2] w fun e w' => e = .returned (.bool true) ∧ Below w.heap.size w w' := by
  obtain ⟨m, hm⟩ : ∃ m, m = wn a0 16 := ⟨_, rfl⟩
  have hm1 := wn_lt a0 16 (by omega)
  rw [← hm] at hm1
  have cm := withinN_c a0 16 (by omega) (by omega)
  rw [← hm] at cm
  have CM := hidp cm
  obtain ⟨K, hK⟩ : ∃ K : Nat, K = m + 1 := ⟨_, rfl⟩
  have hK' : (1 : Int) + (m : Int) = (K : Int) := by omega
  have x0 := wi_lo a1 1000 (by omega)
  have x1 := wi_hi a1 1000 (by omega)
  have cx := hidp (within_c a1 1000 (by omega) (by omega))
  generalize wi a1 1000 = X at *
  have d0 := wi_lo a2 ((K : Int) + X + 1) (by omega)
  have d1 := wi_hi a2 ((K : Int) + X + 1) (by omega)
  have cd := hidp (within_c a2 ((K : Int) + X + 1) (by omega) (by omega))
  generalize wi a2 ((K : Int) + X + 1) = d at *
  have hwr : IntKind.i64.wrap ((K : Int) + X) = (K : Int) + X := IntWalk.i64_in _ (by omega)
  have hKm : m + 1 = K := hK.symm
  clear cm hm w0 w1 w2 hK
  go_enter Try.func11, Try.ntmps11
  go_wp2_with fail
  refine (pput_c 1 5 8 5 _ 1 1 [7] _ ?s0 (by omega) (by omega) (by omega) (by omega) (by decide) (by omega) (by omega)).mono ?_
  case s0 => exact ints_lit [7] (by simp) (by rfl) (by rfl) (by simp) (by omega)
  rintro e wa ⟨v, rfl, hv, hba⟩
  rw [show pput 1 5 [7] 8 5 = [7] from by decide +kernel] at hv
  obtain ⟨av, cv, hve, hav⟩ := owns_ints hv (by simp)
  subst hve
  clear hv
  go_wp2_with fail
  refine (equali_c _ _ 1 1 _ _ [7] [7] _ ((hav.alloc _).alloc _) ?s3).mono ?_
  case s3 => exact ints_lit [7] (by simp) (by rfl) (by rfl) (by simp) (by omega)
  rintro e wb ⟨rfl, hbb⟩
  rw [decide_eq_true rfl]
  have p1 : wb.cell? ⟨wa.heap.size, 1, none⟩ = some (.int .i64 6) := ck hbb (by simp)
  have hwb : Below w.heap.size w wb := bstep (bal (bal (bstep (bal (Below.refl _ _) _) hba) _) _) hbb
  clear hba hbb hav
  go_wp2_with fail
  refine (CM.out _).mono ?_; rintro e w' ⟨rfl, rfl⟩
  go_wp2_with fail
  go_region_held3 (fun w' => w'.cell? ⟨wb.heap.size, 0, none⟩ = some (.int .i64 K)) (go_keep)
    ((go_at_call 17; refine (cx.out _).mono ?_; rintro e w' ⟨rfl, rfl⟩))
  go_wp2_with fail
  go_loopw [47] (fun i wr => ∃ (k : Nat) (a : Option Addr) (c : Nat), k ≤ K ∧ i = .int .i64 k ∧ wr.cell? ⟨wb.heap.size, 0, none⟩ = some (.int .i64 K) ∧ wr.cell? ⟨wb.heap.size, 1, none⟩ = some (.int .i64 ((K : Int) + X)) ∧
    wr.cell? ⟨wb.heap.size, 2, none⟩ = some (.slice a k c) ∧ wr.frozen? ⟨wb.heap.size, 2, none⟩ = false ∧ wr.ownsRow wb.heap.size 3 1 (.slice a k c) k ((tab idf k).map (Value.int .i64)) ∧ (Value.slice a k c).ownBlock ≠ some wb.heap.size ∧ Below wb.heap.size wb wr) (fun i _ => K - (intOf i).toNat)
  case atStart => exact ⟨0, none, 0, by omega, rfl, by simp, by simp, by simp, by simp, World.ownsRow_nil _ _ _ _, by simp [Value.ownBlock], (bal (Below.refl _ _) _).drew⟩
  case round =>
    obtain ⟨k, a, c, hk, rfl, r0, r1, r2, rf, hv, hne, hbl⟩ := hrel
    have hgl : wb.heap.size < wr.heap.size := lt_of_cell r0
    by_cases hlt : k < K
    · go_wp2_with (at_builtin; refine wpList_append_new rfl (.tmp 51) (.tmp 53) 22 rfl wb.heap.size 3 _ 1 8 info_int rfl (by decide) Try.underlying22 (.slice a k c) k _ rfl hv rfl (one_int _ _) rfl rfl (by omega) (by decide) hbl.size ?_; intro v1 w1 o1 g1 d1; obtain ⟨a1, c1, hv1, hc1, hc1'⟩ := owns_form o1; subst hv1; have y0 := gk g1 r0 hne; have y1 := gk g1 r1 hne; have y2 := gk g1 r2 hne; have yf := gf g1 rf hgl hne)
      go_roundw
      case rel =>
        have q1 : (Value.slice a1 (k + 1) c1).ownBlock ≠ some wb.heap.size := by
          rcases d1 with d1 | ⟨j, d1, hj⟩
          · rw [d1]; exact hne
          · rw [d1]; intro e; cases e; omega
        have hb1 := append_step hv hbl (Nat.le_refl _) g1
        exact ⟨k + 1, a1, c1, by omega, by go_num, by go_simp, by go_simp, by go_simp, by go_simp, by rw [tab_snoc, List.map_append]; exact ownsRow_setCell_other o1 q1 _, q1, hb1.setCell (by show wb.heap.size ≤ wb.heap.size; omega) _⟩
      case measure => simp [intOf]; omega
    · obtain rfl : k = K := by omega
      obtain ⟨a', c', hve, hI⟩ := owns_ints hv (fun x hx => by obtain ⟨i, hi, rfl⟩ := tab_mem _ _ _ hx; unfold idf; omega)
      simp only [Value.slice.injEq] at hve
      obtain ⟨rfl, _, rfl⟩ := hve
      have C := hidp (fun w h => pput_c k ((k : Int) + X) 99 d a k c (tab idf k) w h (by omega) (by omega) (by omega) (by omega) (by omega) d0 (by omega))
      rw [put_late k _ d (by omega) d0, tab_len] at C
      clear hv
      go_wp2_with fail
      refine (cd.out _).mono ?_; rintro e w' ⟨rfl, rfl⟩
      go_wp2_with fail
      refine (C.out _ hI).mono ?_
      rintro e wc ⟨v, rfl, hv, hbc⟩
      have hwc : Below w.heap.size w wc := bstep (bstep hwb hbl) hbc
      obtain ⟨gx, cx', hve, hgB, hgl2, hncm, hcm⟩ := owns_addr hv (by omega)
      subst hve
      have HV := hidp (fun i (hi : i < k) => show gx < wc.heap.size ∧ wc.cell? ⟨gx, i, none⟩ = some (.int .i64 (laid d i)) from ⟨hgl2, by rw [hv.cellAt i (by omega), tab_map, tab_get _ _ _ hi]⟩)
      have s0 := ck hbc r0
      have hz : wb.heap.size < wc.heap.size := lt_of_cell s0
      clear hv hI r1 r2 rf hne C cd cx CM hK' hKm
      go_wp2_with fail
      go_loopw [81] (fun i wr' => ∃ j : Nat, j ≤ k ∧ i = .int .i64 j ∧ Below wc.heap.size wc wr') (fun i _ => k - (intOf i).toNat)
      case atStart => exact ⟨0, by omega, rfl, bal (Below.refl _ _) _⟩
      case round =>
        obtain ⟨j, hj, rfl, hbj⟩ := hrel
        by_cases hlj : j < k
        · have q0 := carry_cell (HV.out j hlj) hbj
          by_cases hjd : (j : Int) = d
          · rw [show laid d j = 99 by unfold laid; rw [if_pos hjd]] at q0
            have hjd' : ((j : Int) == d) = true := by rw [beq_iff_eq]; exact hjd
            have hjd2 : ((j : Int) != d) = false := by rw [bne_eq_false_iff_eq]; exact hjd
            clear hjd
            go_wp2_with fail
            go_roundw
            case rel => exact ⟨j + 1, by omega, by go_num, hbj⟩
            case measure => simp [intOf]; omega
          · rw [show laid d j = j by unfold laid; rw [if_neg hjd]] at q0
            have hjd' : ((j : Int) == d) = false := by rw [beq_eq_false_iff_ne]; exact hjd
            have hjd2 : ((j : Int) != d) = true := by rw [bne_iff_ne]; exact hjd
            have hjj : ((j : Int) != (j : Int)) = false := by simp
            clear hjd
            go_wp2_with fail
            go_roundw
            case rel => exact ⟨j + 1, by omega, by go_num, hbj⟩
            case measure => simp [intOf]; omega
        · obtain rfl : j = k := by omega
          go_wp2_with fail
          go_ret
          exact ⟨rfl, bstep hwc hbj⟩
end Go.Proofs.Ytboacbimmggleaa.pondLate
