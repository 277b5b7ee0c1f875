/- Merged: Comb, Some. -/
import Derived.Test.YtgodgfnfaiiohaaGreatDoorBase
import Derived.Test.YtgodgfnfaiiohaaGreatDoorCombMath
import Derived.Test.YtgodgfnfaiiohaaGreatDoorSomeMath
import Derived.Test.YtgodgfnfaiiohaaGreatDoorTake
/- Contract of comb.Ways: what the call returns, and that memory stays as it is. -/
namespace Go.Proofs.YtgodgfnfaiiohaaGreatDoor
open Go.ChangeShapes Go.WideShapes Go.ChangeAt Go.RowKit
set_option maxRecDepth 20000
open CombMath

/-- Ways within its bounds. -/
theorem ways_nat (n k : Nat) (h1 : n ≤ 30) (h2 : k ≤ n) (w : World) :
    Calls Tryz.prog 131 #[.int .i64 n, .int .i64 k] w fun e w' => e = .returned (.tuple #[.int .i64 (wl n k), .int .i64 0]) ∧ w = w' := by
  go_enter Tryz.func131, Tryz.ntmps131
  go_wp2
  go_loop [6, 24] (fun o i => ∃ j : Nat, j ≤ k ∧ i = .int .i64 j ∧ o = .int .i64 (wl n j)) (fun _ i => k - (intOf i).toNat)
  case atStart => exact ⟨0, Nat.zero_le _, rfl, rfl⟩
  case round =>
    obtain ⟨j, hj, rfl, rfl⟩ := hrel
    have hb := wl_le n (by omega) j (by omega)
    have hm : wl n j * (n - j) ≤ 155117520 * 30 := Nat.mul_le_mul hb.1 (by omega)
    have hm' : ((wl n j : Int) * ((n : Int) - (j : Int))) ≤ 4653525600 := by
      have : ((wl n j * (n - j) : Nat) : Int) ≤ ((155117520 * 30 : Nat) : Int) := by exact_mod_cast hm
      rw [Int.natCast_mul, Int.natCast_sub (by omega)] at this
      exact this
    have hm0 : 0 ≤ ((wl n j : Int) * ((n : Int) - (j : Int))) := Int.mul_nonneg (by omega) (by omega)
    by_cases hlt : j < k
    · go_wp2
      go_round
      case rel =>
        refine ⟨j + 1, by omega, by go_num, ?_⟩
        refine v_int ?_
        show _ = ((wl n j * (n - j) / (j + 1) : Nat) : Int)
        rw [Int.natCast_ediv, Int.natCast_mul, Int.natCast_sub (by omega)]
        rfl
      case measure => simp [intOf]; omega
    · go_wp2
      go_ret2
      obtain rfl : j = k := by omega
      exact ⟨rfl, rfl⟩

end Go.Proofs.YtgodgfnfaiiohaaGreatDoor

/- Contracts of comb.ways and comb.Some within their bounds. -/
namespace Go.Proofs.YtgodgfnfaiiohaaGreatDoor
open Go.ChangeShapes Go.WideShapes Go.ChangeAt Go.RowKit
set_option maxRecDepth 20000
open CombMath

theorem ways_none (n k : Nat) (h1 : n ≤ 30) (h2 : n < k) (w : World) :
    Calls Tryz.prog 131 #[.int .i64 n, .int .i64 k] w fun e w' => e = .returned (.tuple #[.int .i64 0, .int .i64 1]) ∧ w = w' := by
  go_enter Tryz.func131, Tryz.ntmps131
  go_wp2_with fail
  go_ret2
  exact ⟨rfl, rfl⟩
theorem waysz_c (n k : Nat) (h1 : n ≤ 30) (w : World) :
    Calls Tryz.prog 87 #[.int .i64 n, .int .i64 k] w fun e w' => e = .returned (.int .i64 (wz n k : Nat)) ∧ w = w' := by
  by_cases hk : k ≤ n
  · have W := ways_nat n k h1 hk
    go_enter Tryz.func87, Tryz.ntmps87
    go_wp2_with fail
    refine (W _).mono ?_
    rintro e w1 ⟨rfl, rfl⟩
    go_wp2_with fail
    go_ret
    refine ⟨?_, rfl⟩
    unfold wz; rw [if_neg (by omega)]; rfl
  · have W := ways_none n k h1 (by omega)
    go_enter Tryz.func87, Tryz.ntmps87
    go_wp2_with fail
    refine (W _).mono ?_
    rintro e w1 ⟨rfl, rfl⟩
    go_wp2_with fail
    go_ret
    refine ⟨?_, rfl⟩
    unfold wz; rw [if_pos (by omega)]; rfl
theorem waysz_i (n k : Nat) (N K : Int) (hN : N = n) (hK : K = k) (h1 : n ≤ 30) (w : World) :
    Calls Tryz.prog 87 #[.int .i64 N, .int .i64 K] w fun e w' => e = .returned (.int .i64 (wz n k : Nat)) ∧ w = w' := by
  subst hN hK
  exact waysz_c n k h1 w
/-- What Some writes at a place. -/
def someF (k r : Nat) (p : Nat) : Int := (top (p + 1) (rk k r (k - 1 - p)) : Nat)

set_option maxHeartbeats 2000000 in
theorem some_c (k r : Nat) (hk : k ≤ 30) (hr : r < wz 30 k) (w : World) :
    Calls Tryz.prog 65 #[.int .i64 k, .int .i64 r] w fun e w' => ∃ v, e = .returned (.tuple #[v, .int .i64 0]) ∧ w'.ownsRow w.heap.size 3 1 v k ((tab (someF k r) k).map (Value.int .i64)) ∧ Below w.heap.size w w' := by
  obtain ⟨ib, hib, hz0, hz1, hz2⟩ := info_parts info_int
  have hw30 := wz_le 30 k (by omega)
  go_enter Tryz.func65, Tryz.ntmps65
  go_wp2_with fail
  refine (waysz_c 30 k (by omega) _).mono ?_
  rintro e w1 ⟨rfl, rfl⟩
  have hr' : ¬ ((wz 30 k : Nat) : Int) ≤ (r : Int) := by omega
  have HR := hidp hr
  clear hr
  go_wp2_with (at_make; refine wpList_make_full w rfl _ _ 37 rfl w.heap.size 3 ib (.int .i64 0) 1 Tryz.underlying37 hib hz0 hz1 .i64 .i64 k k k rfl rfl rfl rfl (by rw [hz2]; omega) (by unfold maxLen; omega) (Nat.le_refl _) ?_; intro wb how hgr)
  have hbb : Below w.heap.size w wb := (Below.refl _ _).grown hgr (Nat.le_refl _) (fun k hk => by simp at hk)
  have hgl : w.heap.size < wb.heap.size := (how.lt w.heap.size rfl).2
  have how0 : wb.ownsRow w.heap.size 3 1 (.slice (some ⟨w.heap.size, 0, none⟩) k k) k (tab (fun i => Value.int .i64 (if k ≤ i + 0 then someF k r i else 0)) k) := by
    have e : (madeCells (Value.int .i64 0).cells (k * 1)).toList = tab (fun i => Value.int .i64 (if k ≤ i + 0 then someF k r i else 0)) k := by
      show (madeCells #[Value.int .i64 0] (k * 1)).toList = _
      rw [made_tab]
      exact tab_congr _ _ _ (fun i hi => by rw [if_neg (by omega)])
    rw [← e]; exact how
  clear how hgr
  generalize hgg : w.heap.size = g at how0 hgl hbb ⊢
  have HG := hidp hgg
  clear hgg
  go_loopw [1, 7] (fun rr i wr => ∃ d : Nat, d ≤ k ∧ i = .int .i64 ((k : Int) - (d : Int)) ∧ rr = .int .i64 (rk k r d : Nat) ∧ wr.ownsRow g 3 1 (.slice (some ⟨g, 0, none⟩) k k) k (tab (fun i => Value.int .i64 (if k ≤ i + d then someF k r i else 0)) k) ∧ Below g w wr ∧ g < wr.heap.size) (fun _ i _ => (intOf i).toNat)
  case atStart => exact ⟨0, by omega, by simp, rfl, how0, hbb, hgl⟩
  case round =>
    obtain ⟨d, hd, rfl, rfl, how, hbl, hgw⟩ := hrel
    by_cases hlt : d < k
    · obtain ⟨p, hp⟩ : ∃ p : Nat, k = p + 1 + d := ⟨k - 1 - d, by omega⟩
      have hpI : (k : Int) - (d : Int) = (p : Int) + 1 := by omega
      rw [hpI]
      have hp1 : p < k := by omega
      have hp30 : p < 30 := by omega
      have ht := top_spec (p + 1) (rk k r d) (by omega) (by omega)
      have hrk := rk_le k r d
      have HRK := hidp (show rk k r (d + 1) = rk k r d - wz (top (p + 1) (rk k r d)) (p + 1) by rw [rk, show k - d = p + 1 by omega])
      have HSF := hidp (show someF k r p = ((top (p + 1) (rk k r d) : Nat) : Int) by unfold someF; rw [show k - 1 - p = d by omega])
      have HT0 := hidp (show sx (p + 1) (rk k r d) (30 - p) p = top (p + 1) (rk k r d) from rfl)
      generalize rk k r d = R at *
      obtain ⟨ht1, ht2, ht3, _, _⟩ := ht
      have HP := hidp hp
      clear hp hpI
      have hR : (R : Int) ≤ 155117520 := by omega
      generalize top (p + 1) R = T at *
      go_wp2_with fail
      go_loopw [8] (fun x wx => ∃ X : Nat, p ≤ X ∧ X < 30 ∧ x = .int .i64 X ∧ sx (p + 1) R (30 - X) X = T ∧ wx = wr) (fun x _ => 30 - (intOf x).toNat)
      case atStart => exact ⟨p, by omega, by omega, v_int (by omega), HT0.out, rfl⟩
      case round =>
        obtain ⟨X, hX1, hX2, rfl, hsx, rfl⟩ := hrel
        have HSX := hidp hsx
        clear hsx
        go_wp2_with fail
        refine (waysz_i (X + 1) (p + 1) _ _ (by omega) (by omega) (by omega) _).mono ?_
        rintro e w1 ⟨rfl, rfl⟩
        have hwb := wz_le (X + 1) (p + 1) (by omega)
        by_cases hc : wz (X + 1) (p + 1) ≤ R
        · by_cases hc2 : X + 1 < 30
          · have hc2' : (X : Int) + 1 < 30 := by omega
            have GO := hidp (sx_go (p + 1) R X hc hc2)
            go_wp2_with fail
            go_roundw
            case rel => exact ⟨X + 1, by omega, by omega, by go_num, by rw [← GO.out]; exact HSX.out, by first | trivial | rfl⟩
            case measure => simp [intOf]; omega
          · have hc2' : ¬ (X : Int) + 1 < 30 := by omega
            have ST := hidp (sx_stop (p + 1) R X (fun h => hc2 h.2) hX2)
            obtain rfl : X = T := ST.out.symm.trans HSX.out
            clear HSX ST
            have q2 := how.cellAt p (by omega)
            rw [tab_get _ _ _ hp1] at q2
            have q3 := how.frozenAt p
            go_wp2_with fail
            refine (waysz_i X (p + 1) _ _ (by omega) (by omega) (by omega) _).mono ?_
            rintro e w2 ⟨rfl, rfl⟩
            go_wp2_with fail
            go_roundw
            case rel =>
              have st := own_store_tab how p (.int .i64 (X : Int))
              refine ⟨d + 1, by omega, v_int (by have := HP.out; omega), v_int (by rw [HRK.out]; omega), ?_, (hbl.setCell (p := ⟨g, p, none⟩) (Nat.le_refl g) _), by first | (simp; omega) | simpa using hgw⟩
              rw [tab_congr _ (fun i => if i = p then Value.int .i64 (X : Int) else Value.int .i64 (if k ≤ i + d then someF k r i else 0)) k ?_]
              · exact st
              · intro i hi
                have := HP.out
                by_cases h1 : i = p
                · rw [if_pos h1, if_pos (by omega), h1, HSF.out]
                · rw [if_neg h1]
                  by_cases h2 : k ≤ i + d
                  · rw [if_pos h2, if_pos (by omega)]
                  · rw [if_neg h2, if_neg (by omega)]
            case measure => simp [intOf]
        · have hc' : ¬ ((wz (X + 1) (p + 1) : Nat) : Int) ≤ (R : Int) := by omega
          have ST := hidp (sx_stop (p + 1) R X (fun h => hc h.1) hX2)
          obtain rfl : X = T := ST.out.symm.trans HSX.out
          clear HSX ST
          have q2 := how.cellAt p (by omega)
          rw [tab_get _ _ _ hp1] at q2
          have q3 := how.frozenAt p
          go_wp2_with fail
          refine (waysz_i X (p + 1) _ _ (by omega) (by omega) (by omega) _).mono ?_
          rintro e w2 ⟨rfl, rfl⟩
          go_wp2_with fail
          go_roundw
          case rel =>
            have st := own_store_tab how p (.int .i64 (X : Int))
            refine ⟨d + 1, by omega, v_int (by have := HP.out; omega), v_int (by rw [HRK.out]; omega), ?_, (hbl.setCell (p := ⟨g, p, none⟩) (Nat.le_refl g) _), by first | (simp; omega) | simpa using hgw⟩
            rw [tab_congr _ (fun i => if i = p then Value.int .i64 (X : Int) else Value.int .i64 (if k ≤ i + d then someF k r i else 0)) k ?_]
            · exact st
            · intro i hi
              have := HP.out
              by_cases h1 : i = p
              · rw [if_pos h1, if_pos (by omega), h1, HSF.out]
              · rw [if_neg h1]
                by_cases h2 : k ≤ i + d
                · rw [if_pos h2, if_pos (by omega)]
                · rw [if_neg h2, if_neg (by omega)]
          case measure => simp [intOf]
    · obtain rfl : d = k := by omega
      have h0 : (d : Int) - (d : Int) = 0 := by omega
      rw [h0]
      go_wp2_with fail
      go_ret2
      rw [HG.out]
      refine ⟨_, rfl, ?_, hbl⟩
      rw [tab_map, tab_congr _ (fun i => Value.int .i64 (if d ≤ i + d then someF d r i else 0)) d (fun i _ => by rw [if_pos (by omega)])]
      exact how
end Go.Proofs.YtgodgfnfaiiohaaGreatDoor
