/- Contract of cum.Even at every input. -/
import Derived.Test.YtgodgfnfaiiohaaGreatDoorEvenMath
namespace Go.Proofs.YtgodgfnfaiiohaaGreatDoor
open Go.ChangeShapes Go.WideShapes Go.ChangeAt Go.RowKit
set_option maxRecDepth 20000
open SortMath

/-- The error of Even, 0 if there is none. -/
def evE (xs : List Int) (n : Nat) (k start : Int) : Int := if wtsE xs n = 0 then (if 1 ≤ k ∧ k ≤ 1000 ∧ 0 ≤ start ∧ start < sumK xs n then 0 else 1) else wtsE xs n
theorem evE_zero (xs : List Int) (n : Nat) (k start : Int) (h : evE xs n k start = 0) : wtsE xs n = 0 ∧ 1 ≤ k ∧ k ≤ 1000 ∧ 0 ≤ start ∧ start < sumK xs n := by
  unfold evE at h
  by_cases h1 : wtsE xs n = 0
  · rw [if_pos h1] at h
    by_cases h2 : 1 ≤ k ∧ k ≤ 1000 ∧ 0 ≤ start ∧ start < sumK xs n
    · exact ⟨h1, h2⟩
    · rw [if_neg h2] at h; omega
  · rw [if_neg h1] at h; omega

set_option maxHeartbeats 2000000 in
theorem even_bad (a : Option Addr) (n c : Nat) (xs : List Int) (k start : Int) (w : World) (h : IntsAt w a n c xs) (he : evE xs n k start ≠ 0) :
    Calls Tryz.prog 75 #[.slice a n c, .int .i64 k, .int .i64 start] w fun e w' => e = .returned (.tuple #[.slice none 0 0, .int .i64 (evE xs n k start)]) ∧ w = w' := by
  have C := hidp (weights_c a n c xs w h)
  have wb := wtsE_bd xs n
  obtain ⟨wb1, wb2⟩ := wb
  clear h
  by_cases hw : wtsE xs n = 0
  · obtain ⟨h1, h2, h3⟩ := wtsE_zero xs n hw
    have V := hidp (show wtsV xs n = sumK xs n by unfold wtsV; rw [if_pos hw])
    have hno : ¬ (1 ≤ k ∧ k ≤ 1000 ∧ 0 ≤ start ∧ start < sumK xs n) := fun h => he (by unfold evE; rw [if_pos hw, if_pos h])
    have E := hidp (show evE xs n k start = 1 by unfold evE; rw [if_pos hw, if_neg hno])
    have HW := hidp hw
    clear hw he wb1 wb2
    rw [V.out, HW.out] at C
    clear V
    generalize sumK xs n = A at *
    by_cases c1 : k < 1
    · clear hno
      go_enter Tryz.func75, Tryz.ntmps75
      go_wp2_with fail
      refine C.out.mono ?_; rintro e w' ⟨rfl, rfl⟩
      go_wp2_with fail
      go_ret2
      exact ⟨by rw [E.out]; rfl, rfl⟩
    · by_cases c2 : 1000 < k
      · clear hno
        go_enter Tryz.func75, Tryz.ntmps75
        go_wp2_with fail
        refine C.out.mono ?_; rintro e w' ⟨rfl, rfl⟩
        go_wp2_with fail
        go_ret2
        exact ⟨by rw [E.out]; rfl, rfl⟩
      · have c1' : 1 ≤ k := by omega
        by_cases c3 : start < 0
        · clear hno
          go_enter Tryz.func75, Tryz.ntmps75
          go_wp2_with fail
          refine C.out.mono ?_; rintro e w' ⟨rfl, rfl⟩
          go_wp2_with fail
          go_ret2
          exact ⟨by rw [E.out]; rfl, rfl⟩
        · have c4 : A ≤ start := by omega
          have c3' : 0 ≤ start := by omega
          clear hno
          go_enter Tryz.func75, Tryz.ntmps75
          go_wp2_with fail
          refine C.out.mono ?_; rintro e w' ⟨rfl, rfl⟩
          go_wp2_with fail
          go_ret2
          exact ⟨by rw [E.out]; rfl, rfl⟩
  · have E := hidp (show evE xs n k start = wtsE xs n by unfold evE; rw [if_neg hw])
    have hne : (wtsE xs n != 0) = true := by rw [bne_iff_ne]; exact hw
    clear he hw
    generalize wtsE xs n = W at *
    go_enter Tryz.func75, Tryz.ntmps75
    go_wp2_with fail
    refine C.out.mono ?_; rintro e w' ⟨rfl, rfl⟩
    go_wp2_with fail
    go_ret2
    exact ⟨by rw [E.out]; rfl, rfl⟩

set_option maxHeartbeats 4000000 in
theorem even_ok (a : Option Addr) (n c : Nat) (xs : List Int) (K start : Nat) (k s0 : Int) (hk : k = K) (hs0 : s0 = start) (w : World) (h : IntsAt w a n c xs) (hn : n ≤ 40) (hok : okN xs n = true) (hK1 : 1 ≤ K) (hK2 : K ≤ 1000) (hs : (start : Int) < sumK xs n) :
    Calls Tryz.prog 75 #[.slice a n c, .int .i64 k, .int .i64 s0] w fun e w' => ∃ v, e = .returned (.tuple #[v, .int .i64 0]) ∧ w'.ownsRow w.heap.size 3 1 v n ((tab (evM xs K start n) n).map (Value.int .i64)) ∧ Below w.heap.size w w' := by
  subst hk hs0
  obtain ⟨ib, hib, hz0, hz1, hz2⟩ := info_parts info_int
  have hz : wtsE xs n = 0 := wtsE_ok xs n hn hok (by omega)
  have C := hidp (weights_c a n c xs w h)
  rw [show wtsV xs n = sumK xs n by unfold wtsV; rw [if_pos hz], hz] at C
  have SC := hidp (fun W hW => sums_c a n c xs W (h.below hW) hn hok)
  have hA := sumK_ok xs n hok
  have OK := hidp hok
  have hn0 : 0 < n := by
    rcases Nat.eq_zero_or_pos n with e | e
    · subst e; simp [sumK] at hs; omega
    · exact e
  obtain ⟨A, hAe⟩ : ∃ A, A = sumK xs n := ⟨_, rfl⟩
  rw [← hAe] at C hA hs
  have HAE := hidp hAe
  have hA4 : 0 ≤ A ∧ A ≤ 40000000000000 := by omega
  obtain ⟨hA1, hA2⟩ := hA4
  clear hz h hok hAe hA
  go_enter Tryz.func75, Tryz.ntmps75
  go_wp2_with fail
  refine C.out.mono ?_; rintro e w' ⟨rfl, rfl⟩
  go_wp2_with (at_make; refine wpList_make_full w rfl _ _ 37 rfl w.heap.size 3 ib (.int .i64 0) 1 Tryz.underlying37 hib hz0 hz1 .i64 .i64 n n n rfl rfl rfl rfl (by rw [hz2]; omega) (by unfold maxLen; omega) (Nat.le_refl _) ?_; intro wb how hgr)
  have hbb : Below w.heap.size w wb := below_new hgr
  have hgl : w.heap.size < wb.heap.size := (how.lt w.heap.size rfl).2
  have e0 : (madeCells (Value.int .i64 0).cells (n * 1)).toList = tab (fun t => Value.int .i64 (evF xs K A start 0 t)) n := by
    show (madeCells #[Value.int .i64 0] (n * 1)).toList = _
    rw [made_tab]; rfl
  rw [e0] at how
  clear e0 hgr
  refine (SC.out wb hbb).mono ?_
  rintro e wc ⟨v, rfl, hv, hbc⟩
  obtain ⟨gs, cs, hve, hgsB, hgsl, hcs1, hcs2⟩ := owns_addr hv hn0
  subst hve
  have howc := how.kept (row := none) ⟨hbc.os, hbc.tape, hbc.output, hbc.size, fun k hk _ => hbc.block k hk⟩ (by simp [Value.ownBlock])
  have HS := hidp (fun t (ht : t < n) => show wc.cell? ⟨gs, t, none⟩ = some (.int .i64 (sumK xs (t + 1))) by rw [hv.cellAt t (by omega), tab_map, tab_get _ _ _ ht])
  have hbwc : Below w.heap.size w wc := bstep hbb hbc
  have hgcl : w.heap.size < wc.heap.size := by omega
  have hne : w.heap.size ≠ gs := by omega
  clear hv how hbb hbc SC C
  generalize hgg : w.heap.size = g at *
  have HG := hidp hgg
  clear hgg
  have SKB := hidp (fun t (ht : t ≤ n) => show 0 ≤ sumK xs t * (K : Int) ∧ sumK xs t * (K : Int) ≤ 40000000000000000 by
    have a := sumK_ok xs t (okN_down xs n t OK.out ht)
    obtain ⟨T, hT⟩ := Int.eq_ofNat_of_zero_le a.1
    rw [hT] at a ⊢
    exact ⟨Int.mul_nonneg (by omega) (by omega), mul_le_cast (A := 40000000000000) (B := 1000) (by omega) hK2⟩)
  have JAB := hidp (fun j (hj : j < K) => show 0 ≤ (j : Int) * A ∧ (j : Int) * A ≤ 40000000000000000 ∧ (start : Int) + (j : Int) * A < A * K ∧ (j : Int) * A ≤ ((j + 1 : Nat) : Int) * A by
    obtain ⟨A', rfl⟩ := Int.eq_ofNat_of_zero_le hA1
    have b1 := mul_le_cast (a := j) (b := A') (A := 1000) (B := 40000000000000) (by omega) (by omega)
    have b2 : (j + 1) * A' ≤ K * A' := Nat.mul_le_mul_right A' (by omega)
    have b3 : ((j + 1 : Nat) : Int) * (A' : Int) ≤ (K : Int) * (A' : Int) := by rw [← Int.natCast_mul, ← Int.natCast_mul]; omega
    rw [Int.natCast_add, Int.add_mul] at b3 ⊢
    rw [Int.mul_comm (A' : Int) (K : Int)]
    refine ⟨Int.mul_nonneg (by omega) (by omega), b1, ?_, ?_⟩ <;> (simp at b3 ⊢; omega))
  go_wp2_with fail
  go_loopw [12, 43] (fun si sj wr => ∃ j i : Nat, j ≤ K ∧ i < n ∧ sj = .int .i64 j ∧ si = .int .i64 i ∧ Hid (sumK xs i * K ≤ start + (j : Int) * A) ∧ wr.ownsRow g 3 1 (.slice (some ⟨g, 0, none⟩) n n) n (tab (fun t => Value.int .i64 (evF xs K A start j t)) n) ∧ Hid (∀ t, t < n → wr.cell? ⟨gs, t, none⟩ = some (.int .i64 (sumK xs (t + 1)))) ∧ Below g w wr) (fun _ sj _ => K - (intOf sj).toNat)
  case atStart => exact ⟨0, 0, by omega, hn0, rfl, rfl, hidp (by simp [sumK]), howc, HS, hbwc⟩
  case round =>
    obtain ⟨j, i0, hj, hi0, rfl, rfl, hlo, ho, hs', hbl⟩ := hrel
    by_cases hlt : j < K
    · obtain ⟨ja1, ja2, ja3, ja4⟩ := JAB.out j hlt
      have JA4 := hidp ja4
      clear ja4
      go_wp2_with fail
      go_loop [12] (fun si => ∃ i : Nat, i < n ∧ si = .int .i64 i ∧ Hid (sumK xs i * K ≤ start + (j : Int) * A)) (fun si => n - (intOf si).toNat)
      case atStart => exact ⟨i0, hi0, rfl, hlo⟩
      case round =>
        obtain ⟨i, hi, rfl, hli⟩ := hrel
        have q := hs'.out i hi
        obtain ⟨k1, k2⟩ := SKB.out (i + 1) (by omega)
        by_cases hc : sumK xs (i + 1) * K ≤ start + (j : Int) * A
        · have hin : i + 1 < n := by
            rcases Nat.lt_or_ge (i + 1) n with h | h
            · exact h
            · have : sumK xs (i + 1) = A := by rw [HAE.out, show i + 1 = n by omega]
              rw [this] at hc
              omega
          have HC := hidp hc
          go_wp2_with fail
          go_round
          case rel => exact ⟨i + 1, hin, by go_num, HC⟩
          case measure => simp [intOf]; omega
        · have hcf : (start : Int) + (j : Int) * A < sumK xs (i + 1) * K := by omega
          have hit1 : hit xs K A start i j = true := by
            rw [hit, decide_eq_true_eq]; exact ⟨hli.out, hcf⟩
          have HIT := hidp hit1
          have o1 := ho.frozenAt i
          have o2 := ho.cellAt i (by omega)
          rw [tab_get _ _ _ hi] at o2
          have EB : 0 ≤ evF xs K A start j i ∧ evF xs K A start j i ≤ 1000 := by
            have := cn_le (hit xs K A start i) j
            unfold evF; omega
          obtain ⟨EB1, EB2⟩ := EB
          have ST : ∀ t, t < n → evF xs K A start (j + 1) t = if t = i then evF xs K A start j i + 1 else evF xs K A start j t := fun t ht => by
            unfold evF
            by_cases e : t = i
            · rw [if_pos e, e]; simp only [cn]; rw [if_pos HIT.out]; rfl
            · rw [if_neg e]; simp only [cn]
              rw [if_neg (by rw [hit_other xs n OK.out K A start (by omega) i t j hi ht HIT.out e]; simp)]; rfl
          have HST := hidp ST
          clear hit1 ST hc
          go_wp2_with fail
          go_roundw
          case rel =>
            have st := own_store_tab ho i (.int .i64 (evF xs K A start j i + 1))
            refine ⟨j + 1, i, by omega, hi, by go_num, rfl, hidp (Int.le_trans hli.out (by have := JA4.out; omega)), ?_, hidp (fun t ht => ?_), hbl.setCell (p := ⟨g, i, none⟩) (Nat.le_refl _) _⟩
            · rw [tab_congr _ (fun t => if t = i then Value.int .i64 (evF xs K A start j i + 1) else Value.int .i64 (evF xs K A start j t)) n (fun t ht => by rw [HST.out t ht]; split <;> rfl)]
              exact st
            · rw [World.cell?_setCell_far _ _ _ _ hne]
              exact hs'.out t ht
          case measure => simp [intOf]; omega
    · obtain rfl : j = K := by omega
      go_wp2_with fail
      go_ret2
      rw [HG.out]
      refine ⟨_, rfl, ?_, hbl⟩
      rw [tab_map, tab_congr (fun t => Value.int .i64 (evM xs j start n t)) (fun t => Value.int .i64 (evF xs j A start j t)) n (fun t _ => by unfold evM; rw [HAE.out]; rfl)]
      exact ho
end Go.Proofs.YtgodgfnfaiiohaaGreatDoor
