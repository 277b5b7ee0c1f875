/- Contracts of package regs. -/
import Derived.Test.YtfhmckmglkjbeaaCFunc
import Derived.Test.YtfhmckmglkjbeaaKit
import Derived.Test.YtfhmckmglkjbeaaEqI
import Derived.Test.YtfhmckmglkjbeaaNum
import Derived.Test.YtfhmckmglkjbeaaShelf
import Derived.StillTailTactics
import Derived.Lib.MinMax
namespace Go.Proofs.Ytfhmckmglkjbeaa
open Go.ChangeShapes Go.WideShapes Go.ChangeAt Go.RowKit
set_option maxRecDepth 20000

def rgP (x : Int) : Bool := decide (x < 0) || decide (57 < x)
theorem rgP_true (x : Int) : rgP x = true ↔ x < 0 ∨ 57 < x := by unfold rgP; rw [Bool.or_eq_true, decide_eq_true_eq, decide_eq_true_eq]
/-- May there be so many? -/
def rgN (n : Nat) : Prop := n = 1 ∨ n = 2 ∨ n = 4 ∨ n = 8 ∨ n = 16
instance (n : Nat) : Decidable (rgN n) := by unfold rgN; infer_instance
/-- The error that a row of registers gives. -/
def rgE (xs : List Int) (n : Nat) : Int := if rgN n then (if hasF rgP xs n = true then 1 else 0) else 7
def RegOk (xs : List Int) (n : Nat) : Prop := rgN n ∧ ∀ i, i < n → 0 ≤ gi xs i ∧ gi xs i ≤ 57
theorem hasF_any (p : Int → Bool) (xs : List Int) (n : Nat) (h : hasF p xs n = true) : ∃ i, i < n ∧ p (gi xs i) = true := by
  unfold hasF at h
  rw [decide_eq_true_eq] at h
  obtain ⟨i, _, h1, h2⟩ := (idxF_any p xs n n 0 (by omega)).1 h
  exact ⟨i, h1, h2⟩
theorem rgE_ok (xs : List Int) (n : Nat) (h : RegOk xs n) : rgE xs n = 0 := by
  unfold rgE
  rw [if_pos h.1, hasF_false]
  · rfl
  · intro i hi
    cases hp : rgP (gi xs i) with
    | false => rfl
    | true => have := (rgP_true _).1 hp; have := h.2 i hi; omega
theorem rgE_zero (xs : List Int) (n : Nat) (h : rgE xs n = 0) : RegOk xs n := by
  unfold rgE at h
  by_cases hn : rgN n
  · rw [if_pos hn] at h
    refine ⟨hn, fun i hi => ?_⟩
    cases hp : rgP (gi xs i) with
    | true => rw [if_pos (hasF_true rgP xs n ⟨i, hi, hp⟩)] at h; omega
    | false =>
      have : ¬ (gi xs i < 0 ∨ 57 < gi xs i) := fun h2 => by rw [(rgP_true _).2 h2] at hp; cases hp
      omega
  · rw [if_neg hn] at h; omega
theorem rcheck1_c (x : Int) (w : World) :
    Calls Try.prog 53 #[.int .i64 x] w fun e w' => e = .returned (.bool (rgP x)) ∧ Below w.heap.size w w' := by
  have E := hidp (show rgP x = (decide (x < 0) || decide (57 < x)) from rfl)
  by_cases h : x < 0
  · go_enter Try.func53, Try.ntmps53
    go_wp2
    go_ret
    exact ⟨ret_bool (by rw [E.out, decide_eq_true h] <;> simp), Below.refl _ _⟩
  · have H := hidp (decide_eq_false h)
    go_enter Try.func53, Try.ntmps53
    go_wp2
    go_ret
    exact ⟨ret_bool (by rw [E.out, H.out]; simp), Below.refl _ _⟩
theorem rcheck_c (a : Option Addr) (n c : Nat) (xs : List Int) (w : World) (h : IntsAt w a n c xs) :
    Calls Try.prog 39 #[.slice a n c] w fun e w' => e = .returned (.int .i64 (rgE xs n)) ∧ Below w.heap.size w w' := by
  have C := hidp (cfunc_c 53 #[] rgP (fun _ _ => by kernel_rfl) a n c xs w h (fun W i hi hB => (rcheck1_c _ W).mono (fun e w' ⟨h1, h2⟩ => ⟨h1, hB.trans (h2.mono hB.size)⟩)))
  have mm := h.max
  have ee := h.le
  clear h
  by_cases hn : rgN n
  · cases hf : hasF rgP xs n with
    | true =>
      have E := hidp (show rgE xs n = 1 by unfold rgE; rw [if_pos hn, if_pos hf])
      rw [hf] at C
      clear hf
      rcases hn with rfl | rfl | rfl | rfl | rfl
      · go_enter Try.func39, Try.ntmps39
        go_wp2_with fail
        refine C.out.mono ?_
        rintro e w1 ⟨rfl, hb⟩
        go_wp2_with fail
        go_ret
        exact ⟨by rw [E.out] <;> rfl, hb⟩
      · go_enter Try.func39, Try.ntmps39
        go_wp2_with fail
        refine C.out.mono ?_
        rintro e w1 ⟨rfl, hb⟩
        go_wp2_with fail
        go_ret
        exact ⟨by rw [E.out] <;> rfl, hb⟩
      · go_enter Try.func39, Try.ntmps39
        go_wp2_with fail
        refine C.out.mono ?_
        rintro e w1 ⟨rfl, hb⟩
        go_wp2_with fail
        go_ret
        exact ⟨by rw [E.out] <;> rfl, hb⟩
      · go_enter Try.func39, Try.ntmps39
        go_wp2_with fail
        refine C.out.mono ?_
        rintro e w1 ⟨rfl, hb⟩
        go_wp2_with fail
        go_ret
        exact ⟨by rw [E.out] <;> rfl, hb⟩
      · go_enter Try.func39, Try.ntmps39
        go_wp2_with fail
        refine C.out.mono ?_
        rintro e w1 ⟨rfl, hb⟩
        go_wp2_with fail
        go_ret
        exact ⟨by rw [E.out] <;> rfl, hb⟩
    | false =>
      have E := hidp (show rgE xs n = 0 by unfold rgE; rw [if_pos hn, hf]; rfl)
      rw [hf] at C
      clear hf
      rcases hn with rfl | rfl | rfl | rfl | rfl
      · go_enter Try.func39, Try.ntmps39
        go_wp2_with fail
        refine C.out.mono ?_
        rintro e w1 ⟨rfl, hb⟩
        go_wp2_with fail
        go_ret
        exact ⟨by rw [E.out] <;> rfl, hb⟩
      · go_enter Try.func39, Try.ntmps39
        go_wp2_with fail
        refine C.out.mono ?_
        rintro e w1 ⟨rfl, hb⟩
        go_wp2_with fail
        go_ret
        exact ⟨by rw [E.out] <;> rfl, hb⟩
      · go_enter Try.func39, Try.ntmps39
        go_wp2_with fail
        refine C.out.mono ?_
        rintro e w1 ⟨rfl, hb⟩
        go_wp2_with fail
        go_ret
        exact ⟨by rw [E.out] <;> rfl, hb⟩
      · go_enter Try.func39, Try.ntmps39
        go_wp2_with fail
        refine C.out.mono ?_
        rintro e w1 ⟨rfl, hb⟩
        go_wp2_with fail
        go_ret
        exact ⟨by rw [E.out] <;> rfl, hb⟩
      · go_enter Try.func39, Try.ntmps39
        go_wp2_with fail
        refine C.out.mono ?_
        rintro e w1 ⟨rfl, hb⟩
        go_wp2_with fail
        go_ret
        exact ⟨by rw [E.out] <;> rfl, hb⟩
  · have E := hidp (show rgE xs n = 7 by unfold rgE; rw [if_neg hn])
    unfold rgN at hn
    have g1 : (n : Int) ≠ 1 := by omega
    have g2 : (n : Int) ≠ 2 := by omega
    have g4 : (n : Int) ≠ 4 := by omega
    have g8 : (n : Int) ≠ 8 := by omega
    have g16 : (n : Int) ≠ 16 := by omega
    have h1 : ((n : Int) != 1) = true := by rw [bne_iff_ne]; exact g1
    have h2 : ((n : Int) != 2) = true := by rw [bne_iff_ne]; exact g2
    have h4 : ((n : Int) != 4) = true := by rw [bne_iff_ne]; exact g4
    have h8 : ((n : Int) != 8) = true := by rw [bne_iff_ne]; exact g8
    have h16 : ((n : Int) != 16) = true := by rw [bne_iff_ne]; exact g16
    clear C hn g1 g2 g4 g8 g16
    go_enter Try.func39, Try.ntmps39
    go_wp2_with fail
    go_ret
    exact ⟨by rw [E.out] <;> rfl, Below.refl _ _⟩

theorem IntsAt.b1 {w : World} {a : Option Addr} {n c : Nat} {xs : List Int} (h : IntsAt w a n c xs) {w' : World} (hb : Below w.heap.size w w') : IntsAt w' a n c xs := h.below hb
def mxF (xs ys : List Int) (i : Nat) : Int := max (gi xs i) (gi ys i)
set_option maxHeartbeats 2000000 in
theorem rjoin_c (a a' : Option Addr) (n c c' : Nat) (xs ys : List Int) (w : World) (h : IntsAt w a n c xs) (h' : IntsAt w a' n c' ys) (hx : RegOk xs n) (hy : RegOk ys n) :
    Calls Try.prog 17 #[.slice a n c, .slice a' n c'] w fun e w' => ∃ v, e = .returned (.tuple #[v, .int .i64 0]) ∧ w'.ownsRow w.heap.size 3 1 v n ((tab (mxF xs ys) n).map (Value.int .i64)) ∧ Below w.heap.size w w' := by
  have hn : 1 ≤ n ∧ n ≤ 16 := by have := hx.1; unfold rgN at this; omega
  have e1 := rgE_ok xs n hx
  have e2 := rgE_ok ys n hy
  have C1 := hidp (fun W hB => rcheck_c a n c xs W (h.b1 (w' := W) hB))
  have C2 := hidp (fun W hB => rcheck_c a' n c' ys W (h'.b1 (w' := W) hB))
  have CC := hidp (fun W hB => clonei_c a n c xs W (h.b1 (w' := W) hB) (by omega))
  rw [e1] at C1
  rw [e2] at C2
  obtain ⟨b', o', rfl, hb', hc'⟩ := h'.addr (by omega)
  have Q := hidp hc'
  have BX := hidp (fun i (hi : i < n) => hx.2 i hi)
  have BY := hidp (fun i (hi : i < n) => hy.2 i hi)
  have m1 := h.max
  have l1 := h.le
  have m2 := h'.max
  have l2 := h'.le
  have hl := hidp h.len
  have hne : ((n : Int) != (n : Int)) = false := by simp
  clear h h' hx hy e1 e2 hc'
  go_enter Try.func17, Try.ntmps17
  go_wp2_with fail
  refine (C1.out _ (Below.refl _ _)).mono ?_
  rintro e wa ⟨rfl, hba⟩
  go_wp2_with fail
  refine (C2.out _ hba).mono ?_
  rintro e wb ⟨rfl, hbb⟩
  have hbw := bstep hba hbb
  go_wp2_with fail
  refine (CC.out _ hbw).mono ?_
  rintro e wd ⟨v, rfl, hv, hbd⟩
  have hbw2 := bstep hbw hbd
  obtain ⟨g, cp, rfl, hg1, hg2, hg3, hg4⟩ := owns_addr hv (by omega)
  rw [map_tab xs n hl.out] at hv
  have hgw : w.heap.size ≤ g := by have := hbw.size; omega
  have hv0 : wd.ownsRow w.heap.size 3 1 (.slice (some ⟨g, 0, none⟩) n cp) n (tab (fun j => Value.int .i64 (if j < 0 then mxF xs ys j else gi xs j)) n) := by
    rw [tab_congr _ (fun j => Value.int .i64 (gi xs j)) n (fun i _ => by rw [if_neg (by omega)])]
    exact owns_mono hv (by have := hbw.size; omega)
  clear hv hba hbb hbw hbd C1 C2 CC
  go_wp2_with fail
  go_loopw [30] (fun i wr => ∃ k : Nat, k ≤ n ∧ i = .int .i64 k ∧ wr.ownsRow w.heap.size 3 1 (.slice (some ⟨g, 0, none⟩) n cp) n (tab (fun j => Value.int .i64 (if j < k then mxF xs ys j else gi xs j)) n) ∧ Below w.heap.size w wr) (fun i _ => n - (intOf i).toNat)
  case atStart => exact ⟨0, by omega, rfl, hv0, hbw2⟩
  case round =>
    obtain ⟨k, hk, rfl, ho, hbl⟩ := hrel
    by_cases hlt : k < n
    · have q1 := carry_cell ⟨hb', Q.out k hlt⟩ hbl
      have q2 := ho.cellAt k (by omega)
      rw [tab_get _ _ _ hlt, if_neg (by omega)] at q2
      have q3 := ho.frozenAt k
      obtain ⟨x1, x2⟩ := BX.out k hlt
      obtain ⟨y1, y2⟩ := BY.out k hlt
      go_wp2_with fail
      go_roundw
      case rel =>
        have st := own_store_tab ho k (.int .i64 (max (gi xs k) (gi ys k)))
        refine ⟨k + 1, by omega, by go_num, ?_, hbl.setCell (p := ⟨g, k, none⟩) hgw _⟩
        rw [tab_congr _ (fun j => if j = k then Value.int .i64 (max (gi xs k) (gi ys k)) else Value.int .i64 (if j < k then mxF xs ys j else gi xs j)) n (fun j _ => by
          by_cases e : j = k
          · rw [if_pos e, if_pos (by omega), e]; rfl
          · rw [if_neg e]
            by_cases e2 : j < k
            · rw [if_pos e2, if_pos (by omega)]
            · rw [if_neg e2, if_neg (by omega)])]
        exact st
      case measure => simp [intOf]; omega
    · obtain rfl : k = n := by omega
      go_wp2
      go_ret2
      refine ⟨_, rfl, ?_, hbl⟩
      rw [tab_map, tab_congr (fun j => Value.int .i64 (mxF xs ys j)) (fun j => Value.int .i64 (if j < k then mxF xs ys j else gi xs j)) k (fun j hj => by rw [if_pos hj])]
      exact ho
/-- Does each fit under the other's? -/
def fitB (xs ys : List Int) (n : Nat) : Bool := decide (tab (mxF xs ys) n = ys)
theorem mx_ok (xs ys : List Int) (n : Nat) (hx : RegOk xs n) (hy : RegOk ys n) : RegOk (tab (mxF xs ys) n) n := ⟨hx.1, fun i hi => by
  rw [tab_gi _ _ _ hi]
  have := hx.2 i hi
  have := hy.2 i hi
  unfold mxF; omega⟩
theorem owns_regs {w : World} {B : Nat} {e : TypeId} {v : Value} {n : Nat} {f : Nat → Int} (h : w.ownsRow B e 1 v n ((tab f n).map (Value.int .i64))) (hok : RegOk (tab f n) n) : ∃ a c, v = .slice a n c ∧ IntsAt w a n c (tab f n) := owns_ints h (fun x hx => by
  obtain ⟨i, hi, rfl⟩ := tab_mem _ _ _ hx
  have := hok.2 i hi
  rw [tab_gi _ _ _ hi] at this
  omega)
theorem fitB_iff (xs ys : List Int) (n : Nat) (hy : ys.length = n) : fitB xs ys n = true ↔ ∀ i, i < n → gi xs i ≤ gi ys i := by
  unfold fitB
  rw [decide_eq_true_eq]
  constructor
  · intro h i hi
    have := congrArg (fun l => gi l i) h
    simp only [tab_gi _ _ _ hi] at this
    unfold mxF at this
    omega
  · intro h
    refine gi_ext _ _ (by rw [tab_len, hy]) (fun j hj => ?_)
    rw [tab_len] at hj
    rw [tab_gi _ _ _ hj]
    have := h j hj
    unfold mxF
    omega
theorem bl_le : ∀ k x, x < 2 ^ k → x < 2 ^ 64 → Lib.bitLen x ≤ k
  | 0, x, h, _ => by
    obtain rfl : x = 0 := by simpa using h
    decide +kernel
  | k + 1, x, h, h2 => by
    by_cases h0 : x = 0
    · subst h0
      have : Lib.bitLen 0 = 0 := by decide +kernel
      omega
    · rw [Lib.bitLen_half x h0 h2]
      have := bl_le k (x / 2) (by rw [Nat.pow_succ] at h; omega) (by omega)
      omega
theorem bl_half (x : Nat) (h : x < 2 ^ 64) : Lib.bitLen (x / 2) ≤ Lib.bitLen x := by
  by_cases h0 : x = 0
  · subst h0; exact Nat.le_refl _
  · rw [Lib.bitLen_half x h0 h]; omega
theorem bl56 (x : Nat) (h : x < 72057594037927936) : Lib.bitLen x ≤ 56 := bl_le 56 x h (by omega)
/-- The registers behind a number that came. -/
def rpx (n : Nat) (k : Nat) : Int := 57 - (Lib.bitLen (k / n) : Nat)
def rputF (xs : List Int) (n k : Nat) (i : Nat) : Int := if i = k % n then max (gi xs i) (rpx n k) else gi xs i
theorem rpx_bd (n k : Nat) (hk : k < 72057594037927936) : 0 ≤ rpx n k ∧ rpx n k ≤ 57 := by
  have : Lib.bitLen (k / n) ≤ 56 := bl56 (k / n) (Nat.lt_of_le_of_lt (Nat.div_le_self _ _) hk)
  unfold rpx
  omega
theorem rput_ok (xs : List Int) (n k : Nat) (hx : RegOk xs n) (hk : k < 72057594037927936) : RegOk (tab (rputF xs n k) n) n := ⟨hx.1, fun i hi => by
  rw [tab_gi _ _ _ hi]
  have := hx.2 i hi
  have := rpx_bd n k hk
  unfold rputF
  split <;> omega⟩
theorem len_c (x : Nat) (hx : x < 72057594037927936) (w : World) : Calls Try.prog 40 #[.int .u64 x] w fun e w' => e = .returned (.int .i64 (Lib.bitLen x : Nat)) ∧ w = w' :=
  (Try.bits_Len x w (by omega) (by omega)).mono fun e w' h => ⟨h.1.trans (by rw [Int.toNat_natCast]), h.2.symm⟩
set_option maxHeartbeats 4000000 in
theorem rput_c (a : Option Addr) (n c : Nat) (xs : List Int) (k : Nat) (w : World) (h : IntsAt w a n c xs) (hx : RegOk xs n) (hk : k < 72057594037927936) :
    Calls Try.prog 16 #[.slice a n c, .int .i64 k] w fun e w' => ∃ v, e = .returned (.tuple #[v, .int .i64 0]) ∧ w'.ownsRow w.heap.size 3 1 v n ((tab (rputF xs n k) n).map (Value.int .i64)) ∧ Below w.heap.size w w' := by
  have hn : 1 ≤ n ∧ n ≤ 16 := by have := hx.1; unfold rgN at this; omega
  obtain ⟨hn1, hn2⟩ := hn
  have e1 := rgE_ok xs n hx
  have C1 := hidp (rcheck_c a n c xs w h)
  rw [e1] at C1
  have CC := hidp (fun W hB => clonei_c a n c xs W (h.b1 (w' := W) hB) (by omega))
  have m1 := h.max
  have l1 := h.le
  have hl := hidp h.len
  obtain ⟨M, hM⟩ : ∃ M, M = k % n := ⟨_, rfl⟩
  have hMn : M < n := by rw [hM]; exact Nat.mod_lt _ (by omega)
  have hME : (k : Int) % (n : Int) = (M : Int) := by rw [hM]; rfl
  obtain ⟨D, hD⟩ : ∃ D, D = k / n := ⟨_, rfl⟩
  have hDk : D < 72057594037927936 := by rw [hD]; exact Nat.lt_of_le_of_lt (Nat.div_le_self _ _) hk
  have hDE : (k : Int) / (n : Int) = (D : Int) := by rw [hD]; rfl
  have CL := hidp (fun W => len_c D hDk W)
  obtain ⟨B, hB⟩ : ∃ B, B = Lib.bitLen D := ⟨_, rfl⟩
  have hB56 : B ≤ 56 := by rw [hB]; exact bl56 D hDk
  have RP := hidp (show rpx n k = 57 - (B : Int) by unfold rpx; rw [hB, hD])
  rw [← hB] at CL
  have BX := hidp (fun i (hi : i < n) => hx.2 i hi)
  have RF := hidp (fun i => show rputF xs n k i = if i = M then max (gi xs i) (rpx n k) else gi xs i by unfold rputF; rw [hM])
  have hki : (k : Int) < 72057594037927936 := by omega
  clear h hx e1 hM hD hB hk
  go_enter Try.func16, Try.ntmps16
  go_wp2_with fail
  refine C1.out.mono ?_
  rintro e wa ⟨rfl, hba⟩
  go_wp2_with (go_at_call 35; go_in)
  refine (CC.out _ hba).mono ?_
  rintro e wd ⟨v, rfl, hv, hbd⟩
  have hbw2 := bstep hba hbd
  obtain ⟨g, cp, rfl, hg1, hg2, hg3, hg4⟩ := owns_addr hv (by omega)
  rw [map_tab xs n hl.out] at hv
  have q2 := hv.cellAt M (by omega)
  rw [tab_get _ _ _ hMn] at q2
  have q3 := hv.frozenAt M
  obtain ⟨x1, x2⟩ := BX.out M hMn
  have hgw : w.heap.size ≤ g := by have := hba.size; omega
  have hv := owns_mono hv (show w.heap.size ≤ wa.heap.size from hba.size)
  clear hba hbd C1 CC
  go_wp2_with fail
  have hnz : ¬ n = 0 := by omega
  have HWD := hidp (show IntKind.u64.wrap (IntKind.i64.wrap (D : Int)) = (D : Int) by rw [IntWalk.i64_in _ (by constructor <;> omega), IntWalk.u64_in _ (by constructor <;> omega)])
  go_still_tail 15, (by kernel_rfl)
  still_call (by rw [HWD.out]; exact (CL.out _).mono (fun e w' h => ⟨h.1, h.2.symm⟩))
  repeat still_step
  refine wpStill_nil ?_
  change wpList _ _ _ _ _ wd.drew
  have q4 : wd.drew.frozen? ⟨g, M, none⟩ = false := q3
  have q5 : wd.drew.cell? ⟨g, M, none⟩ = some (.int .i64 (gi xs M)) := q2
  have hv2 : wd.drew.ownsRow w.heap.size 3 1 (.slice (some ⟨g, 0, none⟩) n cp) n (tab (fun j => Value.int .i64 (gi xs j)) n) := hv
  have hb2 := hbw2.drew
  clear q2 q3 hv hbw2
  generalize wd.drew = w2 at *
  go_wp2
  go_ret2
  refine ⟨_, rfl, ?_, hb2.setCell (p := ⟨g, M, none⟩) hgw _⟩
  have st := own_store_tab hv2 M (.int .i64 (max (gi xs M) (57 - (B : Int))))
  rw [tab_map, tab_congr _ (fun j => if j = M then Value.int .i64 (max (gi xs M) (57 - (B : Int))) else Value.int .i64 (gi xs j)) n (fun j _ => by
    rw [RF.out, RP.out]
    by_cases e : j = M
    · rw [if_pos e, if_pos e, e]
    · rw [if_neg e, if_neg e])]
  exact st
end Go.Proofs.Ytfhmckmglkjbeaa
