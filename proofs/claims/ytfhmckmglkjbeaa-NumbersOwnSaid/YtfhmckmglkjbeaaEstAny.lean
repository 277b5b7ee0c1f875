/- est.look and est.Sum exactly, whatever comes; est.Spread returns, whatever comes. -/
import Derived.Test.YtfhmckmglkjbeaaMgEst
import Derived.Test.YtfhmckmglkjbeaaMgNumAny
import Derived.BigQuiet
namespace Go.Proofs.Ytfhmckmglkjbeaa
open Go.ChangeShapes Go.WideShapes Go.ChangeAt Go.RowKit
set_option maxRecDepth 20000
def lkF (vs ls : List Int) (i : Nat) : Int := if gi vs i < -1000000000000 ∨ 1000000000000 < gi vs i ∨ gi ls i < 0 ∨ 20 < gi ls i then 1 else 0
def lkE (vs ls : List Int) (n m : Nat) : Int := if 40 < n ∨ 40 < m then 2 else if n ≠ m then 7 else fE (lkF vs ls) n
theorem lkE_ok (vs ls : List Int) (n m : Nat) (h : lkE vs ls n m = 0) : n = m ∧ n ≤ 40 ∧ ∀ i, i < n → (-1000000000000 ≤ gi vs i ∧ gi vs i ≤ 1000000000000) ∧ 0 ≤ gi ls i ∧ gi ls i ≤ 20 := by
  have e1 : ¬ (40 < n ∨ 40 < m) := fun e => by unfold lkE at h; rw [if_pos e] at h; omega
  have e2 : n = m := by
    by_cases e : n = m
    · exact e
    · unfold lkE at h; rw [if_neg e1, if_pos e] at h; omega
  unfold lkE at h
  rw [if_neg e1, if_neg (fun e => e e2)] at h
  refine ⟨e2, by omega, fun i hi => ?_⟩
  have := fE_zero _ n h i hi
  unfold lkF at this
  by_cases e : gi vs i < -1000000000000 ∨ 1000000000000 < gi vs i ∨ gi ls i < 0 ∨ 20 < gi ls i
  · rw [if_pos e] at this; omega
  · omega
set_option maxHeartbeats 4000000 in
theorem look_e (a0 a1 : Option Addr) (n m c0 c1 : Nat) (vs ls : List Int) (w : World) (h0 : IntsAt w a0 n c0 vs) (h1 : IntsAt w a1 m c1 ls) :
    Calls Try.prog 44 #[.slice a0 n c0, .slice a1 m c1] w fun e w' => e = .returned (.int .i64 (lkE vs ls n m)) ∧ w = w' := by
  have m0 := h0.max
  have m1 := h1.max
  have l0 := h0.le
  have l1 := h1.le
  by_cases e1 : 40 < n ∨ 40 < m
  · rw [show lkE vs ls n m = 2 by unfold lkE; rw [if_pos e1]]
    by_cases e2 : (40 : Int) < (n : Int)
    · clear h0 h1 e1
      go_enter Try.func44, Try.ntmps44
      go_wp2
      go_ret
      exact ⟨rfl, rfl⟩
    · have e3 : (40 : Int) < (m : Int) := by omega
      clear h0 h1 e1
      go_enter Try.func44, Try.ntmps44
      go_wp2
      go_ret
      exact ⟨rfl, rfl⟩
  have n1 : ¬ (40 : Int) < (n : Int) := by omega
  have n2 : ¬ (40 : Int) < (m : Int) := by omega
  by_cases e4 : n = m
  · subst e4
    have EE := hidp (show lkE vs ls n n = fE (lkF vs ls) n by unfold lkE; rw [if_neg e1, if_neg (fun e => e rfl)])
    clear e1
    rcases Nat.eq_zero_or_pos n with hz | hz
    · subst hz
      have RV := hidp (show lkE vs ls 0 0 = 0 from EE.out)
      clear h0 h1
      go_enter Try.func44, Try.ntmps44
      go_wp2_with fail
      refine wp_loop_rounds 1 ?_; rw [rounds_succ]
      go_wp2
      go_ret
      exact ⟨by rw [RV.out] <;> rfl, rfl⟩
    · obtain ⟨b0, o0, rfl, hb0, hc0⟩ := h0.addr hz
      obtain ⟨b1, o1, rfl, hb1, hc1⟩ := h1.addr hz
      have C0 := hidp hc0
      have C1 := hidp hc1
      clear hc0 hc1 h0 h1
      go_enter Try.func44, Try.ntmps44
      go_wp2_with fail
      go_loop [22] (fun i => ∃ k : Nat, k ≤ n ∧ i = .int .i64 k ∧ Hid (fE (lkF vs ls) k = 0)) (fun i => n - (intOf i).toNat)
      case atStart => exact ⟨0, by omega, rfl, rfl⟩
      case round =>
        obtain ⟨k, hk, rfl, FE⟩ := hrel
        by_cases hlt : k < n
        · have q0 := C0.out k hlt
          have q1 := C1.out k hlt
          have NX := hidp (fun h => fE_next (lkF vs ls) k FE.out h)
          have AT := hidp (fun h => fE_at (lkF vs ls) k n FE.out h hlt)
          by_cases d : gi vs k < -1000000000000 ∨ 1000000000000 < gi vs k ∨ gi ls k < 0 ∨ 20 < gi ls k
          · have hv : lkF vs ls k = 1 := by unfold lkF; rw [if_pos d]
            have RV := hidp (show lkE vs ls n n = 1 by rw [EE.out, AT.out (by rw [hv]; omega), hv])
            clear hv
            generalize gi vs k = X at *
            generalize gi ls k = Y at *
            by_cases d1 : X < -1000000000000
            · clear d
              go_wp2
              go_ret
              exact ⟨by rw [RV.out] <;> rfl, rfl⟩
            by_cases d2 : 1000000000000 < X
            · clear d
              go_wp2
              go_ret
              exact ⟨by rw [RV.out] <;> rfl, rfl⟩
            by_cases d3 : Y < 0
            · clear d
              go_wp2
              go_ret
              exact ⟨by rw [RV.out] <;> rfl, rfl⟩
            · have d4 : 20 < Y := by omega
              clear d
              go_wp2
              go_ret
              exact ⟨by rw [RV.out] <;> rfl, rfl⟩
          · have hv : lkF vs ls k = 0 := by unfold lkF; rw [if_neg d]
            have RV := hidp (NX.out hv)
            clear hv
            generalize gi vs k = X at *
            generalize gi ls k = Y at *
            have d1 : ¬ X < -1000000000000 := fun e => d (.inl e)
            have d2 : ¬ 1000000000000 < X := fun e => d (.inr (.inl e))
            have d3 : ¬ Y < 0 := fun e => d (.inr (.inr (.inl e)))
            have d4 : ¬ 20 < Y := fun e => d (.inr (.inr (.inr e)))
            clear d
            go_wp2
            go_round
            case rel => exact ⟨k + 1, by omega, by go_num, RV⟩
            case measure => simp [intOf]; omega
        · obtain rfl : k = n := by omega
          go_wp2
          go_ret
          exact ⟨by rw [EE.out, FE.out] <;> rfl, rfl⟩
  · rw [show lkE vs ls n m = 7 by unfold lkE; rw [if_neg e1, if_pos e4]]
    have e6 : ((n : Int) != (m : Int)) = true := by rw [bne_iff_ne]; omega
    clear h0 h1 e1 e4
    go_enter Try.func44, Try.ntmps44
    go_wp2
    go_ret
    exact ⟨rfl, rfl⟩
/-- The estimate of the first k, as int64 has it. -/
def estW (vs ls rs : List Int) : Nat → Int
  | 0 => 0
  | k + 1 => if lev (gi ls k).toNat ≤ gi rs k then wrap64 (estW vs ls rs k + gi vs k * 2 ^ (gi ls k).toNat) else estW vs ls rs k
def rdF (rs : List Int) (i : Nat) : Int := if gi rs i < 0 ∨ 72057594037927936 ≤ gi rs i then 1 else 0
def sumE (vs ls rs : List Int) (n m k : Nat) : Int := if lkE vs ls n m = 0 then (if k = n then fE (rdF rs) n else 7) else lkE vs ls n m
def sumV (vs ls rs : List Int) (n m k : Nat) : Int := if sumE vs ls rs n m k = 0 then estW vs ls rs n else 0
set_option maxHeartbeats 4000000 in
theorem sum_e (a0 a1 a2 : Option Addr) (n m q c0 c1 c2 : Nat) (vs ls rs : List Int) (w : World) (h0 : IntsAt w a0 n c0 vs) (h1 : IntsAt w a1 m c1 ls) (h2 : IntsAt w a2 q c2 rs) :
    Calls Try.prog 19 #[.slice a0 n c0, .slice a1 m c1, .slice a2 q c2] w fun e w' => e = .returned (.tuple #[.int .i64 (sumV vs ls rs n m q), .int .i64 (sumE vs ls rs n m q)]) ∧ Below w.heap.size w w' := by
  have m0 := h0.max
  have m2 := h2.max
  have l0 := h0.le
  have l2 := h2.le
  have CL := hidp (look_e a0 a1 n m c0 c1 vs ls w h0 h1)
  by_cases e1 : lkE vs ls n m = 0
  · rw [e1] at CL
    obtain ⟨rfl, hn40, hbd⟩ := lkE_ok vs ls n m e1
    by_cases e2 : q = n
    · subst e2
      have EE := hidp (show sumE vs ls rs q q q = fE (rdF rs) q by unfold sumE; rw [if_pos e1, if_pos rfl])
      have HD := hidp hbd
      clear e1 hbd
      rcases Nat.eq_zero_or_pos q with hz | hz
      · subst hz
        have RE := hidp (show sumE vs ls rs 0 0 0 = 0 from EE.out)
        have RV := hidp (show sumV vs ls rs 0 0 0 = 0 by unfold sumV; rw [if_pos RE.out]; rfl)
        clear h0 h1 h2
        go_enter Try.func19, Try.ntmps19
        go_wp2_with fail
        refine CL.out.mono ?_; rintro e w' ⟨rfl, rfl⟩
        go_wp2_with fail
        refine wp_loop_rounds 1 ?_; rw [rounds_succ]
        go_wp2
        go_ret2
        exact ⟨by rw [RE.out, RV.out] <;> rfl, Below.refl _ _⟩
      · obtain ⟨b0, o0, rfl, hb0, hc0⟩ := h0.addr hz
        obtain ⟨b1, o1, rfl, hb1, hc1⟩ := h1.addr hz
        obtain ⟨b2, o2, rfl, hb2, hc2⟩ := h2.addr hz
        have C0 := hidp hc0
        have C1 := hidp hc1
        have C2 := hidp hc2
        clear hc0 hc1 hc2 h0 h1 h2
        go_enter Try.func19, Try.ntmps19
        go_wp2_with fail
        refine CL.out.mono ?_; rintro e w' ⟨rfl, rfl⟩
        go_wp2_with fail
        go_loopw [9, 25] (fun s i wr => ∃ k : Nat, k ≤ q ∧ i = .int .i64 k ∧ s = .int .i64 (estW vs ls rs k) ∧ Hid (fE (rdF rs) k = 0) ∧ Below w.heap.size w wr) (fun _ i _ => q - (intOf i).toNat)
        case atStart => exact ⟨0, by omega, rfl, rfl, rfl, Below.refl _ _⟩
        case round =>
          obtain ⟨k, hk, rfl, rfl, FE, hbl⟩ := hrel
          by_cases hlt : k < q
          · have q0 := carry_cell ⟨hb0, C0.out k hlt⟩ hbl
            have q1 := carry_cell ⟨hb1, C1.out k hlt⟩ hbl
            have q2 := carry_cell ⟨hb2, C2.out k hlt⟩ hbl
            obtain ⟨⟨q3, q4⟩, q5, q6⟩ := HD.out k hlt
            have NX := hidp (fun h => fE_next (rdF rs) k FE.out h)
            have AT := hidp (fun h => fE_at (rdF rs) k q FE.out h hlt)
            by_cases d : gi rs k < 0 ∨ 72057594037927936 ≤ gi rs k
            · have hv : rdF rs k = 1 := by unfold rdF; rw [if_pos d]
              have RE := hidp (show sumE vs ls rs q q q = 1 by rw [EE.out, AT.out (by rw [hv]; omega), hv])
              have RV := hidp (show sumV vs ls rs q q q = 0 by unfold sumV; rw [if_neg (by rw [RE.out]; omega)])
              clear hv
              by_cases d1 : gi rs k < 0
              · clear d
                go_wp2
                go_ret2
                exact ⟨by rw [RE.out, RV.out] <;> rfl, hbl⟩
              · have d2 := d.resolve_left d1
                clear d
                go_wp2
                go_ret2
                exact ⟨by rw [RE.out, RV.out] <;> rfl, hbl⟩
            · have hv : rdF rs k = 0 := by unfold rdF; rw [if_neg d]
              have RN := hidp (NX.out hv)
              have q7 : ¬ gi rs k < 0 := fun e => d (.inl e)
              have q8 : ¬ 72057594037927936 ≤ gi rs k := fun e => d (.inr e)
              clear hv d
              have q9 := lev_lo (gi ls k).toNat
              have q10 := lev_hi (gi ls k).toNat
              by_cases hkp : lev (gi ls k).toNat ≤ gi rs k
              · have E2 := hidp (show estW vs ls rs (k + 1) = wrap64 (estW vs ls rs k + gi vs k * 2 ^ (gi ls k).toNat) by simp only [estW]; rw [if_pos hkp])
                have p1 := est1_bd 1000000000000 (gi vs k) (gi ls k) (gi rs k) ⟨q5, q6⟩ ⟨q3, q4⟩
                have p0 : est1 (gi vs k) (gi ls k) (gi rs k) = gi vs k * 2 ^ (gi ls k).toNat := by unfold est1; rw [if_pos hkp]
                have p2 : (0 : Int) ≤ 2 ^ (gi ls k).toNat := Int.le_of_lt (Int.pow_pos (by omega))
                have p3 : (2 : Int) ^ (gi ls k).toNat ≤ 1048576 := two_pow_le _ (by omega)
                rw [p0] at p1
                obtain ⟨p1a, p1b⟩ := p1
                clear p0
                unfold lev at q9 q10 hkp
                go_wp2_with fail
                go_quiet (fail)
                go_wp2
                go_roundw
                case rel => exact ⟨k + 1, by omega, by go_num, v_int (by rw [E2.out]), RN, below_drewN hbl _⟩
                case measure => simp [intOf]; omega
              · have E2 := hidp (show estW vs ls rs (k + 1) = estW vs ls rs k by simp only [estW]; rw [if_neg hkp])
                unfold lev at q9 q10 hkp
                go_wp2
                go_roundw
                case rel => exact ⟨k + 1, by omega, by go_num, v_int (by rw [E2.out]), RN, hbl⟩
                case measure => simp [intOf]; omega
          · obtain rfl : k = q := by omega
            have RE := hidp (show sumE vs ls rs k k k = 0 by rw [EE.out]; exact FE.out)
            have RV := hidp (show sumV vs ls rs k k k = estW vs ls rs k by unfold sumV; rw [if_pos RE.out])
            go_wp2
            go_ret2
            exact ⟨by rw [RE.out, RV.out] <;> rfl, hbl⟩
    · have RE := hidp (show sumE vs ls rs n n q = 7 by unfold sumE; rw [if_pos e1, if_neg e2])
      have RV := hidp (show sumV vs ls rs n n q = 0 by unfold sumV; rw [if_neg (by rw [RE.out]; omega)])
      have e6 : ((q : Int) != (n : Int)) = true := by rw [bne_iff_ne]; omega
      clear h0 h1 h2 e1 e2 hbd
      go_enter Try.func19, Try.ntmps19
      go_wp2_with fail
      refine CL.out.mono ?_; rintro e w' ⟨rfl, rfl⟩
      go_wp2
      go_ret2
      exact ⟨by rw [RE.out, RV.out] <;> rfl, Below.refl _ _⟩
  · have RE := hidp (show sumE vs ls rs n m q = lkE vs ls n m by unfold sumE; rw [if_neg e1])
    have RV := hidp (show sumV vs ls rs n m q = 0 by unfold sumV; rw [if_neg (by rw [RE.out]; exact e1)])
    have hne : (lkE vs ls n m != 0) = true := by rw [bne_iff_ne]; exact e1
    clear h0 h1 h2 e1
    generalize lkE vs ls n m = E at *
    go_enter Try.func19, Try.ntmps19
    go_wp2_with fail
    refine CL.out.mono ?_; rintro e w' ⟨rfl, rfl⟩
    go_wp2
    go_ret2
    exact ⟨by rw [RE.out, RV.out] <;> rfl, Below.refl _ _⟩
theorem sq_bd6 (v : Int) (h : -1000000 ≤ v ∧ v ≤ 1000000) : 0 ≤ v * v ∧ v * v ≤ 1000000000000 := by
  have h1 : v.natAbs * v.natAbs ≤ 1000000 * 1000000 := Nat.mul_le_mul (by omega) (by omega)
  have h2 : v * v = ((v.natAbs * v.natAbs : Nat) : Int) := Int.natAbs_mul_self.symm
  omega
theorem spr_bd6 (q P : Int) (h : 0 ≤ q ∧ q ≤ 1000000000000) (hP : 1 ≤ P ∧ P ≤ 1048576) : 0 ≤ q * (P - 1) ∧ q * (P - 1) ≤ 1048575000000000000 := by
  have a : 0 ≤ q * (P - 1) := Int.mul_nonneg h.1 (by omega)
  have b : q * (P - 1) ≤ 1000000000000 * (P - 1) := Int.mul_le_mul_of_nonneg_right h.2 (by omega)
  have c : 1000000000000 * (P - 1) ≤ 1000000000000 * 1048575 := Int.mul_le_mul_of_nonneg_left (by omega) (by omega)
  omega
set_option maxHeartbeats 4000000 in
theorem spread_any (a0 a1 : Option Addr) (n m c0 c1 : Nat) (vs ls : List Int) (w : World) (h0 : IntsAt w a0 n c0 vs) (h1 : IntsAt w a1 m c1 ls) :
    Calls Try.prog 20 #[.slice a0 n c0, .slice a1 m c1] w fun e w' => (∃ v r, e = .returned (.tuple #[.int .i64 v, .int .i64 r])) ∧ w = w' := by
  have m0 := h0.max
  have l0 := h0.le
  have CL := hidp (look_e a0 a1 n m c0 c1 vs ls w h0 h1)
  by_cases e1 : lkE vs ls n m = 0
  · rw [e1] at CL
    obtain ⟨rfl, hn40, hbd⟩ := lkE_ok vs ls n m e1
    have HD := hidp hbd
    clear e1 hbd
    rcases Nat.eq_zero_or_pos n with hz | hz
    · subst hz
      clear h0 h1
      go_enter Try.func20, Try.ntmps20
      go_wp2_with fail
      refine CL.out.mono ?_; rintro e w' ⟨rfl, rfl⟩
      go_wp2_with fail
      refine wp_loop_rounds 1 ?_; rw [rounds_succ]
      go_wp2_with fail
      refine wp_loop_rounds 1 ?_; rw [rounds_succ]
      go_wp2
      go_ret2
      exact ⟨⟨_, _, rfl⟩, rfl⟩
    · obtain ⟨b0, o0, rfl, hb0, hc0⟩ := h0.addr hz
      obtain ⟨b1, o1, rfl, hb1, hc1⟩ := h1.addr hz
      have C0 := hidp hc0
      have C1 := hidp hc1
      clear hc0 hc1 h0 h1
      go_enter Try.func20, Try.ntmps20
      go_wp2_with fail
      refine CL.out.mono ?_; rintro e w' ⟨rfl, rfl⟩
      go_wp2_with fail
      go_loop [20] (fun i => ∃ k : Nat, k ≤ n ∧ i = .int .i64 k ∧ Hid (∀ j, j < k → -1000000 ≤ gi vs j ∧ gi vs j ≤ 1000000)) (fun i => n - (intOf i).toNat)
      case atStart => exact ⟨0, by omega, rfl, hidp (fun j hj => by omega)⟩
      case round =>
        obtain ⟨k, hk, rfl, HX⟩ := hrel
        by_cases hlt : k < n
        · have q0 := C0.out k hlt
          obtain ⟨q1, q2⟩ := (HD.out k hlt).1
          by_cases d1 : gi vs k < -1000000
          · go_wp2
            go_ret2
            exact ⟨⟨_, _, rfl⟩, rfl⟩
          by_cases d2 : 1000000 < gi vs k
          · go_wp2
            go_ret2
            exact ⟨⟨_, _, rfl⟩, rfl⟩
          have HX2 := hidp (show ∀ j, j < k + 1 → -1000000 ≤ gi vs j ∧ gi vs j ≤ 1000000 from fun j hj => by
            by_cases e : j = k
            · subst e; omega
            · exact HX.out j (by omega))
          go_wp2
          go_round
          case rel => exact ⟨k + 1, by omega, by go_num, HX2⟩
          case measure => simp [intOf]; omega
        · obtain rfl : k = n := by omega
          go_wp2_with fail
          go_loop [9, 33] (fun s i => ∃ (q : Nat) (S : Int), q ≤ k ∧ i = .int .i64 q ∧ s = .int .i64 S ∧ 0 ≤ S ∧ S ≤ 1152921504606846976) (fun _ i => k - (intOf i).toNat)
          case atStart => exact ⟨0, 0, by omega, rfl, rfl, by omega, by omega⟩
          case round =>
            obtain ⟨q, S, hq, rfl, rfl, B1, B2⟩ := hrel
            by_cases hlt : q < k
            · have q0 := C0.out q hlt
              have q1 := C1.out q hlt
              have q2 := HX.out q hlt
              have q4 := (HD.out q hlt).2
              obtain ⟨s1, s2⟩ := sq_bd6 (gi vs q) q2
              have s3 := two_pow_le (gi ls q).toNat (by omega)
              have s4 : (1 : Int) ≤ 2 ^ (gi ls q).toNat := by have : (0 : Int) < 2 ^ (gi ls q).toNat := Int.pow_pos (by omega); omega
              obtain ⟨s5, s6⟩ := spr_bd6 (gi vs q * gi vs q) (2 ^ (gi ls q).toNat) ⟨s1, s2⟩ ⟨s4, s3⟩
              obtain ⟨q2, q3⟩ := q2
              obtain ⟨q4, q5⟩ := q4
              by_cases d : 1152921504606846976 < S + gi vs q * gi vs q * (2 ^ (gi ls q).toNat - 1)
              · go_wp2
                go_ret2
                exact ⟨⟨_, _, rfl⟩, rfl⟩
              · go_wp2
                go_round
                case rel => exact ⟨q + 1, _, by omega, by go_num, rfl, by omega, by omega⟩
                case measure => simp [intOf]; omega
            · obtain rfl : q = k := by omega
              go_wp2
              go_ret2
              exact ⟨⟨_, _, rfl⟩, rfl⟩
  · have hne : (lkE vs ls n m != 0) = true := by rw [bne_iff_ne]; exact e1
    clear h0 h1 e1
    generalize lkE vs ls n m = E at *
    go_enter Try.func20, Try.ntmps20
    go_wp2_with fail
    refine CL.out.mono ?_; rintro e w' ⟨rfl, rfl⟩
    go_wp2
    go_ret2
    exact ⟨⟨_, _, rfl⟩, rfl⟩
end Go.Proofs.Ytfhmckmglkjbeaa
