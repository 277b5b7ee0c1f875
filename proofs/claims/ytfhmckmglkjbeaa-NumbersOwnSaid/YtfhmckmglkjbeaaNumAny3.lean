/- regs.Join, few.Most, digit.Rank, alike.First, alike.Sign at whatever comes. -/
import Derived.Test.YtfhmckmglkjbeaaMgNumAny
import Derived.Test.YtfhmckmglkjbeaaRegsBad
import Derived.Test.YtfhmckmglkjbeaaMgSigns
import Derived.Test.YtfhmckmglkjbeaaDRank
import Derived.Test.YtfhmckmglkjbeaaMost
import Derived.BigQuiet
namespace Go.Proofs.Ytfhmckmglkjbeaa
open Go.ChangeShapes Go.WideShapes Go.ChangeAt Go.RowKit
set_option maxRecDepth 20000
def rjE (xs ys : List Int) (n m : Nat) : Int := if rgE xs n = 0 then (if rgE ys m = 0 then (if n = m then 0 else 3) else rgE ys m) else rgE xs n
theorem rjoin_bad (a a' : Option Addr) (n c m c' : Nat) (xs ys : List Int) (w : World) (h : IntsAt w a n c xs) (h' : IntsAt w a' m c' ys) (hE : rjE xs ys n m ≠ 0) :
    Calls Try.prog 17 #[.slice a n c, .slice a' m c'] w fun e w' => e = .returned (.tuple #[.slice none 0 0, .int .i64 (rjE xs ys n m)]) ∧ Below w.heap.size w w' := by
  have C1 := hidp (rcheck_c a n c xs w h)
  have C2 := hidp (fun W hb => rcheck_c a' m c' ys W (h'.below (w' := W) hb))
  clear h h'
  by_cases e1 : rgE xs n = 0
  · rw [e1] at C1
    by_cases e2 : rgE ys m = 0
    · rw [e2] at C2
      have e3 : ¬ n = m := fun e => hE (by unfold rjE; rw [if_pos e1, if_pos e2, if_pos e])
      have RV := hidp (show rjE xs ys n m = 3 by unfold rjE; rw [if_pos e1, if_pos e2, if_neg e3])
      have hne : ((n : Int) != (m : Int)) = true := by rw [bne_iff_ne]; omega
      clear hE e1 e2 e3
      go_enter Try.func17, Try.ntmps17
      go_wp2_with fail
      refine C1.out.mono ?_
      rintro e wa ⟨rfl, hba⟩
      go_wp2_with fail
      refine (C2.out _ hba).mono ?_
      rintro e wb ⟨rfl, hbb⟩
      go_wp2_with fail
      go_ret2
      exact ⟨by rw [RV.out] <;> rfl, bstep hba hbb⟩
    · have RV := hidp (show rjE xs ys n m = rgE ys m by unfold rjE; rw [if_pos e1, if_neg e2])
      have hne : (rgE ys m != 0) = true := by rw [bne_iff_ne]; exact e2
      clear hE e1 e2
      generalize rgE ys m = E at *
      go_enter Try.func17, Try.ntmps17
      go_wp2_with fail
      refine C1.out.mono ?_
      rintro e wa ⟨rfl, hba⟩
      go_wp2_with fail
      refine (C2.out _ hba).mono ?_
      rintro e wb ⟨rfl, hbb⟩
      go_wp2_with fail
      go_ret2
      exact ⟨by rw [RV.out] <;> rfl, bstep hba hbb⟩
  · have RV := hidp (show rjE xs ys n m = rgE xs n by unfold rjE; rw [if_neg e1])
    have hne : (rgE xs n != 0) = true := by rw [bne_iff_ne]; exact e1
    clear hE e1 C2
    generalize rgE xs n = E at *
    go_enter Try.func17, Try.ntmps17
    go_wp2_with fail
    refine C1.out.mono ?_
    rintro e wa ⟨rfl, hba⟩
    go_wp2_with fail
    go_ret2
    exact ⟨by rw [RV.out] <;> rfl, hba⟩
theorem rjoin_any (a a' : Option Addr) (n c m c' : Nat) (xs ys : List Int) (w : World) (h : IntsAt w a n c xs) (h' : IntsAt w a' m c' ys) :
    Calls Try.prog 17 #[.slice a n c, .slice a' m c'] w fun e w' => ∃ v r, e = .returned (.tuple #[v, .int .i64 r]) ∧ Fr w.heap.size w' v ∧ Below w.heap.size w w' := by
  by_cases hE : rjE xs ys n m = 0
  · have e1 : rgE xs n = 0 := by
      by_cases e : rgE xs n = 0
      · exact e
      · unfold rjE at hE; rw [if_neg e] at hE; exact absurd hE e
    have e2 : rgE ys m = 0 := by
      by_cases e : rgE ys m = 0
      · exact e
      · unfold rjE at hE; rw [if_pos e1, if_neg e] at hE; exact absurd hE e
    have e3 : n = m := by
      by_cases e : n = m
      · exact e
      · unfold rjE at hE; rw [if_pos e1, if_pos e2, if_neg e] at hE; omega
    subst e3
    have hx := rgE_zero xs n e1
    have hy := rgE_zero ys n e2
    refine (rjoin_c a a' n c c' xs ys w h h' hx hy).mono ?_
    rintro e w' ⟨v, rfl, hO, hB⟩
    have hn : 1 ≤ n ∧ n ≤ 16 := by have := hx.1; unfold rgN at this; omega
    refine ⟨_, _, rfl, Fr.mk hO (by omega) (fun x hx' => ?_), hB⟩
    obtain ⟨j, hj, rfl⟩ := tab_mem _ _ _ hx'
    have := (mx_ok xs ys n hx hy).2 j hj
    rw [tab_gi _ _ _ hj] at this
    omega
  · refine (rjoin_bad a a' n c m c' xs ys w h h' hE).mono ?_
    rintro e w' ⟨rfl, hB⟩
    exact ⟨_, _, rfl, Fr.nil _ _, hB⟩
theorem drank_any (a : Option Addr) (n c : Nat) (xs : List Int) (w : World) (h : IntsAt w a n c xs) :
    Calls Try.prog 22 #[.slice a n c] w fun e w' => (∃ v r, e = .returned (.tuple #[.int .i64 v, .int .i64 r])) ∧ Below w.heap.size w w' := by
  by_cases hok : PermOk xs n
  · refine (drank_ok a n c xs w h hok).mono ?_
    rintro e w' ⟨rfl, hB⟩
    exact ⟨⟨_, _, rfl⟩, hB⟩
  · refine (drank_bad a n c xs w h hok).mono ?_
    rintro e w' ⟨E, rfl, _, hB⟩
    exact ⟨⟨_, _, rfl⟩, hB⟩
theorem most_any (a : Option Addr) (n c : Nat) (xs : List Int) (w : World) (h : IntsAt w a n c xs) :
    Calls Try.prog 21 #[.slice a n c] w fun e w' => (∃ v b r, e = .returned (.tuple #[.int .i64 v, .bool b, .int .i64 r])) ∧ w = w' := by
  by_cases hn : n ≤ 40
  · refine (most_c a n c xs w h hn).mono ?_
    rintro e w' ⟨rfl, rfl⟩
    exact ⟨⟨_, _, _, rfl⟩, rfl⟩
  · have h1 : (40 : Int) < (n : Int) := by omega
    have mm := h.max
    have ll := h.le
    clear h hn
    go_enter Try.func21, Try.ntmps21
    go_wp2_with fail
    exact bodyPost_ret (v := .tuple #[.int .i64 0, .bool false, .int .i64 2]) (by simp [results, Try.results21, go_sem]) rfl ⟨⟨_, _, _, rfl⟩, rfl⟩
/-- What is wrong at a place of a set. -/
def stF (ys : List Int) (n i : Nat) : Int := if gi ys i < 0 ∨ (n : Int) ≤ gi ys i then 1 else if 0 < i ∧ gi ys i ≤ gi ys (i - 1) then 3 else 0
def stE (ys : List Int) (L n : Nat) : Int := if n < L then 2 else fE (stF ys n) L
theorem stE_ok (ys : List Int) (L n : Nat) (h : stE ys L n = 0) : SetOk ys L n := by
  have e1 : ¬ n < L := fun e => by unfold stE at h; rw [if_pos e] at h; omega
  unfold stE at h
  rw [if_neg e1] at h
  refine ⟨by omega, fun i hi => ?_⟩
  have hz := fE_zero _ L h i hi
  unfold stF at hz
  by_cases e2 : gi ys i < 0 ∨ (n : Int) ≤ gi ys i
  · rw [if_pos e2] at hz; omega
  · rw [if_neg e2] at hz
    by_cases e3 : 0 < i ∧ gi ys i ≤ gi ys (i - 1)
    · rw [if_pos e3] at hz; omega
    · exact ⟨by omega, by omega, fun h0 => by omega⟩
set_option maxHeartbeats 4000000 in
theorem aset_e (a : Option Addr) (L c n : Nat) (ys : List Int) (w : World) (h : IntsAt w a L c ys) (hn : n ≤ 1000) :
    Calls Try.prog 51 #[.slice a L c, .int .i64 n] w fun e w' => e = .returned (.int .i64 (stE ys L n)) ∧ Below w.heap.size w w' := by
  obtain ⟨b, o, hz, hx⟩ := h.split
  have hz' : Hid (L = 0) ∨ a = some ⟨b, o, none⟩ := hz.imp_left hidp
  have HX := hidp hx
  have mm := h.max
  have ee := h.le
  clear hx hz h
  by_cases e1 : n < L
  · rw [show stE ys L n = 2 by unfold stE; rw [if_pos e1]]
    have e1' : (n : Int) < (L : Int) := by omega
    go_enter Try.func51, Try.ntmps51
    go_wp2_with fail
    go_ret
    exact ⟨rfl, Below.refl _ _⟩
  have EE := hidp (show stE ys L n = fE (stF ys n) L by unfold stE; rw [if_neg e1])
  have e1' : ¬ (n : Int) < (L : Int) := by omega
  clear e1
  go_enter Try.func51, Try.ntmps51
  go_wp2_with fail
  go_loop [13] (fun i => ∃ k : Nat, k ≤ L ∧ i = .int .i64 k ∧ Hid (fE (stF ys n) k = 0)) (fun i => L - (intOf i).toNat)
  case atStart => exact ⟨0, by omega, rfl, rfl⟩
  case round =>
    obtain ⟨k, hk, rfl, FE⟩ := hrel
    by_cases hlt : k < L
    · obtain rfl : a = some ⟨b, o, none⟩ := hz'.resolve_left (fun e => by have := e.out; omega)
      have q := (HX.out k hlt).2
      have NX := hidp (fun h => fE_next (stF ys n) k FE.out h)
      have AT := hidp (fun h => fE_at (stF ys n) k L FE.out h hlt)
      by_cases d : gi ys k < 0 ∨ (n : Int) ≤ gi ys k
      · have hv : stF ys n k = 1 := by unfold stF; rw [if_pos d]
        have RV := hidp (show stE ys L n = 1 by rw [EE.out, AT.out (by rw [hv]; omega), hv])
        clear hv
        generalize gi ys k = X at *
        by_cases d1 : X < 0
        · clear d
          go_wp2_with fail
          go_ret
          exact ⟨by rw [RV.out] <;> rfl, Below.refl _ _⟩
        · have d2 := d.resolve_left d1
          clear d
          go_wp2_with fail
          go_ret
          exact ⟨by rw [RV.out] <;> rfl, Below.refl _ _⟩
      have d1 : ¬ gi ys k < 0 := fun e => d (.inl e)
      have d2 : ¬ (n : Int) ≤ gi ys k := fun e => d (.inr e)
      by_cases hk0 : 0 < k
      · have q' := (HX.out (k - 1) (by omega)).2
        have hk0' : (0 : Int) < (k : Int) := by omega
        have hkm : ((k : Int) - 1).toNat = k - 1 := by omega
        by_cases d3 : gi ys k ≤ gi ys (k - 1)
        · have hv : stF ys n k = 3 := by unfold stF; rw [if_neg d, if_pos ⟨hk0, d3⟩]
          have RV := hidp (show stE ys L n = 3 by rw [EE.out, AT.out (by rw [hv]; omega), hv])
          clear hv d
          generalize gi ys k = X at *
          generalize gi ys (k - 1) = Y at *
          go_wp2_with fail
          go_ret
          exact ⟨by rw [RV.out] <;> rfl, Below.refl _ _⟩
        · have hv : stF ys n k = 0 := by unfold stF; rw [if_neg d, if_neg (fun e => d3 e.2)]
          have RV := hidp (NX.out hv)
          clear hv d
          generalize gi ys k = X at *
          generalize gi ys (k - 1) = Y at *
          go_wp2_with fail
          go_round
          case rel => exact ⟨k + 1, by omega, by go_num, RV⟩
          case measure => simp [intOf]; omega
      · obtain rfl : k = 0 := by omega
        have q0 : w.cell? ⟨b, o, none⟩ = some (.int .i64 (gi ys 0)) := q
        have hv : stF ys n 0 = 0 := by unfold stF; rw [if_neg d, if_neg (fun e => by omega)]
        have RV := hidp (NX.out hv)
        clear hv d
        generalize gi ys 0 = X at *
        go_wp2_with fail
        go_round
        case rel => exact ⟨1, by omega, by go_num, RV⟩
        case measure => simp [intOf]; omega
    · obtain rfl : k = L := by omega
      go_wp2
      go_ret
      exact ⟨by rw [EE.out, FE.out] <;> rfl, Below.refl _ _⟩
/-- alike.First at whatever comes. -/
theorem first_any (a a' : Option Addr) (n c L c' : Nat) (xs ys : List Int) (w : World) (h : IntsAt w a n c xs) (h' : IntsAt w a' L c' ys) :
    Calls Try.prog 38 #[.slice a n c, .slice a' L c'] w fun e w' => (∃ B r : Int, e = .returned (.tuple #[.int .i64 B, .int .i64 r]) ∧ 0 ≤ B ∧ B ≤ 1000) ∧ Below w.heap.size w w' := by
  have C1 := hidp (dcheck_c a n c xs w h)
  by_cases e1 : PermOk xs n
  · have hn := e1.1
    have C2 := hidp (fun W (hB : Below w.heap.size w W) => aset_e a' L c' n ys W (h'.below hB) (by omega))
    by_cases e2 : stE ys L n = 0
    · have hy := stE_ok ys L n e2
      rcases Nat.eq_zero_or_pos L with hL | hL
      · subst hL
        rw [e2] at C2
        have PX := hidp e1
        have mm := h.max
        have ll := h.le
        clear h h' e1 e2 hy
        go_enter Try.func38, Try.ntmps38
        go_wp2_with fail
        refine C1.out.mono ?_
        rintro e wa ⟨E, rfl, hE, hba⟩
        obtain rfl : E = 0 := hE.out.2.2.2 PX.out
        clear hE
        go_wp2_with fail
        refine (C2.out _ hba).mono ?_
        rintro e wb ⟨rfl, hbb⟩
        have hwb := bstep hba hbb
        clear hba hbb C1 C2
        go_wp2_with fail
        refine wp_loop_rounds 1 ?_; rw [rounds_succ]
        go_wp2
        go_ret2
        exact ⟨⟨_, _, rfl, by omega, by omega⟩, hwb⟩
      · refine (first_c a a' n c L c' xs ys w h h' e1 hy hL).mono ?_
        rintro e w' ⟨B, rfl, hB, hb⟩
        obtain ⟨p, hp, rfl⟩ := hB.out.1
        have := hy.2 p hp
        exact ⟨⟨_, _, rfl, by omega, by omega⟩, hb⟩
    · have hne : (stE ys L n != 0) = true := by rw [bne_iff_ne]; exact e2
      have PX := hidp e1
      have mm := h.max
      have ll := h.le
      clear h h' e1 e2
      generalize stE ys L n = E2 at *
      go_enter Try.func38, Try.ntmps38
      go_wp2_with fail
      refine C1.out.mono ?_
      rintro e wa ⟨E, rfl, hE, hba⟩
      obtain rfl : E = 0 := hE.out.2.2.2 PX.out
      clear hE
      go_wp2_with fail
      refine (C2.out _ hba).mono ?_
      rintro e wb ⟨rfl, hbb⟩
      have hwb := bstep hba hbb
      clear hba hbb C1 C2
      go_wp2_with fail
      go_ret2
      exact ⟨⟨_, _, rfl, by omega, by omega⟩, hwb⟩
  · have PX := hidp e1
    clear h h' e1
    go_enter Try.func38, Try.ntmps38
    go_wp2_with fail
    refine C1.out.mono ?_
    rintro e wa ⟨E, rfl, hE, hba⟩
    have hne : (E != 0) = true := by rw [bne_iff_ne]; exact fun e => PX.out (hE.out.2.2.1 e)
    clear hE C1
    go_wp2_with fail
    go_ret2
    exact ⟨⟨_, _, rfl, by omega, by omega⟩, hba⟩
/-- alike.Sign at whatever comes. -/
theorem sign_any (a a' : Option Addr) (k c L c' : Nat) (N C : Nat → Nat) (A : Nat → Option Addr) (O : Nat → List Int) (b o : Nat) (ys : List Int) (w : World) (hk : k ≤ 40) (hkc : k ≤ c) (hcm : c ≤ 9223372036854775807)
    (h : ∀ i, i < k → w.cell? ⟨b, o + i, none⟩ = some (.slice (A i) (N i) (C i)) ∧ IntsAt w (A i) (N i) (C i) (O i)) (hb : b < w.heap.size) (h' : IntsAt w a' L c' ys) :
    Calls Try.prog 15 #[.slice (some ⟨b, o, none⟩) k c, .slice a' L c'] w fun e w' => ∃ v r, e = .returned (.tuple #[v, .int .i64 r]) ∧ Fr w.heap.size w' v ∧ Below w.heap.size w w' := by
  have HX := hidp h
  have HY := hidp h'
  clear h h'
  go_enter Try.func15, Try.ntmps15
  go_wp2_with fail
  go_loopw [6, 16] (fun v i wr => ∃ (t : Nat) (R : List Int), t ≤ k ∧ i = .int .i64 t ∧ Hid (Bd R) ∧ wr.ownsRow w.heap.size 3 1 v t (R.map (Value.int .i64)) ∧ Below w.heap.size w wr) (fun _ i _ => k - (intOf i).toNat)
  case atStart => exact ⟨0, [], by omega, rfl, hidp (fun x hx => by simp at hx), World.ownsRow_nil _ _ _ _, Below.refl _ _⟩
  case round =>
    obtain ⟨t, R, ht, rfl, RB, hv, hbl⟩ := hrel
    by_cases hlt : t < k
    · obtain ⟨hcell, hI⟩ := HX.out t hlt
      have q := carry_cell ⟨hb, hcell⟩ hbl
      have F1 := hidp (first_any (A t) a' (N t) (C t) L c' (O t) ys wr (hI.below hbl) (HY.out.below hbl))
      clear hcell hI
      generalize A t = At at *
      generalize N t = Nt at *
      generalize C t = Ct at *
      go_wp2_with fail
      refine F1.out.mono ?_
      rintro e w1 ⟨⟨B, r, rfl, hB0, hB1⟩, hb1⟩
      have hv1 := owns_below' hv hb1
      have bl1 := bstep hbl hb1
      by_cases hr : r = 0
      · subst hr
        have RB2 := hidp (show Bd (R ++ [B]) from fun x hx => by
          rcases List.mem_append.1 hx with hx | hx
          · exact RB.out x hx
          · simp at hx; omega)
        have hgs := bl1.size
        clear hb1 hv hbl q F1
        go_wp2_with (at_builtin; refine wpList_append_new rfl (.tmp 29) (.tmp 31) 22 rfl w.heap.size 3 _ 1 8 info_int rfl (by decide) Try.underlying22 u6 t _ rfl hv1 rfl (one_int _ _) rfl rfl (by omega) (by decide) hgs ?_; intro v2 w2 nv g2 d2)
        go_roundw
        case measure => simp [intOf]; omega
        case rel => exact ⟨t + 1, R ++ [B], by omega, by go_num, RB2, by rw [List.map_append]; exact nv, append_step hv1 bl1 (Nat.le_refl _) g2⟩
      · have hne : (r != 0) = true := by rw [bne_iff_ne]; exact hr
        go_wp2_with fail
        go_ret2
        exact ⟨_, _, rfl, Fr.nil _ _, bl1⟩
    · obtain rfl : t = k := by omega
      go_wp2
      go_ret2
      exact ⟨_, _, rfl, Fr.mk hv (by omega) RB.out, hbl⟩
end Go.Proofs.Ytfhmckmglkjbeaa
