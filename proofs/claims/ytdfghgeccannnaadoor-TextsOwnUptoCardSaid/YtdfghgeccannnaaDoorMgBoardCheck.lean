/- Merged: BoardFind, BoardCheck. -/
import Derived.Test.YtdfghgeccannnaaDoorMgBoard
import Derived.WalkLawsBesides
/- Contracts of package board: newer, find (slices.BinarySearchFunc at rules). -/
namespace Go.Proofs.YtdfghgeccannnaaDoor
open Go.ChangeShapes Go.WideShapes Go.ChangeAt Go.RowKit Go.Lib
set_option maxRecDepth 20000
/-- Does a rule win over another one? -/
theorem newer_c (s1 s2 : ByteArray) (l1 e1 l2 e2 : Int) (w : World) :
    Calls Tryd.prog 46 #[.agg #[.string s1, .int .i64 l1, .int .i64 e1], .agg #[.string s2, .int .i64 l2, .int .i64 e2]] w fun ee w' => ee = .returned (.bool (newer (l1, e1) (l2, e2))) ∧ Below w.heap.size w w' := by
  have NW := hidp (show newer (l1, e1) (l2, e2) = (decide (e2 < e1) || (decide (e1 = e2) && decide (l2 < l1))) from rfl)
  have hb : Below w.heap.size w ((w.alloc (.cells #[.string s1, .int .i64 l1, .int .i64 e1] 39)).alloc (.cells #[.string s2, .int .i64 l2, .int .i64 e2] 39)) := bal (bal (Below.refl _ _) _) _
  by_cases g1 : e2 < e1
  · have R := hidp (show newer (l1, e1) (l2, e2) = true by rw [NW.out, decide_eq_true g1]; rfl)
    go_enter Tryd.func46, Tryd.ntmps46
    go_wp2
    go_ret
    exact ⟨ret_bool R.out.symm, hb⟩
  · by_cases g2 : e1 = e2
    · subst g2
      by_cases g3 : l2 < l1
      · have R := hidp (show newer (l1, e1) (l2, e1) = true by rw [NW.out, decide_eq_true g3]; simp)
        go_enter Tryd.func46, Tryd.ntmps46
        go_wp2
        go_ret
        exact ⟨ret_bool R.out.symm, hb⟩
      · have R := hidp (show newer (l1, e1) (l2, e1) = false by rw [NW.out, decide_eq_false g3, decide_eq_false g1]; simp)
        go_enter Tryd.func46, Tryd.ntmps46
        go_wp2
        go_ret
        exact ⟨ret_bool R.out.symm, hb⟩
    · have R := hidp (show newer (l1, e1) (l2, e2) = false by rw [NW.out, decide_eq_false g1, decide_eq_false g2]; rfl)
      go_enter Tryd.func46, Tryd.ntmps46
      go_wp2
      go_ret
      exact ⟨ret_bool R.out.symm, hb⟩
theorem findf_c (s : ByteArray) (l e : Int) (p : ByteArray) (w : World) :
    Calls Tryd.prog 60 #[.agg #[.string s, .int .i64 l, .int .i64 e], .string p] w fun ee w' => ee = .returned (.int .i64 (scmp s p)) ∧ Below w.heap.size w w' := by
  have hb : Below w.heap.size w (w.alloc (.cells #[.string s, .int .i64 l, .int .i64 e] 39)) := bal (Below.refl _ _) _
  have CC := hidp (fun W => show Calls Tryd.prog 61 #[.string s, .string p] W fun ee w' => ee = .returned (.int .i64 (scmp s p)) ∧ w' = W from (Tryd.strings_Compare s p W).mono (fun ee w' h => ⟨by rw [h.1, scmp_eq], h.2⟩))
  go_enter Tryd.func60, Tryd.ntmps60
  go_wp2_with (go_at_call 61; refine (CC.out _).mono ?_; rintro ee w' ⟨rfl, rfl⟩)
  go_ret
  exact ⟨rfl, hb⟩
theorem rp_rise (L : List Rl) (h : Srt L) (i j : Nat) (hij : i ≤ j) (hj : j < L.length) : rp L i = rp L j ∨ slt (rp L i) (rp L j) = true := by
  rcases Nat.eq_or_lt_of_le hij with e | e
  · rw [e]; exact .inl rfl
  · have := List.pairwise_iff_getElem.1 h i j (by omega) hj e
    have e1 : rp L i = L[i].1 := by unfold rp; rw [List.getD_eq_getElem?_getD, List.getElem?_eq_getElem (by omega)]; rfl
    have e2 : rp L j = L[j].1 := by unfold rp; rw [List.getD_eq_getElem?_getD, List.getElem?_eq_getElem hj]; rfl
    rw [e1, e2]; exact .inr this
theorem scmp_lt {a b : ByteArray} (h : slt a b = true) : scmp a b = -1 := by unfold scmp; rw [if_pos h]
theorem scmp_ge {a b : ByteArray} (h : slt a b = false) : 0 ≤ scmp a b := by
  unfold scmp; rw [h, if_neg (by simp)]; split <;> omega
theorem scmp_0 {a b : ByteArray} : scmp a b = 0 ↔ a = b := by
  unfold scmp
  constructor
  · intro h
    rcases slt_tri a b with e | e | e
    · rw [if_pos e] at h; omega
    · rw [slt_asym e, if_neg (by simp), if_pos e] at h; omega
    · exact e
  · intro h; rw [h, slt_irr, if_neg (by simp), if_neg (by simp)]
set_option maxHeartbeats 4000000 in
theorem bsf_c (a : Option Addr) (n c : Nat) (L : List Rl) (k : ByteArray) (w : World) (h : RulesAt w a n c L) (hr : Srt L) (hn : n ≤ 1000) :
    Calls Tryd.prog 59 #[.slice a n c, .string k, .func (.func 60) #[] #[]] w fun e w' => e = .returned (.tuple #[.int .i64 (fpos L k : Nat), .bool (fhas L k)]) ∧ Below w.heap.size w w' := by
  obtain ⟨b, o, hz, hx⟩ := h.split
  have hz' : Hid (n = 0) ∨ a = some ⟨b, o, none⟩ := hz.imp_left hidp
  have HX := hidp hx
  have mm := h.max
  have ee := h.le
  have LN := hidp h.len
  have RI := hidp (fun i j (hij : i ≤ j) (hj : j < n) => rp_rise L hr i j hij (by rw [LN.out]; exact hj))
  have FF := hidp (fun y l e W => findf_c y l e k W)
  clear hx hz h hr
  go_enter Tryd.func59, Tryd.ntmps59
  go_wp2
  go_loopg [9, 10] n (fun gg s9 s10 wr => ∃ lo hi : Nat, s9 = .int .i64 lo ∧ s10 = .int .i64 hi ∧ lo ≤ hi ∧ hi ≤ n ∧ hi - lo ≤ gg ∧ Below w.heap.size w wr ∧ Hid ((∀ t, t < lo → slt (rp L t) k = true) ∧ (∀ t, hi ≤ t → t < n → slt (rp L t) k = false)))
  case atStart => exact ⟨0, n, rfl, rfl, Nat.zero_le _, Nat.le_refl _, by omega, Below.refl _ _, hidp ⟨fun t ht => absurd ht (Nat.not_lt_zero _), fun t h1 h2 => by omega⟩⟩
  case round =>
    obtain ⟨lo, hi, rfl, rfl, hlh, hin, hg, hbl, I⟩ := hrel
    by_cases hlt : lo < hi
    · obtain rfl : a = some ⟨b, o, none⟩ := hz'.resolve_left (fun e => by have := e.out; omega)
      obtain ⟨hbs, hc1, hc2, hc3⟩ := HX.out ((lo + hi) / 2) (by omega)
      have q0 := carry_cell ⟨hbs, hc1⟩ hbl
      have q1 := carry_cell ⟨hbs, hc2⟩ hbl
      have q2 := carry_cell ⟨hbs, hc3⟩ hbl
      clear hc1 hc2 hc3
      obtain ⟨y, hy⟩ : ∃ y, y = rp L ((lo + hi) / 2) := ⟨_, rfl⟩
      rw [← hy] at q0
      have HY := hidp hy
      clear hy
      generalize rl L ((lo + hi) / 2) = nu at *
      generalize re L ((lo + hi) / 2) = ne at *
      have hc := FF.out y nu ne wr
      cases hyx : slt y k with
      | true =>
        rw [scmp_lt hyx] at hc
        have HX2 := hidp hyx
        have HC := hidp hc
        clear hc hyx
        go_wp2_with fail
        refine HC.out.mono ?_
        rintro e w' ⟨rfl, hb1⟩
        go_wp2
        go_roundg (hi - ((lo + hi) / 2 + 1))
        case measure => omega
        case rel =>
          refine ⟨(lo + hi) / 2 + 1, hi, by rw [show ((lo : Int) + (hi : Int)) / 2 + 1 = (((lo + hi) / 2 + 1 : Nat) : Int) by omega], rfl, by omega, hin, Nat.le_refl _, bstep hbl hb1, hidp ⟨fun t ht => ?_, I.out.2⟩⟩
          have h2 := HX2.out
          rw [HY.out] at h2
          rcases RI.out t ((lo + hi) / 2) (by omega) (by omega) with e1 | e1
          · rw [e1]; exact h2
          · exact slt_trans e1 h2
      | false =>
        have hc' : Calls Tryd.prog 60 #[.agg #[.string y, .int .i64 nu, .int .i64 ne], .string k] wr fun e w' => (∃ r : Int, 0 ≤ r ∧ e = .returned (.int .i64 r)) ∧ Below wr.heap.size wr w' := by
          refine hc.mono ?_
          rintro e w' ⟨rfl, hb⟩
          exact ⟨⟨_, scmp_ge hyx, rfl⟩, hb⟩
        have HX2 := hidp hyx
        have HC := hidp hc'
        clear hc hc' hyx
        go_wp2_with fail
        refine HC.out.mono ?_
        rintro e w' ⟨⟨r, hr0, rfl⟩, hb1⟩
        go_wp2
        go_roundg ((lo + hi) / 2 - lo)
        case measure => omega
        case rel =>
          refine ⟨lo, (lo + hi) / 2, rfl, by rw [show ((lo : Int) + (hi : Int)) / 2 = (((lo + hi) / 2 : Nat) : Int) by omega], by omega, by omega, Nat.le_refl _, bstep hbl hb1, hidp ⟨I.out.1, fun t ht htn => ?_⟩⟩
          have h2 := HX2.out
          rw [HY.out] at h2
          rcases RI.out ((lo + hi) / 2) t ht htn with e1 | e1
          · rw [← e1]; exact h2
          · cases h3 : slt (rp L t) k
            · rfl
            · have := slt_trans e1 h3; rw [h2] at this; cases this
    · obtain rfl : hi = lo := by omega
      have hkp := fpos_of k L hi (by rw [LN.out]; exact hin) I.out.1 (fun t h3 h4 => I.out.2 t h3 (by rw [← LN.out]; exact h4))
      have hkh : fhas L k = (decide (hi < n) && decide (rp L hi = k)) := by unfold fhas; rw [hkp, LN.out]; rfl
      replace hkp := hidp hkp
      replace hkh := hidp hkh
      have I2 := hidp (I.out.2 hi (Nat.le_refl _))
      clear I
      by_cases hn' : hi < n
      · obtain rfl : a = some ⟨b, o, none⟩ := hz'.resolve_left (fun e => by have := e.out; omega)
        obtain ⟨hbs, hc1, hc2, hc3⟩ := HX.out hi hn'
        have q0 := carry_cell ⟨hbs, hc1⟩ hbl
        have q1 := carry_cell ⟨hbs, hc2⟩ hbl
        have q2 := carry_cell ⟨hbs, hc3⟩ hbl
        clear hc1 hc2 hc3
        generalize rp L hi = y at *
        generalize rl L hi = nu at *
        generalize re L hi = ne at *
        have hc := FF.out y nu ne wr
        by_cases hyx : y = k
        · rw [scmp_0.2 hyx] at hc
          have HC := hidp hc
          have KH := hidp (show fhas L k = true by rw [hkh.out, decide_eq_true hn', decide_eq_true hyx]; rfl)
          clear hc hyx
          go_wp2_with fail
          refine HC.out.mono ?_
          rintro e w' ⟨rfl, hb1⟩
          go_wp2
          go_ret2
          exact ⟨by rw [hkp.out, KH.out]; rfl, bstep hbl hb1⟩
        · have hc' : Calls Tryd.prog 60 #[.agg #[.string y, .int .i64 nu, .int .i64 ne], .string k] wr fun e w' => (∃ r : Int, r ≠ 0 ∧ e = .returned (.int .i64 r)) ∧ Below wr.heap.size wr w' := by
            refine hc.mono ?_
            rintro e w' ⟨rfl, hb⟩
            exact ⟨⟨_, fun e0 => hyx (scmp_0.1 e0), rfl⟩, hb⟩
          have HC := hidp hc'
          have KH := hidp (show fhas L k = false by rw [hkh.out, decide_eq_false hyx]; simp)
          clear hc hc' hyx
          go_wp2_with fail
          refine HC.out.mono ?_
          rintro e w' ⟨⟨r, hr0, rfl⟩, hb1⟩
          have hr1 : (r == 0) = false := beq_eq_false_iff_ne.2 hr0
          go_wp2
          go_ret2
          exact ⟨by rw [hkp.out, KH.out]; rfl, bstep hbl hb1⟩
      · have KH := hidp (show fhas L k = false by rw [hkh.out, decide_eq_false hn']; simp)
        go_wp2
        go_ret2
        exact ⟨by rw [hkp.out, KH.out]; rfl, hbl⟩
theorem find_c (a : Option Addr) (n c : Nat) (L : List Rl) (k : ByteArray) (w : World) (h : RulesAt w a n c L) (hr : Srt L) (hn : n ≤ 1000) :
    Calls Tryd.prog 45 #[.slice a n c, .string k] w fun e w' => e = .returned (.tuple #[.int .i64 (fpos L k : Nat), .bool (fhas L k)]) ∧ Below w.heap.size w w' := by
  have HC := hidp (bsf_c a n c L k w h hr hn)
  clear h hr
  go_enter Tryd.func45, Tryd.ntmps45
  go_wp2_with fail
  refine HC.out.mono ?_
  rintro e w' ⟨rfl, hb⟩
  go_wp2_with fail
  go_ret2
  exact ⟨rfl, hb⟩
end Go.Proofs.YtdfghgeccannnaaDoor

/- Contract of board.Check at boards that may be. -/
namespace Go.Proofs.YtdfghgeccannnaaDoor
open Go.ChangeShapes Go.WideShapes Go.ChangeAt Go.RowKit Go.Lib
set_option maxRecDepth 20000
/-- A board that may be. -/
structure BdOk (L : List Rl) : Prop where
  srt : Srt L
  len : L.length ≤ 16
  one : ∀ r ∈ L, oneE r = 0
set_option maxHeartbeats 4000000 in
theorem bdcheck_c (a : Option Addr) (n c : Nat) (L : List Rl) (w : World) (h : RulesAt w a n c L) (ho : BdOk L) :
    Calls Tryd.prog 43 #[.slice a n c] w fun e w' => e = .returned (.int .i64 0) ∧ Below w.heap.size w w' := by
  have mm := h.max
  have ee := h.le
  have hn : n ≤ 16 := by have := ho.len; rw [h.len] at this; exact this
  have h16 : ¬ (16 : Int) < (n : Int) := by omega
  obtain ⟨b, o, hz, hx⟩ := h.split
  have hz' : Hid (n = 0) ∨ a = some ⟨b, o, none⟩ := hz.imp_left hidp
  have HX := hidp hx
  have ON := hidp (fun k (hk : k < n) => show oneE (rp L k, rl L k, re L k) = 0 from ho.one _ (rmem L k (by rw [h.len]; exact hk)))
  have LT := hidp (fun k (hk : k + 1 < n) => show Op.bytesLess (rp L k).toList (rp L (k + 1)).toList = true from by
    have h1 := h.len
    have := List.pairwise_iff_getElem.1 ho.srt k (k + 1) (by omega) (by omega) (by omega)
    have e1 : rp L k = L[k].1 := by unfold rp; rw [List.getD_eq_getElem?_getD, List.getElem?_eq_getElem (by omega)]; rfl
    have e2 : rp L (k + 1) = L[k + 1].1 := by unfold rp; rw [List.getD_eq_getElem?_getD, List.getElem?_eq_getElem (by omega)]; rfl
    rw [e1, e2]; exact this)
  have OC := hidp one_c
  clear h hz hx ho
  go_enter Tryd.func43, Tryd.ntmps43
  go_wp2_with fail
  go_loopg [11] n (fun gg i wr => ∃ k : Nat, k ≤ n ∧ n - k ≤ gg ∧ i = .int .i64 k ∧ Below w.heap.size w wr)
  case atStart => exact ⟨0, by omega, by omega, rfl, Below.refl _ _⟩
  case round =>
    obtain ⟨k, hk, hgg, rfl, hbl⟩ := hrel
    by_cases hlt : k < n
    · obtain rfl : a = some ⟨b, o, none⟩ := hz'.resolve_left (fun e => by have := e.out; omega)
      obtain ⟨hbs, x0, x1, x2⟩ := HX.out k hlt
      have q0 := carry_cell ⟨hbs, x0⟩ hbl
      have q1 := carry_cell ⟨hbs, x1⟩ hbl
      have q2 := carry_cell ⟨hbs, x2⟩ hbl
      have O1 := hidp (ON.out k hlt)
      have K1 := hidp (OC.out (rp L k) (rl L k) (re L k))
      rw [O1.out] at K1
      clear x0 x1 x2
      rcases Nat.eq_zero_or_pos k with rfl | hpos
      · simp only [Nat.zero_mul, Nat.add_zero] at q0 q1 q2
        generalize rp L 0 = s at *
        generalize rl L 0 = l at *
        generalize re L 0 = e at *
        have hb2 : Below w.heap.size w (wr.alloc (.cells #[.string s, .int .i64 l, .int .i64 e] 39)) := bal hbl _
        have r0 : (wr.alloc (.cells #[.string s, .int .i64 l, .int .i64 e] 39)).cell? ⟨wr.heap.size, 0, none⟩ = some (.string s) := by simp
        go_wp2_with fail
        refine (K1.out _).mono ?_
        rintro ee w' ⟨rfl, hb1⟩
        have hb3 := bstep hb2 hb1
        have r2 := ck hb1 r0
        clear hb1 hb2 r0
        go_wp2_with fail
        go_quiet (fail)
        go_wp2_with fail
        go_roundg (n - 1)
        case measure => omega
        case rel => exact ⟨1, by omega, by omega, by go_num, below_drewN hb3 _⟩
      · obtain ⟨j, rfl⟩ : ∃ j, k = j + 1 := ⟨k - 1, by omega⟩
        obtain ⟨_, x0, _, _⟩ := HX.out j (by omega)
        have p0 := carry_cell ⟨hbs, x0⟩ hbl
        have L1 := hidp (LT.out j hlt)
        clear x0
        generalize rp L (j + 1) = s at *
        generalize rl L (j + 1) = l at *
        generalize re L (j + 1) = e at *
        generalize rp L j = s0 at *
        have hb2 : Below w.heap.size w (wr.alloc (.cells #[.string s, .int .i64 l, .int .i64 e] 39)) := bal hbl _
        have p1 := ca p0 (.cells #[.string s, .int .i64 l, .int .i64 e] 39)
        have r0 : (wr.alloc (.cells #[.string s, .int .i64 l, .int .i64 e] 39)).cell? ⟨wr.heap.size, 0, none⟩ = some (.string s) := by simp
        go_wp2_with fail
        refine (K1.out _).mono ?_
        rintro ee w' ⟨rfl, hb1⟩
        have hb3 := bstep hb2 hb1
        have p2 := ck hb1 p1
        have r2 := ck hb1 r0
        have hj : (0 : Int) < (j : Int) + 1 := by omega
        have L2 := L1.out
        clear hb1 hb2 p0 p1 r0 q0 q1 q2
        go_wp2_with fail
        go_quiet (fail)
        go_wp2_with fail
        go_roundg (n - (j + 2))
        case measure => omega
        case rel => exact ⟨j + 2, by omega, by omega, by go_num, below_drewN hb3 _⟩
    · go_wp2_with fail
      go_ret
      exact ⟨rfl, hbl⟩
end Go.Proofs.YtdfghgeccannnaaDoor
