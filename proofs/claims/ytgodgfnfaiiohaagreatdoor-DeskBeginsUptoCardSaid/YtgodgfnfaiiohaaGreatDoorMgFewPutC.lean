/- Merged: FewFind, FewLess, InsC, FewCheck, FewAdd, FewPut, FewPutC. -/
import Derived.Test.YtgodgfnfaiiohaaGreatDoorMgFewMath
import Derived.Deep.LoopGhost
import Derived.Deep.QuietTactic
import Derived.BigQuiet
import Derived.Shelf.Abstract
import Derived.Deep.RegionHeld3
import Derived.Deep.DeepCutAuto
import Derived.Test.YtgodgfnfaiiohaaGreatDoorMgBottom
import Derived.Test.YtgodgfnfaiiohaaGreatDoorInsKit
import Derived.Test.YtgodgfnfaiiohaaGreatDoorCnt
/- Contracts of few.find (slices.BinarySearchFunc at counters) and of slices.MinFunc at counters, at the closures that few hands in. -/
namespace Go.Proofs.YtgodgfnfaiiohaaGreatDoor
open Go.ChangeShapes Go.WideShapes Go.ChangeAt Go.RowKit
set_option maxRecDepth 20000
theorem findf_c (y n k : Int) (w : World) :
    Calls Tryz.prog 180 #[.agg #[.int .i64 y, .int .i64 n], .int .i64 k] w fun e w' => e = .returned (.int .i64 (if y < k then -1 else if k < y then 1 else 0)) ∧ Below w.heap.size w w' := by
  have hb : Below w.heap.size w (w.alloc (.cells #[.int .i64 y, .int .i64 n] 169)) := bal (Below.refl _ _) _
  by_cases h1 : y < k
  · rw [if_pos h1]
    go_enter Tryz.func180, Tryz.ntmps180
    go_wp2
    go_ret
    exact ⟨rfl, hb⟩
  · rw [if_neg h1]
    by_cases h2 : k < y
    · rw [if_pos h2]
      go_enter Tryz.func180, Tryz.ntmps180
      go_wp2
      go_ret
      exact ⟨rfl, hb⟩
    · rw [if_neg h2]
      go_enter Tryz.func180, Tryz.ntmps180
      go_wp2
      go_ret
      exact ⟨rfl, hb⟩
theorem kpos_eq (k : Int) : ∀ (L : List (Int × Int)) (i : Nat), i ≤ L.length → (∀ t, t < i → ckey L t < k) → (∀ t, i ≤ t → t < L.length → k ≤ ckey L t) → kpos L k = i
  | [], i, h, _, _ => by simp at h; rw [h]; rfl
  | p :: l, 0, _, _, h2 => by
    refine kpos_none k _ (fun q hq => ?_)
    obtain ⟨t, ht, e⟩ := List.getElem_of_mem hq
    have := h2 t (Nat.zero_le _) ht
    unfold ckey at this
    rw [List.getD_eq_getElem?_getD, List.getElem?_eq_getElem ht] at this
    rw [← e]; exact this
  | p :: l, i + 1, h, h1, h2 => by
    rw [kpos_cons p l k (h1 0 (by omega)), kpos_eq k l i (by simpa using h) (fun t ht => h1 (t + 1) (by omega)) (fun t h3 h4 => h2 (t + 1) (by omega) (by simpa using h4))]
theorem ckey_rise (L : List (Int × Int)) (h : KRise L) (i j : Nat) (hij : i ≤ j) (hj : j < L.length) : ckey L i ≤ ckey L j := by
  rcases Nat.eq_or_lt_of_le hij with e | e
  · rw [e]; exact Int.le_refl _
  · have := List.pairwise_iff_getElem.1 h i j (by omega) hj e
    have e1 : ckey L i = L[i].1 := by unfold ckey; rw [List.getD_eq_getElem?_getD, List.getElem?_eq_getElem (by omega)]; rfl
    have e2 : ckey L j = L[j].1 := by unfold ckey; rw [List.getD_eq_getElem?_getD, List.getElem?_eq_getElem hj]; rfl
    rw [e1, e2]; omega
set_option maxHeartbeats 4000000 in
theorem bsf_c (a : Option Addr) (n c : Nat) (L : List (Int × Int)) (k : Int) (w : World) (h : CntAt w a n c L) (hr : KRise L) (hn : n ≤ 1000) :
    Calls Tryz.prog 179 #[.slice a n c, .int .i64 k, .func (.func 180) #[] #[]] w fun e w' => e = .returned (.tuple #[.int .i64 (kpos L k : Nat), .bool (khas L k)]) ∧ Below w.heap.size w w' := by
  obtain ⟨b, o, hz, hx⟩ := h.split
  have hz' : Hid (n = 0) ∨ a = some ⟨b, o, none⟩ := hz.imp_left hidp
  have HX := hidp hx
  have mm := h.max
  have ee := h.le
  have LN := hidp h.len
  have RI := hidp (fun i j (hij : i ≤ j) (hj : j < n) => ckey_rise L hr i j hij (by rw [LN.out]; exact hj))
  have FF := hidp (fun y n W => findf_c y n k W)
  clear hx hz h hr
  go_enter Tryz.func179, Tryz.ntmps179
  go_wp2
  go_loopg [9, 10] n (fun gg s9 s10 wr => ∃ lo hi : Nat, s9 = .int .i64 lo ∧ s10 = .int .i64 hi ∧ lo ≤ hi ∧ hi ≤ n ∧ hi - lo ≤ gg ∧ Below w.heap.size w wr ∧ Hid ((∀ t, t < lo → ckey L t < k) ∧ (∀ t, hi ≤ t → t < n → k ≤ ckey L t)))
  case atStart => exact ⟨0, n, rfl, rfl, Nat.zero_le _, Nat.le_refl _, by omega, Below.refl _ _, hidp ⟨fun t ht => absurd ht (Nat.not_lt_zero _), fun t h1 h2 => by omega⟩⟩
  case round =>
    obtain ⟨lo, hi, rfl, rfl, hlh, hin, hg, hbl, I⟩ := hrel
    by_cases hlt : lo < hi
    · obtain rfl : a = some ⟨b, o, none⟩ := hz'.resolve_left (fun e => by have := e.out; omega)
      obtain ⟨hbs, hc1, hc2⟩ := HX.out ((lo + hi) / 2) (by omega)
      have q0 := carry_cell ⟨hbs, hc1⟩ hbl
      have q1 := carry_cell ⟨hbs, hc2⟩ hbl
      clear hc1 hc2
      have KY := hidp (rfl : ckey L ((lo + hi) / 2) = ckey L ((lo + hi) / 2))
      obtain ⟨y, hy⟩ : ∃ y, y = ckey L ((lo + hi) / 2) := ⟨_, rfl⟩
      rw [← hy] at q0
      have HY := hidp hy
      clear hy KY
      generalize cnum L ((lo + hi) / 2) = nu at *
      have hc := FF.out y nu wr
      by_cases hyx : y < k
      · rw [if_pos hyx] at hc
        have HC := hidp hc
        clear hc
        go_wp2_with fail
        refine HC.out.mono ?_
        rintro e w' ⟨rfl, hb1⟩
        go_wp2
        go_roundg (hi - ((lo + hi) / 2 + 1))
        case measure => omega
        case rel =>
          refine ⟨(lo + hi) / 2 + 1, hi, by rw [show ((lo : Int) + (hi : Int)) / 2 + 1 = (((lo + hi) / 2 + 1 : Nat) : Int) by omega], rfl, by omega, hin, Nat.le_refl _, bstep hbl hb1, hidp ⟨fun t ht => ?_, I.out.2⟩⟩
          have := RI.out t ((lo + hi) / 2) (by omega) (by omega)
          rw [← HY.out] at this; omega
      · have hc' : Calls Tryz.prog 180 #[.agg #[.int .i64 y, .int .i64 nu], .int .i64 k] wr fun e w' => (∃ r : Int, 0 ≤ r ∧ e = .returned (.int .i64 r)) ∧ Below wr.heap.size wr w' := by
          refine hc.mono ?_
          rintro e w' ⟨rfl, hb⟩
          refine ⟨⟨_, ?_, rfl⟩, hb⟩
          rw [if_neg hyx]; split <;> omega
        have HC := hidp hc'
        clear hc hc'
        go_wp2_with fail
        refine HC.out.mono ?_
        rintro e w' ⟨⟨r, hr0, rfl⟩, hb1⟩
        go_wp2
        go_roundg ((lo + hi) / 2 - lo)
        case measure => omega
        case rel =>
          refine ⟨lo, (lo + hi) / 2, rfl, by rw [show ((lo : Int) + (hi : Int)) / 2 = (((lo + hi) / 2 : Nat) : Int) by omega], by omega, by omega, Nat.le_refl _, bstep hbl hb1, hidp ⟨I.out.1, fun t ht htn => ?_⟩⟩
          have := RI.out ((lo + hi) / 2) t ht htn
          rw [← HY.out] at this; omega
    · obtain rfl : hi = lo := by omega
      have hkp := kpos_eq k L hi (by rw [LN.out]; exact hin) I.out.1 (fun t h3 h4 => I.out.2 t h3 (by rw [← LN.out]; exact h4))
      have hkh : khas L k = (decide (hi < n) && decide (ckey L hi = k)) := by unfold khas; rw [hkp, LN.out]
      replace hkp := hidp hkp
      replace hkh := hidp hkh
      have I2 := I.out.2 hi (Nat.le_refl _)
      clear I
      by_cases hn' : hi < n
      · obtain rfl : a = some ⟨b, o, none⟩ := hz'.resolve_left (fun e => by have := e.out; omega)
        obtain ⟨hbs, hc1, hc2⟩ := HX.out hi hn'
        have q0 := carry_cell ⟨hbs, hc1⟩ hbl
        have q1 := carry_cell ⟨hbs, hc2⟩ hbl
        clear hc1 hc2
        have hky := I2 hn'
        clear I2
        generalize ckey L hi = y at *
        generalize cnum L hi = nu at *
        have hc := FF.out y nu wr
        rw [if_neg (show ¬ y < k by omega)] at hc
        by_cases hyx : k < y
        · rw [if_pos hyx] at hc
          have HC := hidp hc
          clear hc
          have KH := hidp (show khas L k = false by rw [hkh.out, decide_eq_false (show ¬ y = k by omega)]; simp)
          go_wp2_with fail
          refine HC.out.mono ?_
          rintro e w' ⟨rfl, hb1⟩
          go_wp2
          go_ret2
          exact ⟨by rw [hkp.out, KH.out]; rfl, bstep hbl hb1⟩
        · rw [if_neg hyx] at hc
          have HC := hidp hc
          clear hc
          have KH := hidp (show khas L k = true by rw [hkh.out, decide_eq_true hn', decide_eq_true (show y = k by omega)]; rfl)
          go_wp2_with fail
          refine HC.out.mono ?_
          rintro e w' ⟨rfl, hb1⟩
          go_wp2
          go_ret2
          exact ⟨by rw [hkp.out, KH.out]; rfl, bstep hbl hb1⟩
      · have KH := hidp (show khas L k = false by rw [hkh.out, decide_eq_false hn']; simp)
        go_wp2
        go_ret2
        exact ⟨by rw [hkp.out, KH.out]; rfl, hbl⟩
theorem find_c (a : Option Addr) (n c : Nat) (L : List (Int × Int)) (k : Int) (w : World) (h : CntAt w a n c L) (hr : KRise L) (hn : n ≤ 1000) :
    Calls Tryz.prog 151 #[.slice a n c, .int .i64 k] w fun e w' => e = .returned (.tuple #[.int .i64 (kpos L k : Nat), .bool (khas L k)]) ∧ Below w.heap.size w w' := by
  have HC := hidp (bsf_c a n c L k w h hr hn)
  clear h hr
  go_enter Tryz.func151, Tryz.ntmps151
  go_wp2_with fail
  refine HC.out.mono ?_
  rintro e w' ⟨rfl, hb⟩
  go_wp2_with fail
  go_ret2
  exact ⟨rfl, hb⟩
theorem minf_c (y1 n1 y2 n2 : Int) (w : World) (h1 : 0 ≤ n1 ∧ n1 ≤ 4611686018427387904) (h2 : 0 ≤ n2 ∧ n2 ≤ 4611686018427387904) :
    Calls Tryz.prog 149 #[.agg #[.int .i64 y1, .int .i64 n1], .agg #[.int .i64 y2, .int .i64 n2]] w fun e w' => e = .returned (.int .i64 (n1 - n2)) ∧ Below w.heap.size w w' := by
  have hb : Below w.heap.size w ((w.alloc (.cells #[.int .i64 y1, .int .i64 n1] 169)).alloc (.cells #[.int .i64 y2, .int .i64 n2] 169)) := bal (bal (Below.refl _ _) _) _
  have hw := hidp (show IntKind.i64.wrap (n1 - n2) = n1 - n2 from IntWalk.i64_in _ (by omega))
  go_enter Tryz.func149, Tryz.ntmps149
  go_wp2
  go_ret
  exact ⟨ret_int (by first | rfl | exact hw.out), hb⟩
end Go.Proofs.YtgodgfnfaiiohaaGreatDoor

/- Contracts of slices.MinFunc at counters and of few.less. -/
namespace Go.Proofs.YtgodgfnfaiiohaaGreatDoor
open Go.ChangeShapes Go.WideShapes Go.ChangeAt Go.RowKit
set_option maxRecDepth 20000
theorem kmn_snoc (p : Int × Int) : ∀ l : List (Int × Int), 0 < l.length → kmn (l ++ [p]) = min (kmn l) p.2
  | [], h => by simp at h
  | [q], _ => rfl
  | q :: r :: l, _ => by
    have ih := kmn_snoc p (r :: l) (by simp)
    show min q.2 (kmn ((r :: l) ++ [p])) = min (min q.2 (kmn (r :: l))) p.2
    rw [ih]; omega
theorem kmn_bd (B : Int) : ∀ l : List (Int × Int), (∀ p ∈ l, 0 ≤ p.2 ∧ p.2 ≤ B) → 0 ≤ B → 0 ≤ kmn l ∧ kmn l ≤ B
  | [], _, hB => ⟨Int.le_refl _, hB⟩
  | [p], h, _ => h p (by simp)
  | p :: q :: l, h, hB => by
    have ih := kmn_bd B (q :: l) (fun r hr => h r (by simp only [List.mem_cons] at hr ⊢; exact .inr hr)) hB
    have := h p (by simp)
    show 0 ≤ min p.2 (kmn (q :: l)) ∧ min p.2 (kmn (q :: l)) ≤ B
    omega
/-- What stands while the least is sought. -/
structure MinS (W : World) (H : Nat) (y m : Int) : Prop where
  r0 : ∃ u, W.cell? ⟨H, 0, none⟩ = some u
  r1 : ∃ u, W.cell? ⟨H, 1, none⟩ = some u
  o0 : W.cell? ⟨H + 1, 0, none⟩ = some (.int .i64 y)
  o1 : W.cell? ⟨H + 1, 1, none⟩ = some (.int .i64 m)
  fr : ∀ o, W.frozen? ⟨H, o, none⟩ = false
  fo : ∀ o, W.frozen? ⟨H + 1, o, none⟩ = false
theorem MinS.below {W W' : World} {H : Nat} {y m : Int} (h : MinS W H y m) (hb : Below W.heap.size W W') : MinS W' H y m :=
  ⟨h.r0.imp (fun _ e => ck hb e), h.r1.imp (fun _ e => ck hb e), ck hb h.o0, ck hb h.o1, fun o => by
    obtain ⟨u, e⟩ := h.r0
    exact (hb.frozen (p := ⟨H, o, none⟩) (show H < _ from ltc e)).trans (h.fr o), fun o => (hb.frozen (p := ⟨H + 1, o, none⟩) (show H + 1 < _ from ltc h.o0)).trans (h.fo o)⟩
theorem MinS.put {W : World} {H : Nat} {y m : Int} (h : MinS W H y m) (y' m' : Int) : MinS ((W.setCell ⟨H + 1, 0, none⟩ (.int .i64 y')).setCell ⟨H + 1, 1, none⟩ (.int .i64 m')) H y' m' :=
  ⟨h.r0.imp (fun _ e => coff (coff e (by omega)) (by omega)), h.r1.imp (fun _ e => coff (coff e (by omega)) (by omega)), (res2 _ _ h.o0 h.o1).1, (res2 _ _ h.o0 h.o1).2, fun o => frs (frs (h.fr o)), fun o => frs (frs (h.fo o))⟩
set_option maxHeartbeats 8000000 in
theorem minfunc_c (a : Option Addr) (n c : Nat) (L : List (Int × Int)) (w : World) (h : CntAt w a n c L) (hn0 : 1 ≤ n) (hn : n ≤ 1000) (hN : ∀ p ∈ L, 0 ≤ p.2 ∧ p.2 ≤ 4000000000000) :
    Calls Tryz.prog 148 #[.slice a n c, .func (.func 149) #[] #[]] w fun e w' => ∃ y, e = .returned (.agg #[.int .i64 y, .int .i64 (kmn L)]) ∧ Below w.heap.size w w' := by
  obtain ⟨b, o, hz, hx⟩ := h.split
  obtain rfl : a = some ⟨b, o, none⟩ := hz.resolve_left (by omega)
  have HX := hidp hx
  have mm := h.max
  have ee := h.le
  have LN := hidp h.len
  have KB := hidp (fun k => kmn_bd 4000000000000 (L.take k) (fun p hp => hN p (List.mem_of_mem_take hp)) (by omega))
  have HN := hidp (fun i (hi : i < n) => hN _ (cmem L i (by rw [h.len]; exact hi)))
  have ST := hidp (fun i (h0 : 0 < i) (hi : i < n) => show kmn (L.take (i + 1)) = min (kmn (L.take i)) (cnum L i) by
    rw [ctake L i (by rw [LN.out]; exact hi)]
    exact kmn_snoc _ _ (by rw [List.length_take, LN.out]; omega))
  have TL := hidp (show kmn (L.take n) = kmn L by rw [← LN.out, List.take_length])
  have T1 := hidp (show kmn (L.take 1) = cnum L 0 by
    have := ctake L 0 (by rw [LN.out]; omega)
    rw [this]; rfl)
  obtain ⟨hbs0, hc0, hc1⟩ := hx 0 (by omega)
  rw [Nat.zero_mul, Nat.add_zero] at hc0 hc1
  have b0 := HN.out 0 (by omega)
  clear hx hz h hN
  go_enter Tryz.func148, Tryz.ntmps148
  go_upto_region 4 with fail
  have hb1 : Below w.heap.size w ((w.alloc (.cells #[.int .i64 0, .int .i64 0] 169)).alloc (.cells #[.int .i64 (ckey L 0), .int .i64 (cnum L 0)] 169)) := bal (bal (Below.refl _ _) _) _
  have hs1 : w.heap.size + 2 ≤ ((w.alloc (.cells #[.int .i64 0, .int .i64 0] 169)).alloc (.cells #[.int .i64 (ckey L 0), .int .i64 (cnum L 0)] 169)).heap.size := by simp
  have hw1 : MinS ((w.alloc (.cells #[.int .i64 0, .int .i64 0] 169)).alloc (.cells #[.int .i64 (ckey L 0), .int .i64 (cnum L 0)] 169)) w.heap.size (ckey L 0) (cnum L 0) :=
    ⟨⟨.int .i64 0, by go_simp⟩, ⟨.int .i64 0, by go_simp⟩, by go_simp, by go_simp, fun o => by go_simp, fun o => by go_simp⟩
  generalize ((w.alloc (.cells #[.int .i64 0, .int .i64 0] 169)).alloc (.cells #[.int .i64 (ckey L 0), .int .i64 (cnum L 0)] 169)) = w1 at *
  go_wp2_with fail
  go_loopg [6] n (fun gg i wr => ∃ (k : Nat) (y : Int), 1 ≤ k ∧ k ≤ n ∧ n - k ≤ gg ∧ i = .int .i64 k ∧ Hid (MinS wr w.heap.size y (kmn (L.take k))) ∧ Below w.heap.size w wr ∧ w.heap.size + 2 ≤ wr.heap.size)
  case atStart => exact ⟨1, _, by omega, by omega, by omega, rfl, by rw [T1.out]; exact hidp hw1, hb1, hs1⟩
  case round =>
    obtain ⟨k, y, hk1, hk, hgg, rfl, MS, hbl, hsr⟩ := hrel
    clear hw1 hb1 hs1
    by_cases hlt : k < n
    · obtain ⟨hbs, hc1, hc2⟩ := HX.out k hlt
      have q0 := carry_cell ⟨hbs, hc1⟩ hbl
      have q1 := carry_cell ⟨hbs, hc2⟩ hbl
      clear hc1 hc2
      have o0 := MS.out.o0
      have o1 := MS.out.o1
      have m1 := KB.out k
      have m2 := HN.out k hlt
      have m2' : 0 ≤ cnum L k ∧ cnum L k ≤ 4000000000000 := m2
      clear m2
      have SS := hidp (ST.out k (by omega) hlt)
      have MF := hidp (fun W => minf_c (ckey L k) (cnum L k) y (kmn (L.take k)) W (by omega) (by omega))
      have bw : b < wr.heap.size := by have := hbl.size; omega
      generalize ckey L k = y1 at *
      generalize cnum L k = n1 at *
      generalize kmn (L.take k) = m at *
      go_upto_region 7 with fail
      go_region_with (go_at_call 149; go_loud (refine (MF.out _).mono ?_; rintro e w' ⟨rfl, hb2⟩))
      all_goals have hb3 := bstep (Below.refl wr.heap.size wr).drew hb2
      all_goals have MS2 := hidp (MS.out.below hb3)
      all_goals have p0 := ck hb3 q0
      all_goals have p1 := ck hb3 q1
      all_goals have x0 := MS2.out.o0
      all_goals have x1 := MS2.out.o1
      all_goals have f0 := MS2.out.fo 0
      all_goals have f1 := MS2.out.fo 1
      all_goals have hbw := bstep hbl hb3
      all_goals have hsw := hb3.size
      all_goals clear hb2 hb3 q0 q1 o0 o1 MS
      all_goals by_cases hc : n1 - m < 0
      all_goals go_wp2
      all_goals go_roundg (n - (k + 1))
      all_goals first
        | omega
        | exact ⟨k + 1, y1, by omega, by omega, by omega, by go_num, by rw [SS.out, show min m n1 = n1 by omega]; exact hidp (MS2.out.put y1 n1), below_set2 hbw (w.heap.size + 1) (by omega) _ _, by simp; omega⟩
        | exact ⟨k + 1, y, by omega, by omega, by omega, by go_num, by rw [SS.out, show min m n1 = m by omega]; exact MS2, hbw, by omega⟩
    · obtain rfl : k = n := by omega
      obtain ⟨⟨u0, r0⟩, ⟨u1, r1⟩, o0, o1, fr, fo⟩ := MS.out
      have f0 := fr 0
      have f1 := fr 1
      rw [TL.out] at o1
      have hr := hidp (res2 (.int .i64 y) (.int .i64 (kmn L)) r0 r1)
      have hbv := hidp (below_set2 hbl w.heap.size (Nat.le_refl _) (.int .i64 y) (.int .i64 (kmn L)))
      clear fr fo MS
      go_wp2_with fail
      obtain ⟨t0, t1⟩ := hr.out
      have hbx := hbv.out
      clear hr hbv
      generalize ((wr.setCell ⟨w.heap.size, 0, none⟩ (.int .i64 y)).setCell ⟨w.heap.size, 1, none⟩ (.int .i64 (kmn L))) = w7 at *
      exact bodyPost_ret (v := .agg #[.int .i64 y, .int .i64 (kmn L)]) (by simp [results, Tryz.results148, go_sem, t0, t1]) rfl ⟨y, rfl, hbx⟩
set_option maxHeartbeats 8000000 in
theorem fewless_c (a : Option Addr) (n c : Nat) (L : List (Int × Int)) (d : Int) (w : World) (h : CntAt w a n c L) (hn : n ≤ 1000) (hd : 0 ≤ d ∧ d ≤ 4000000000000) (hN : ∀ p ∈ L, 0 ≤ p.2 ∧ p.2 ≤ 4000000000000) :
    Calls Tryz.prog 150 #[.slice a n c, .int .i64 d] w fun e w' => ∃ v, e = .returned v ∧ w'.ownsRow w.heap.size 169 2 v (kless d L).length (cntV (kless d L)) ∧ Below w.heap.size w w' := by
  obtain ⟨b, o, hz, hx⟩ := h.split
  have hz' : Hid (n = 0) ∨ a = some ⟨b, o, none⟩ := hz.imp_left hidp
  have HX := hidp hx
  have mm := h.max
  have ee := h.le
  have LN := hidp h.len
  have HN := hidp (fun i (hi : i < n) => hN _ (cmem L i (by rw [h.len]; exact hi)))
  have KL := hidp (fun k => show (kless d (L.take k)).length ≤ k by
    rw [kless_len]
    exact Nat.le_trans List.countP_le_length (by rw [List.length_take]; omega))
  have ST := hidp (fun i (hi : i < n) => show kless d (L.take (i + 1)) = kless d (L.take i) ++ (if d < cnum L i then [(ckey L i, cnum L i - d)] else []) by
    rw [ctake L i (by rw [LN.out]; exact hi), kless_append]; rfl)
  have TL := hidp (show kless d (L.take n) = kless d L by rw [← LN.out, List.take_length])
  clear hx hz h hN
  go_enter Tryz.func150, Tryz.ntmps150
  go_wp2_with fail
  go_loopg [5, 10] n (fun gg v i wr => ∃ k : Nat, k ≤ n ∧ n - k ≤ gg ∧ i = .int .i64 k ∧ wr.ownsRow w.heap.size 169 2 v (kless d (L.take k)).length (cntV (kless d (L.take k))) ∧ Below w.heap.size w wr)
  case atStart => exact ⟨0, by omega, by omega, rfl, World.ownsRow_nil _ _ _ _, Below.refl _ _⟩
  case round =>
    obtain ⟨k, hk, hgg, rfl, hv, hbl⟩ := hrel
    by_cases hlt : k < n
    · obtain rfl : a = some ⟨b, o, none⟩ := hz'.resolve_left (fun e => by have := e.out; omega)
      obtain ⟨hbs, hc1, hc2⟩ := HX.out k hlt
      have q0 := carry_cell ⟨hbs, hc1⟩ hbl
      have q1 := carry_cell ⟨hbs, hc2⟩ hbl
      clear hc1 hc2
      have m2 : 0 ≤ cnum L k ∧ cnum L k ≤ 4000000000000 := HN.out k hlt
      have SS := ST.out k hlt
      have kl := KL.out k
      generalize ckey L k = y1 at *
      generalize cnum L k = n1 at *
      generalize kless d (L.take k) = M at *
      by_cases hc : d < n1
      · rw [if_pos hc] at SS
        have S2 := hidp SS
        clear SS
        have WR : IntKind.i64.wrap (n1 - d) = n1 - d := IntWalk.i64_in _ (by omega)
        have hvx := hv.alloc (.cells #[.int .i64 y1, .int .i64 n1] 169)
        have hbx := bal hbl (.cells #[.int .i64 y1, .int .i64 n1] 169)
        have x0 : (wr.alloc (.cells #[.int .i64 y1, .int .i64 n1] 169)).cell? ⟨wr.heap.size, 0, none⟩ = some (.int .i64 y1) := by go_simp
        have x1 : (wr.alloc (.cells #[.int .i64 y1, .int .i64 n1] 169)).cell? ⟨wr.heap.size, 1, none⟩ = some (.int .i64 n1) := by go_simp
        go_upto_region 6 with fail
        generalize (wr.alloc (.cells #[.int .i64 y1, .int .i64 n1] 169)) = wx at *
        generalize wr.heap.size = XB at *
        clear hv hbl q0 q1
        have hgs := hbx.size
        go_wp2_with (at_builtin; refine wpList_append_new rfl (.tmp 18) (.tmp 26) 34 rfl w.heap.size 169 _ 2 16 info_cnt rfl (by decide) Tryz.underlying34 _ M.length _ rfl hvx rfl (one_two y1 (n1 - d)) rfl rfl (by omega) (by decide) hgs ?_; intro v0 x0 nw g0 d0)
        go_roundg (n - (k + 1))
        case measure => omega
        case rel => exact ⟨k + 1, by omega, by omega, by go_num, by rw [S2.out, cntV_snoc, List.length_append]; exact nw, append_step hvx hbx (Nat.le_refl _) g0⟩
      · rw [if_neg hc, List.append_nil] at SS
        have S2 := hidp SS
        clear SS
        have hvx := hv.alloc (.cells #[.int .i64 y1, .int .i64 n1] 169)
        go_wp2
        go_roundg (n - (k + 1))
        case measure => omega
        case rel => exact ⟨k + 1, by omega, by omega, by go_num, by rw [S2.out]; exact hvx, bal hbl _⟩
    · obtain rfl : k = n := by omega
      rw [TL.out] at hv
      go_wp2
      go_ret
      exact ⟨_, rfl, hv, hbl⟩
end Go.Proofs.YtgodgfnfaiiohaaGreatDoor

/- Contract of slices.Insert of one element (a counter) into a slice of the call's own. -/
namespace Go.Proofs.YtgodgfnfaiiohaaGreatDoor
open Go.ChangeShapes Go.WideShapes Go.ChangeAt Go.RowKit
set_option maxRecDepth 20000
set_option maxHeartbeats 8000000 in
theorem insc_c (b n c i B vb : Nat) (xs vs : List Value) (T : TypeId) (w : World) (h : w.ownsRow B 169 2 (.slice (some ⟨b, 0, none⟩) n c) n xs) (hi : i ≤ n) (hn : n ≤ 1000) (hvl : vs.length = 2) (hv : w.heap[vb]? = some (.cells vs.toArray T (0, 0))) (hvb : vb ≠ b) (h1v : ∀ v ∈ vs, v.oneCell' = true) (h1x : ∀ v ∈ xs, v.oneCell' = true) :
    Calls Tryz.prog 178 #[.slice (some ⟨b, 0, none⟩) n c, .int .i64 i, .slice (some ⟨vb, 0, none⟩) 1 1] w fun e w' => ∃ v', e = .returned v' ∧ w'.ownsRow B 169 2 v' (n + 1) (xs.take (i * 2) ++ vs ++ xs.drop (i * 2)) ∧ w.grownBy w' (some b) ∧ NearBlk v' (some b) w.heap.size := by
  obtain ⟨i0, hi0, hz0, hz1, hz2⟩ := info_parts info_cnt
  have hsz : (Tryz.prog.info? 169).map (·.size) = some 2 := by rw [hi0]; simp [hz1]
  obtain ⟨R, hR⟩ : ∃ R, R = xs.take (i * 2) ++ vs ++ xs.drop (i * 2) := ⟨_, rfl⟩
  rw [← hR]
  have HR := hidp hR
  clear hR
  obtain ⟨hxl0, hrow⟩ := h
  have hxl : xs.length = n * 2 := by first | exact hxl0 | simpa using hxl0
  have H := hidp (show w.ownsRow B 169 2 (.slice (some ⟨b, 0, none⟩) n c) n xs from ⟨hxl0, hrow⟩)
  obtain ⟨cur, hB, hcur, hnc, hcm, hcs, hct⟩ : ∃ cur : List Value, B ≤ b ∧ w.heap[b]? = some (.cells cur.toArray 169 (0, 0)) ∧ n ≤ c ∧ c ≤ maxLen ∧ cur.length = c * 2 ∧ cur.take (n * 2) = xs := by
    rcases hrow with ⟨h0, _⟩ | ⟨g, cp, cu, he, hg, hh, h1, h2, h3, h4⟩
    · cases h0
    · simp only [Value.slice.injEq, Option.some.injEq, Addr.mk.injEq] at he
      obtain ⟨⟨rfl, _, _⟩, _, rfl⟩ := he
      exact ⟨cu.toList, hg, by simpa using hh, h1, h2, by simpa using h3, by first | exact h4 | simpa using h4⟩
  clear hrow
  unfold maxLen at hcm
  have hbs : b < w.heap.size := (Array.getElem?_eq_some_iff.1 hcur).1
  have hvs : vb < w.heap.size := (Array.getElem?_eq_some_iff.1 hv).1
  have VC := hidp (fun (W : World) (hW : W.heap[vb]? = w.heap[vb]?) j u (hu : vs[j]? = some u) => show W.cell? ((⟨vb, 0, none⟩ : Addr).add j) = some u by
    rw [addr_add0, blk_cell (hW.trans hv)]; exact hu)
  have XC := hidp (fun (W : World) (hW : W.heap[b]? = w.heap[b]?) j u (hu : (xs.drop (i * 2))[j]? = some u) => show W.cell? ((⟨b, i * 2, none⟩ : Addr).add j) = some u by
    rw [addr_add, blk_cell (hW.trans hcur)]
    rw [List.getElem?_drop, ← hct, List.getElem?_take] at hu
    split at hu
    · exact hu
    · cases hu)
  have hdl : (xs.drop (i * 2)).length = (n - i) * 2 := by simp only [List.length_drop, hxl] <;> omega
  have D1 := hidp (fun v (hv : v ∈ xs.drop (i * 2)) => h1x v (List.mem_of_mem_drop hv))
  by_cases hin : i = n
  · subst hin
    have hT := hidp (show R = xs ++ vs by rw [HR.out, List.take_of_length_le (by omega), List.drop_of_length_le (by omega), List.append_nil])
    clear hdl hct hcur hcs
    go_enter Tryz.func178, Tryz.ntmps178
    go_wp2_with (at_builtin; refine wpList_append_own_at _ rfl (.tmp 23) (.tmp 24) 34 rfl B 169 i0 (Value.agg #[.int .i64 0, .int .i64 0]) 2 16 Tryz.underlying34 hi0 hz0 hz1 hz2 rfl (by decide) _ i xs rfl H.out ⟨vb, 0, none⟩ 1 1 vs rfl (by omega) (VC.out _ rfl) h1v (by unfold maxLen; omega) (by omega) (by omega) ?_; intro v1 w1 o1 g1 a1 d1)
    all_goals go_ret
    all_goals exact ⟨_, rfl, by rw [hT.out]; exact o1, g1, fun g e => d1.imp (fun h => h.symm.trans e) (fun h => Nat.le_of_eq (Option.some.inj (h.symm.trans e)))⟩
  · have hlt : i < n := by omega
    have hne : ¬ ((i : Int) = (n : Int)) := by omega
    have hw1 : IntKind.i64.wrap ((i : Int) + 1) = (i : Int) + 1 := by rw [IntKind.wrap_i64]; omega
    have ht1 : ((i : Int) + 1).toNat = i + 1 := by omega
    have hb1 : (0 : Int) ≤ (i : Int) + 1 := by omega
    have hb3 : (i : Int) ≤ (n : Int) := by omega
    by_cases hroom : c < n + 1
    · have hz3 : (c : Int) < (n : Int) + 1 := by omega
      have hkk : (n : Int) + 1 - (i : Int) = ((n + 1 - i : Nat) : Int) := by omega
      have hik : i + (n + 1 - i) = n + 1 := by omega
      have hold : (Builtin.firstCells i0.size i (.slice (some ⟨b, 0, none⟩) i c)).run Tryz.prog w.drew = .ok (xs.take (i * 2)).toArray w.drew := by
        rw [hz1]
        exact run_firstCells_some w.drew 2 i ⟨b, 0, none⟩ i c (xs.take (i * 2)) (by rw [List.length_take]; omega) (fun j v hj => by
          rw [addr_add0]
          show w.cell? ⟨b, j, none⟩ = _
          rw [blk_cell hcur]
          rw [List.getElem?_take] at hj
          split at hj
          · rw [← hct, List.getElem?_take] at hj
            split at hj
            · exact hj
            · cases hj
          · cases hj)
      have hrz : ∀ ty, (Builtin.append_ #[34, 3] ty #[.slice (some ⟨b, 0, none⟩) i c, .int .i64 ((n : Int) + 1 - (i : Int))]).run Tryz.prog w =
          .ok (.slice (some ⟨w.heap.size, 0, none⟩) (n + 1) (grownCap w (n + 1) c 169)) (w.drew.alloc (.cells ((xs.take (i * 2)).toArray ++ Builtin.zeroCells ((Value.agg #[.int .i64 0, .int .i64 0])).cells (n + 1 - i) ++ Builtin.zeroCells ((Value.agg #[.int .i64 0, .int .i64 0])).cells (grownCap w (n + 1) c 169 - (n + 1))) 169)) := fun ty => by
        have h := Lib.run_append_grow_zeros w 34 3 ty 169 i0 _ .i64 .i64 Tryz.underlying34 Tryz.underlying3 hi0 hz0 (some ⟨b, 0, none⟩) i c (xs.take (i * 2)) hold (n + 1 - i) (by omega) (by omega) (by omega) (by omega) (by rw [hz2]; omega) (by rw [hz2, hik]; exact growslice_fits hroom (by omega))
        rw [hik] at h
        rw [hkk]
        exact h
      obtain ⟨G, hG⟩ : ∃ G, G = grownCap w (n + 1) c 169 := ⟨_, rfl⟩
      have hGn : n + 1 ≤ G := by rw [hG]; exact grownCap_ge w _ _ _
      have hG63 : G ≤ 9223372036854775807 := by
        have := grownCap_le_maxLen w (n + 1) c 169 (by unfold maxLen; omega)
        rw [← hG] at this
        unfold maxLen at this
        omega
      obtain ⟨Z, hZ⟩ : ∃ Z : List Value, Z = (Builtin.zeroCells ((Value.agg #[.int .i64 0, .int .i64 0])).cells (n + 1 - i) ++ Builtin.zeroCells ((Value.agg #[.int .i64 0, .int .i64 0])).cells (G - (n + 1))).toList := ⟨_, rfl⟩
      have hZl : Z.length = (n + 1 - i) * 2 + (G - (n + 1)) * 2 := by
        rw [hZ]; simp [Builtin.zeroCells, Value.cells]
      have hROW : (xs.take (i * 2)).toArray ++ Builtin.zeroCells ((Value.agg #[.int .i64 0, .int .i64 0])).cells (n + 1 - i) ++ Builtin.zeroCells ((Value.agg #[.int .i64 0, .int .i64 0])).cells (G - (n + 1)) = (xs.take (i * 2) ++ Z).toArray := by
        rw [hZ]
        simp [Array.append_assoc]
      rw [← hG, hROW] at hrz
      have htl : (xs.take (i * 2)).length = i * 2 := by rw [List.length_take]; omega
      have hrl : (xs.take (i * 2) ++ Z).length = G * 2 := by rw [List.length_append, htl, hZl]; omega
      have SF := hidp (spl_fresh Z xs vs (i * 2) 2 (n * 2) hxl (by omega) hvl (by omega))
      have LN := hidp (fun (D : List Value) (hD : D = xs.drop (i * 2)) => show (spl (spl (xs.take (i * 2) ++ Z) (i * 2) vs) (i * 2 + 2) D).length = G * 2 by
        have e1 := spl_len (xs.take (i * 2) ++ Z) (i * 2) vs (by omega)
        rw [spl_len _ _ _ (by rw [e1, hD, hdl]; omega), e1, hrl])
      have hfin : (spl (xs.take (i * 2) ++ Z) (i * 2) vs).length = G * 2 := by rw [spl_len _ _ _ (by omega), hrl]
      have FL := hidp (show R.length = (n + 1) * (2) by rw [HR.out, List.length_append, List.length_append, htl, hdl]; omega)
      obtain ⟨W1, hW1⟩ : ∃ W1, W1 = w.drew.alloc (.cells (xs.take (i * 2) ++ Z).toArray 169) := ⟨_, rfl⟩
      have n1 : W1.heap[w.heap.size]? = some (.cells (xs.take (i * 2) ++ Z).toArray 169 (0, 0)) := by rw [hW1]; exact heap_alloc_new w.drew _
      have o1 : ∀ k, k < w.heap.size → W1.heap[k]? = w.heap[k]? := fun k hk => by rw [hW1]; exact Below.heap_alloc w.drew _ _ hk
      have b1 : Below B w W1 := by rw [hW1]; exact (Below.refl B w).drew.alloc (by show B ≤ w.heap.size; omega) _
      rw [← hW1] at hrz
      have RZ := hidp hrz
      clear hxl0 hrz hold hkk hik hROW hZ hG hW1 hct hcs hxl H
      have hGi : ¬ (G = i) := by omega
      have hGim : ¬ (G = i + 1) := by omega
      have hci : ¬ (c = i) := by omega
      go_enter Tryz.func178, Tryz.ntmps178
      go_wp2_with (first
        | (at_builtin; refine Lib.wpList_append_run _ rfl _ _ _ _ rfl _ _ rfl rfl _ _ (RZ.out _) ?_)
        | (refine wpList_copy_blk rfl (.tmp 43) (.tmp 44) 34 34 rfl 169 Tryz.underlying34 2 hsz w.heap.size (i * 2) (n + 1 - i) (G - i) ⟨vb, 0, none⟩ 1 1 rfl rfl vs (by rw [hvl]; simp only [Nat.min_def]; split <;> omega) (VC.out _ (o1 vb hvs)) 169 _ n1 (by omega) h1v ?_; intro w2 n2 m2 b2))
      have hs1 : w.heap.size + 1 ≤ W1.heap.size := by have := (Array.getElem?_eq_some_iff.1 n1).1; omega
      have k2 : ∀ k, k < w.heap.size → w2.heap[k]? = w.heap[k]? := fun k hk => (b2.block k hk).trans (o1 k hk)
      go_region_law ((refine step_copy_blk rfl (.tmp 50) (.tmp 53) 34 34 rfl 169 Tryz.underlying34 2 hsz w.heap.size ((i + 1) * 2) (n - i) (G - (i + 1)) ⟨b, i * 2, none⟩ (n - i) (c - i) (by simp [Act.eval, Act.put]) (by simp [Act.eval, Act.put]) (xs.drop (i * 2)) (by rw [hdl]; simp only [Nat.min_def]; split <;> omega) (XC.out _ (k2 b hbs)) 169 _ n2 (by rw [hfin, hdl]; omega) D1.out ?_; intro w3 n3 m3 b3))
      all_goals go_wp2
      all_goals go_ret
      all_goals have e3 : (i + 1) * 2 = i * 2 + 2 := by omega
      all_goals rw [e3] at n3
      all_goals refine ⟨_, rfl, ⟨FL.out, .inr ⟨w.heap.size, G, _, rfl, by omega, n3, hGn, by unfold maxLen; omega, ?_, ?_⟩⟩, grown_of (((b1.trans (b2.mono (by omega))).drew).trans (b3.mono (by omega))) (fun k hk _ => (b3.block k hk).trans (k2 k hk)), fun g e => .inr (Nat.le_of_eq (Option.some.inj e))⟩
      all_goals first
        | (rw [List.size_toArray]; have := LN.out _ rfl; omega)
        | (rw [show (n + 1) * (2) = n * 2 + 2 by omega, HR.out]; exact SF.out)
    · have hov : ∀ lb cb, (callFunc 196 #[.slice (some ⟨vb, 0, none⟩) 1 1, .slice (some ⟨b, (i + 1) * 2, none⟩) lb cb]).run Tryz.prog w = .ok (.value (.bool false)) w := fun lb cb => by
        rw [run_callFunc_extern Tryz.func196 (by kernel_rfl) (by kernel_rfl) (by kernel_rfl) (e := Extern.SlicesOverlaps.overlaps #[34, 34] #[4]) (by kernel_rfl),
          Lib.run_overlaps_apart w 34 4 169 Tryz.underlying34 2 Tryz.sizeOf169 ⟨vb, 0, none⟩ ⟨b, (i + 1) * 2, none⟩ 1 1 lb cb hvb T 169 vs.length cur.length (by unfold World.shape?; rw [hv]; simp) (by unfold World.shape?; rw [hcur]; simp) (by omega) (blk_fro hv 0) (blk_fro hv _)]
        rfl
      have hnr : (n : Int) + 1 ≤ (c : Int) := by omega
      have hnr2 : ¬ ((c : Int) < (n : Int) + 1) := by omega
      have hb2 : ¬ (c = i + 1) := by omega
      have hb4 : ¬ (c = i) := by omega
      have hb5 : (i : Int) ≤ (n : Int) + 1 := by omega
      have SS := hidp (spl_shift cur xs vs (i * 2) 2 (n * 2) hxl (by omega) hvl hct (by omega))
      have l1 : (spl cur (i * 2 + 2) (xs.drop (i * 2))).length = c * 2 := by rw [spl_len _ _ _ (by rw [hdl]; omega)]; exact hcs
      have l2 := hidp (show (spl (spl cur (i * 2 + 2) (xs.drop (i * 2))) (i * 2) vs).length = c * 2 by rw [spl_len _ _ _ (by omega)]; exact l1)
      have FL := hidp (show R.length = (n + 1) * (2) by rw [HR.out, List.length_append, List.length_append, List.length_take, hdl]; omega)
      clear hct H
      go_enter Tryz.func178, Tryz.ntmps178
      go_wp2_with (simp only [hov])
      go_region_law ((refine step_copy_blk rfl (.tmp 73) (.tmp 76) 34 34 rfl 169 Tryz.underlying34 2 hsz b ((i + 1) * 2) (n - i) (c - (i + 1)) ⟨b, i * 2, none⟩ (n + 1 - i) (c - i) (by simp [Act.eval, Act.put]) (by simp [Act.eval, Act.put]) (xs.drop (i * 2)) (by rw [hdl]; simp only [Nat.min_def]; split <;> omega) (XC.out _ rfl) 169 cur hcur (by rw [hdl]; omega) D1.out ?_; intro w3 n3 m3 b3))
      all_goals rw [show (i + 1) * 2 = i * 2 + 2 by omega] at n3
      all_goals go_wp2_with (refine wpList_copy_blk rfl (.tmp 80) (.tmp 81) 34 34 rfl 169 Tryz.underlying34 2 hsz b (i * 2) (n + 1 - i) (c - i) ⟨vb, 0, none⟩ 1 1 rfl rfl vs (by rw [hvl]; simp only [Nat.min_def]; split <;> omega) (VC.out _ (m3 vb hvb)) 169 _ n3 (by omega) h1v ?_; intro w4 n4 m4 b4)
      all_goals go_ret
      all_goals refine ⟨_, rfl, ⟨FL.out, .inr ⟨b, c, _, rfl, hB, n4, by omega, by unfold maxLen; omega, ?_, ?_⟩⟩, grown_of ((((Below.refl B w).drew).trans (b3.mono hB)).trans (b4.mono hB)) (fun k _ hne => (m4 k (fun e => hne (by rw [e]))).trans (m3 k (fun e => hne (by rw [e])))), fun g e => .inl e⟩
      all_goals first
        | (rw [List.size_toArray]; have := l2.out; omega)
        | (rw [show (n + 1) * (2) = n * 2 + 2 by omega, HR.out]; exact SS.out)
set_option maxHeartbeats 2000000 in
theorem insc_nil (B vb : Nat) (vs : List Value) (T : TypeId) (w : World) (hB : B ≤ w.heap.size) (hvl : vs.length = 2) (hv : w.heap[vb]? = some (.cells vs.toArray T (0, 0))) (h1v : ∀ v ∈ vs, v.oneCell' = true) :
    Calls Tryz.prog 178 #[.slice none 0 0, .int .i64 0, .slice (some ⟨vb, 0, none⟩) 1 1] w fun e w' => ∃ v', e = .returned v' ∧ w'.ownsRow B 169 2 v' 1 vs ∧ w.grownBy w' none ∧ NearBlk v' none w.heap.size := by
  obtain ⟨i0, hi0, hz0, hz1, hz2⟩ := info_parts info_cnt
  have VC := hidp (fun (W : World) (hW : W.heap[vb]? = w.heap[vb]?) j u (hu : vs[j]? = some u) => show W.cell? ((⟨vb, 0, none⟩ : Addr).add j) = some u by
    rw [addr_add0, blk_cell (hW.trans hv)]; exact hu)
  go_enter Tryz.func178, Tryz.ntmps178
  go_wp2_with (at_builtin; refine wpList_append_own_at _ rfl (.tmp 23) (.tmp 24) 34 rfl B 169 i0 (Value.agg #[.int .i64 0, .int .i64 0]) 2 16 Tryz.underlying34 hi0 hz0 hz1 hz2 rfl (by decide) _ 0 [] rfl (World.ownsRow_nil _ _ _ _) ⟨vb, 0, none⟩ 1 1 vs rfl (by omega) (VC.out _ rfl) h1v (by unfold maxLen; omega) (by omega) hB ?_; intro v1 w1 o1 g1 a1 d1)
  all_goals go_ret
  all_goals exact ⟨_, rfl, o1, g1, fun g e => d1.imp (fun h => h.symm.trans e) (fun h => Nat.le_of_eq (Option.some.inj (h.symm.trans e)))⟩
/-- Whatever slice of the call's own. -/
theorem insc_own (v : Value) (n i B vb : Nat) (xs vs : List Value) (T : TypeId) (w : World) (h : w.ownsRow B 169 2 v n xs) (hB : B ≤ w.heap.size) (hi : i ≤ n) (hn : n ≤ 1000) (hvl : vs.length = 2) (hv : w.heap[vb]? = some (.cells vs.toArray T (0, 0))) (hvb : v.ownBlock ≠ some vb) (h1v : ∀ v ∈ vs, v.oneCell' = true) (h1x : ∀ v ∈ xs, v.oneCell' = true) :
    Calls Tryz.prog 178 #[v, .int .i64 i, .slice (some ⟨vb, 0, none⟩) 1 1] w fun e w' => ∃ v', e = .returned v' ∧ w'.ownsRow B 169 2 v' (n + 1) (xs.take (i * 2) ++ vs ++ xs.drop (i * 2)) ∧ w.grownBy w' v.ownBlock ∧ NearBlk v' v.ownBlock w.heap.size := by
  rcases h.2 with ⟨rfl, rfl⟩ | ⟨g, cp, cu, rfl, r⟩
  · obtain rfl : i = 0 := by omega
    have hx : xs = [] := List.eq_nil_of_length_eq_zero (by have := h.1; omega)
    subst hx
    have := insc_nil B vb vs T w hB hvl hv h1v
    refine this.mono ?_
    rintro e w' ⟨v', rfl, h1, h2⟩
    exact ⟨v', rfl, by simpa using h1, h2⟩
  · exact insc_c g n cp i B vb xs vs T w h hi hn hvl hv (fun e => hvb (by rw [e]; rfl)) h1v h1x
end Go.Proofs.YtgodgfnfaiiohaaGreatDoor

/- Contract of few.Check at whatever few. -/
namespace Go.Proofs.YtgodgfnfaiiohaaGreatDoor
open Go.ChangeShapes Go.WideShapes Go.ChangeAt Go.RowKit
set_option maxRecDepth 20000
/-- A few that may be, of whatever K. -/
structure FewOkZ (K lost : Int) (L : List (Int × Int)) : Prop where
  k1 : 1 ≤ K
  k2 : K ≤ 16
  l0 : 0 ≤ lost
  l1 : lost ≤ 1000000000000
  ln : (L.length : Int) ≤ K
  ris : KRise L
  nb : ∀ p ∈ L, 1 ≤ p.2 ∧ p.2 ≤ 1000000000000
theorem FewOkZ.ok {K : Nat} {s : Int × List (Int × Int)} (h : FewOkZ K s.1 s.2) : FewOk K s :=
  ⟨by have := h.k1; omega, by have := h.k2; omega, h.l0, h.l1, by have := h.ln; omega, h.ris, fun p hp => (h.nb p hp).1, fun p hp => (h.nb p hp).2⟩
theorem FewOk.okZ {K : Nat} {s : Int × List (Int × Int)} (h : FewOk K s) : FewOkZ K s.1 s.2 :=
  ⟨by have := h.k1; omega, by have := h.k2; omega, h.l0, h.l1, by have := h.ln; omega, h.ris, fun p hp => ⟨h.pos p hp, h.big p hp⟩⟩
theorem krise_step (L : List (Int × Int)) (k : Nat) (hk : k < L.length) (h : KRise (L.take k)) (h1 : 0 < k → ckey L (k - 1) < ckey L k) : KRise (L.take (k + 1)) := by
  rw [ctake L k hk]
  refine List.pairwise_append.2 ⟨h, List.pairwise_singleton _ _, fun p hp q hq => ?_⟩
  simp at hq
  subst hq
  obtain ⟨i, hi, e⟩ := List.getElem_of_mem hp
  have hi2 : i < k := by rw [List.length_take] at hi; omega
  have hc := ckey_rise (L.take k) h i (k - 1) (by omega) (by rw [List.length_take]; omega)
  have e1 : ckey (L.take k) i = p.1 := by unfold ckey; rw [List.getD_eq_getElem?_getD, List.getElem?_eq_getElem hi, e]; rfl
  have e2 : ckey (L.take k) (k - 1) = ckey L (k - 1) := by
    unfold ckey
    rw [List.getD_eq_getElem?_getD, List.getD_eq_getElem?_getD, List.getElem?_take, if_pos (by omega)]
  have := h1 (by omega)
  show p.1 < ckey L k
  omega
theorem krise_at (L : List (Int × Int)) (h : KRise L) (i j : Nat) (hij : i < j) (hj : j < L.length) : ckey L i < ckey L j := by
  have := List.pairwise_iff_getElem.1 h i j (by omega) hj hij
  have e1 : ckey L i = L[i].1 := by unfold ckey; rw [List.getD_eq_getElem?_getD, List.getElem?_eq_getElem (by omega)]; rfl
  have e2 : ckey L j = L[j].1 := by unfold ckey; rw [List.getD_eq_getElem?_getD, List.getElem?_eq_getElem hj]; rfl
  rw [e1, e2]; exact this
abbrev fewV (K lost : Int) (a : Option Addr) (n c : Nat) : Value := .agg #[.int .i64 K, .int .i64 lost, .slice a n c]
theorem ret_er {w' w : World} {er : Int} {Q : Prop} (hb : Below w.heap.size w w') (h : er = 0 ↔ Q) : ∃ r : Int, Ending.returned (.int .i64 er) = .returned (.int .i64 r) ∧ Below w.heap.size w w' ∧ (r = 0 ↔ Q) := ⟨er, rfl, hb, h⟩
set_option maxHeartbeats 8000000 in
theorem fcheck_g (K lost : Int) (a : Option Addr) (n c : Nat) (L : List (Int × Int)) (w : World) (h : CntAt w a n c L) :
    Calls Tryz.prog 146 #[fewV K lost a n c] w fun e w' => ∃ er : Int, e = .returned (.int .i64 er) ∧ Below w.heap.size w w' ∧ (er = 0 ↔ FewOkZ K lost L) := by
  have hb0 : Below w.heap.size w (w.alloc (.cells #[.int .i64 K, .int .i64 lost, .slice a n c] 36)) := bal (Below.refl _ _) _
  have c0 : (w.alloc (.cells #[.int .i64 K, .int .i64 lost, .slice a n c] 36)).cell? ⟨w.heap.size, 0, none⟩ = some (.int .i64 K) := by go_simp
  have c1 : (w.alloc (.cells #[.int .i64 K, .int .i64 lost, .slice a n c] 36)).cell? ⟨w.heap.size, 1, none⟩ = some (.int .i64 lost) := by go_simp
  have c2 : (w.alloc (.cells #[.int .i64 K, .int .i64 lost, .slice a n c] 36)).cell? ⟨w.heap.size, 2, none⟩ = some (.slice a n c) := by go_simp
  obtain ⟨b, o, hz, hx⟩ := (h.below hb0).split
  have hz' : Hid (n = 0) ∨ a = some ⟨b, o, none⟩ := hz.imp_left hidp
  have HX := hidp hx
  have mm := h.max
  have ee := h.le
  have LN := hidp h.len
  have HB := hidp hb0
  unfold fewV
  clear hx hz h hb0
  go_enter Tryz.func146, Tryz.ntmps146
  go_upto_region 1 with fail
  generalize (w.alloc (.cells #[.int .i64 K, .int .i64 lost, .slice a n c] 36)) = w1 at *
  by_cases g1 : K < 1
  · go_wp2_with fail
    go_ret
    exact ret_er HB.out ⟨fun e => by omega, fun e => by have := e.k1; omega⟩
  by_cases g2 : (16 : Int) < K
  · go_wp2_with fail
    go_ret
    exact ret_er HB.out ⟨fun e => by omega, fun e => by have := e.k2; omega⟩
  by_cases g3 : lost < 0
  · go_wp2_with fail
    go_ret
    exact ret_er HB.out ⟨fun e => by omega, fun e => by have := e.l0; omega⟩
  by_cases g4 : (1000000000000 : Int) < lost
  · go_wp2_with fail
    go_ret
    exact ret_er HB.out ⟨fun e => by omega, fun e => by have := e.l1; omega⟩
  by_cases g5 : K < (n : Int)
  · go_wp2_with fail
    go_ret
    exact ret_er HB.out ⟨fun e => by omega, fun e => by have := e.ln; rw [LN.out] at this; omega⟩
  go_wp2_with fail
  go_loopg [32] n (fun gg i wr => ∃ k : Nat, k ≤ n ∧ n - k ≤ gg ∧ i = .int .i64 k ∧ Below w1.heap.size w1 wr ∧ Hid (KRise (L.take k) ∧ ∀ p ∈ L.take k, 1 ≤ p.2 ∧ p.2 ≤ 1000000000000))
  case atStart => exact ⟨0, by omega, by omega, rfl, Below.refl _ _, hidp ⟨by simp [KRise], by simp⟩⟩
  case round =>
    obtain ⟨k, hk, hgg, rfl, hbl, I⟩ := hrel
    by_cases hlt : k < n
    · obtain rfl : a = some ⟨b, o, none⟩ := hz'.resolve_left (fun e => by have := e.out; omega)
      obtain ⟨hbs, hc1, hc2⟩ := HX.out k hlt
      have q0 := carry_cell ⟨hbs, hc1⟩ hbl
      have q1 := carry_cell ⟨hbs, hc2⟩ hbl
      have d0 := ck hbl c0
      have d2 := ck hbl c2
      have BB := hidp (bstep HB.out hbl)
      have MEM := hidp (cmem L k (by rw [LN.out]; exact hlt))
      clear hc1 hc2
      by_cases h1 : cnum L k < 1
      · clear d0 d2
        go_wp2_with fail
        go_ret
        exact ret_er (bal BB.out _) ⟨fun e => by omega, fun e => by have := (e.nb _ MEM.out).1; have t : 1 ≤ cnum L k := this; omega⟩
      by_cases h2 : (1000000000000 : Int) < cnum L k
      · clear d0 d2
        go_wp2_with fail
        go_ret
        exact ret_er (bal BB.out _) ⟨fun e => by omega, fun e => by have := (e.nb _ MEM.out).2; have t : cnum L k ≤ 1000000000000 := this; omega⟩
      have hbx := bal hbl (.cells #[.int .i64 (ckey L k), .int .i64 (cnum L k)] 169)
      have x0 : (wr.alloc (.cells #[.int .i64 (ckey L k), .int .i64 (cnum L k)] 169)).cell? ⟨wr.heap.size, 0, none⟩ = some (.int .i64 (ckey L k)) := by go_simp
      have x1 : (wr.alloc (.cells #[.int .i64 (ckey L k), .int .i64 (cnum L k)] 169)).cell? ⟨wr.heap.size, 1, none⟩ = some (.int .i64 (cnum L k)) := by go_simp
      have e2 := ck hbx c2
      go_upto_region 10 with fail
      by_cases h0 : 0 < k
      · obtain ⟨hbs', hd1, _⟩ := HX.out (k - 1) (by omega)
        have q2 := carry_cell ⟨hbs', hd1⟩ hbx
        have e1 : ((k : Int) - 1) = ((k - 1 : Nat) : Int) := by omega
        have h0' : (0 : Int) < (k : Int) := by omega
        clear hd1 q0 q1 d0 d2
        generalize (wr.alloc (.cells #[.int .i64 (ckey L k), .int .i64 (cnum L k)] 169)) = wx at *
        generalize wr.heap.size = XB at *
        by_cases h3 : ckey L k ≤ ckey L (k - 1)
        · have h3' : ¬ ckey L (k - 1) < ckey L k := by omega
          go_quiet (fail)
          go_wp2
          go_ret
          exact ret_er (below_drewN (bstep HB.out hbx) _) ⟨fun e => by omega, fun e => by have := krise_at L e.ris (k - 1) k (by omega) (by rw [LN.out]; exact hlt); omega⟩
        · go_quiet (fail)
          go_wp2
          go_roundg (n - (k + 1))
          case measure => omega
          case rel =>
            exact ⟨k + 1, by omega, by omega, by go_num, below_drewN hbx _, hidp ⟨krise_step L k (by rw [LN.out]; exact hlt) I.out.1 (fun _ => by omega), fun p hp => by
              rw [ctake L k (by rw [LN.out]; exact hlt)] at hp
              rcases List.mem_append.1 hp with hp | hp
              · exact I.out.2 p hp
              · simp at hp; rw [hp]; exact ⟨by show 1 ≤ cnum L k; omega, by show cnum L k ≤ _; omega⟩⟩⟩
      · have h0' : ¬ (0 : Int) < (k : Int) := by omega
        generalize (wr.alloc (.cells #[.int .i64 (ckey L k), .int .i64 (cnum L k)] 169)) = wx at *
        generalize wr.heap.size = XB at *
        clear q0 q1 d0 d2
        go_quiet (fail)
        go_wp2
        go_roundg (n - (k + 1))
        case measure => omega
        case rel =>
          exact ⟨k + 1, by omega, by omega, by go_num, below_drewN hbx _, hidp ⟨krise_step L k (by rw [LN.out]; exact hlt) I.out.1 (fun h => absurd h h0), fun p hp => by
            rw [ctake L k (by rw [LN.out]; exact hlt)] at hp
            rcases List.mem_append.1 hp with hp | hp
            · exact I.out.2 p hp
            · simp at hp; rw [hp]; exact ⟨by show 1 ≤ cnum L k; omega, by show cnum L k ≤ _; omega⟩⟩⟩
    · obtain rfl : k = n := by omega
      have TK : L.take k = L := by rw [← LN.out, List.take_length]
      rw [TK] at I
      have hok := hidp (show FewOkZ K lost L from ⟨by omega, by omega, by omega, by omega, by rw [LN.out]; omega, I.out.1, I.out.2⟩)
      clear TK
      go_wp2_with fail
      go_ret
      exact ret_er (bstep HB.out hbl) ⟨fun _ => hok.out, fun _ => rfl⟩
/-- At a few that may be. -/
theorem fcheck_ok (K : Nat) (s : Int × List (Int × Int)) (a : Option Addr) (n c : Nat) (w : World) (h : CntAt w a n c s.2) (hok : FewOk K s) :
    Calls Tryz.prog 146 #[fewV K s.1 a n c] w fun e w' => e = .returned (.int .i64 0) ∧ Below w.heap.size w w' := by
  refine (fcheck_g K s.1 a n c s.2 w h).mono ?_
  rintro e w' ⟨er, rfl, hb, hi⟩
  exact ⟨by rw [hi.2 hok.okZ], hb⟩
end Go.Proofs.YtgodgfnfaiiohaaGreatDoor

/- Contract of few.added. -/
namespace Go.Proofs.YtgodgfnfaiiohaaGreatDoor
open Go.ChangeShapes Go.WideShapes Go.ChangeAt Go.RowKit
set_option maxRecDepth 20000
theorem cntV_set : ∀ (L : List (Int × Int)) (i : Nat) (k y : Int), i < L.length → ckey L i = k → cntV (L.set i (k, y)) = (cntV L).set (i * 2 + 1) (.int .i64 y)
  | [], i, _, _, h, _ => by simp at h
  | p :: l, 0, k, y, _, h => by
    have : p.1 = k := h
    simp [cntV, this]
  | p :: l, i + 1, k, y, hi, h => by
    have ih := cntV_set l i k y (by simpa using hi) h
    rw [show (i + 1) * 2 + 1 = i * 2 + 1 + 1 + 1 by omega]
    simp only [List.set_cons_succ, cntV]
    rw [ih]
theorem cntV_take : ∀ (L : List (Int × Int)) (i : Nat), (cntV L).take (i * 2) = cntV (L.take i)
  | [], i => by simp [cntV]
  | p :: l, 0 => by simp [cntV]
  | p :: l, i + 1 => by
    rw [show (i + 1) * 2 = i * 2 + 1 + 1 by omega]
    simp only [cntV, List.take_succ_cons]
    rw [cntV_take l i]
theorem cntV_drop : ∀ (L : List (Int × Int)) (i : Nat), (cntV L).drop (i * 2) = cntV (L.drop i)
  | [], i => by simp [cntV]
  | p :: l, 0 => by simp [cntV]
  | p :: l, i + 1 => by
    rw [show (i + 1) * 2 = i * 2 + 1 + 1 by omega]
    simp only [cntV, List.drop_succ_cons]
    rw [cntV_drop l i]
theorem khas_key (L : List (Int × Int)) (k : Int) (h : khas L k = true) : kpos L k < L.length ∧ ckey L (kpos L k) = k := by
  unfold khas at h
  simpa using h
set_option maxHeartbeats 8000000 in
theorem added_c (a : Option Addr) (n c : Nat) (L : List (Int × Int)) (k x : Int) (w : World) (h : CntAt w a n c L) (hr : KRise L) (hn : n ≤ 900) (hx : 0 ≤ x ∧ x ≤ 4000000000000) (hN : ∀ p ∈ L, 0 ≤ p.2 ∧ p.2 ≤ 4000000000000000) :
    Calls Tryz.prog 147 #[.slice a n c, .int .i64 k, .int .i64 x] w fun e w' => ∃ v, e = .returned v ∧ w'.ownsRow w.heap.size 169 2 v (kadd L k x).length (cntV (kadd L k x)) ∧ Below w.heap.size w w' := by
  have hl := h.len
  have CL := hidp (clonec_c a n c L w h (by omega))
  have KP := hidp (kpos_le L k)
  have HN := hidp (fun i (hi : i < n) => hN _ (cmem L i (by omega)))
  have HA := hidp (fun (e : khas L k = true) => kadd_has k x L hr e)
  have HO := hidp (fun (e : khas L k = false) => kadd_not k x L hr e)
  have HK := hidp (khas_key L k)
  have HR := hidp hr
  have LN := hidp hl
  clear h hN hr
  go_enter Tryz.func147, Tryz.ntmps147
  go_wp2_with fail
  refine CL.out.mono ?_
  rintro e wa ⟨v, rfl, hv, hba⟩
  obtain ⟨av, cv, rfl, hI⟩ := owns_cnts hv
  have FC := hidp (find_c av n cv L k wa hI HR.out (by omega))
  clear hI CL
  go_wp2_with fail
  refine FC.out.mono ?_
  rintro e wb ⟨rfl, hbb⟩
  replace hv := owns_below hv hbb
  have hbw := bstep hba hbb
  clear hba hbb FC
  cases hk : khas L k with
  | true =>
    have HA2 := hidp (HA.out hk)
    obtain ⟨k1, k2⟩ := HK.out hk
    rw [LN.out] at k1
    have nb : 0 ≤ cnum L (kpos L k) ∧ cnum L (kpos L k) ≤ 4000000000000000 := HN.out _ k1
    have SE := hidp (cntV_set L (kpos L k) k (cnum L (kpos L k) + x) (by rw [LN.out]; exact k1) k2)
    have GV := hidp (cntV_get L (kpos L k) (by rw [LN.out]; exact k1))
    clear HA HO HK KP k2 hk
    generalize kpos L k = kp at *
    rcases hv.2 with ⟨hz, h0⟩ | ⟨g, cp, cur, hve, hg, hh, _⟩
    · omega
    · simp only [Value.slice.injEq] at hve
      obtain ⟨rfl, _, rfl⟩ := hve
      have q1 := hv.cellAt (kp * 2 + 1) (by omega)
      rw [GV.out.2] at q1
      have f1 := hv.frozenAt (kp * 2 + 1)
      have hs := hidp (hv.stored (kp * 2 + 1) (.int .i64 (cnum L kp + x))).1
      have hgb := hidp (hbw.setCell (p := ⟨g, kp * 2 + 1, none⟩) hg (.int .i64 (cnum L kp + x)))
      have hcv : n ≤ cv ∧ cv ≤ 9223372036854775807 := by
        obtain ⟨a', c', e, h1, h2⟩ := owns_form hv
        cases e; exact ⟨h1, h2⟩
      have e2 : 0 + kp * 2 = kp * 2 := Nat.zero_add _
      clear hv hbw hh
      go_wp2_with fail
      go_ret
      refine ⟨_, rfl, ?_, hgb.out⟩
      rw [HA2.out, List.length_set, LN.out, SE.out]
      exact hs.out
  | false =>
    have HO2 := hidp (HO.out hk)
    have kle : kpos L k ≤ n := by have := KP.out; omega
    have IN := hidp (insc_own (.slice av n cv) n (kpos L k) w.heap.size wb.heap.size (cntV L) [.int .i64 k, .int .i64 x] 169 (wb.alloc (.cells #[.int .i64 k, .int .i64 x] 169)) (hv.alloc _) (by have := hbw.size; simp; omega) kle (by omega) rfl (heap_alloc_new wb _) (fun e => by have := (hv.lt _ e).2; omega) (one_two _ _) (cntV_one L))
    have HV := hidp hv.lt
    have hbx := bal hbw (.cells #[.int .i64 k, .int .i64 x] 169)
    have hsz := hbw.size
    clear HA HO HK KP hk hv hbw
    generalize hkp : kpos L k = kp at *
    go_wp2_with fail
    refine IN.out.mono ?_
    rintro e wc ⟨v2, rfl, hv2, hg2, _⟩
    have hbc := hbx.grown hg2 (by simp; omega) (fun g e => (HV.out g e).1)
    have E := hidp (show (kadd L k x).length = n + 1 ∧ cntV (kadd L k x) = List.take (kp * 2) (cntV L) ++ [.int .i64 k, .int .i64 x] ++ List.drop (kp * 2) (cntV L) by
      rw [HO2.out, cntV_take, cntV_drop]
      constructor
      · rw [List.length_append, List.length_cons, List.length_take, List.length_drop, LN.out]; omega
      · rw [cntV_append]; simp [cntV])
    clear hbx IN hg2
    go_wp2_with fail
    go_ret
    refine ⟨_, rfl, ?_, hbc⟩
    rw [E.out.1, E.out.2]
    exact hv2
end Go.Proofs.YtgodgfnfaiiohaaGreatDoor

/- Contract of few.Put. -/
namespace Go.Proofs.YtgodgfnfaiiohaaGreatDoor
open Go.ChangeShapes Go.WideShapes Go.ChangeAt Go.RowKit
set_option maxRecDepth 20000
theorem res3 {W : World} {P : Nat} {u0 u1 u2 : Value} (x0 x1 x2 : Value) (h0 : W.cell? ⟨P, 0, none⟩ = some u0) (h1 : W.cell? ⟨P, 1, none⟩ = some u1) (h2 : W.cell? ⟨P, 2, none⟩ = some u2) :
    (((W.setCell ⟨P, 0, none⟩ x0).setCell ⟨P, 1, none⟩ x1).setCell ⟨P, 2, none⟩ x2).cell? ⟨P, 0, none⟩ = some x0 ∧ (((W.setCell ⟨P, 0, none⟩ x0).setCell ⟨P, 1, none⟩ x1).setCell ⟨P, 2, none⟩ x2).cell? ⟨P, 1, none⟩ = some x1 ∧ (((W.setCell ⟨P, 0, none⟩ x0).setCell ⟨P, 1, none⟩ x1).setCell ⟨P, 2, none⟩ x2).cell? ⟨P, 2, none⟩ = some x2 :=
  ⟨con (con (cset h0) (by omega)) (by omega), con (cset (con h1 (by omega))) (by omega), cset (con (con h2 (by omega)) (by omega))⟩
theorem below_set3 {w W : World} (h : Below w.heap.size w W) (P : Nat) (hP : w.heap.size ≤ P) (x0 x1 x2 : Value) : Below w.heap.size w (((W.setCell ⟨P, 0, none⟩ x0).setCell ⟨P, 1, none⟩ x1).setCell ⟨P, 2, none⟩ x2) :=
  (below_set2 h P hP x0 x1).setCell (p := ⟨P, 2, none⟩) hP _
theorem coff3 {W : World} {b b' i : Nat} {v x0 x1 x2 : Value} (h : W.cell? ⟨b, i, none⟩ = some v) (hne : b ≠ b') : (((W.setCell ⟨b', 0, none⟩ x0).setCell ⟨b', 1, none⟩ x1).setCell ⟨b', 2, none⟩ x2).cell? ⟨b, i, none⟩ = some v := coff (coff (coff h hne) hne) hne
theorem frs3 {W : World} {P : Nat} {q : Addr} {x0 x1 x2 : Value} (h : W.frozen? q = false) : (((W.setCell ⟨P, 0, none⟩ x0).setCell ⟨P, 1, none⟩ x1).setCell ⟨P, 2, none⟩ x2).frozen? q = false := frs (frs (frs h))
theorem own_set3 {W : World} {base : Nat} {e : TypeId} {size : Nat} {v : Value} {n : Nat} {xs : List Value} (h : W.ownsRow base e size v n xs) (P : Nat) (hP : P < base) (x0 x1 x2 : Value) : (((W.setCell ⟨P, 0, none⟩ x0).setCell ⟨P, 1, none⟩ x1).setCell ⟨P, 2, none⟩ x2).ownsRow base e size v n xs :=
  ownsRow_setCell_below (ownsRow_setCell_below (ownsRow_setCell_below h (a := ⟨P, 0, none⟩) hP x0) (a := ⟨P, 1, none⟩) hP x1) (a := ⟨P, 2, none⟩) hP x2
theorem CntAt.setCell {w : World} {a : Option Addr} {n c : Nat} {L : List (Int × Int)} (h : CntAt w a n c L) (p : Addr) (hne : ∀ b o, a = some ⟨b, o, none⟩ → b ≠ p.block) (u : Value) : CntAt (w.setCell p u) a n c L := by
  refine ⟨h.len, h.le, h.max, fun hx => ?_⟩
  obtain ⟨b, off, ha, hb, hc⟩ := h.cells hx
  refine ⟨b, off, ha, by simpa using hb, fun i hi => ?_⟩
  rw [World.cell?_setCell_far _ _ _ _ (fun e => hne b off ha e.symm), World.cell?_setCell_far _ _ _ _ (fun e => hne b off ha e.symm)]
  exact hc i hi
theorem run_cnt_field (x y : Int) (W : World) : (Instr.field 169 (.agg #[.int .i64 x, .int .i64 y]) 1).run Tryz.prog W = .ok (.int .i64 y) W := by
  kernel_rfl
abbrev few0 : Obj := .cells #[.int .i64 0, .int .i64 0, .slice none 0 0] 36
/-- A place for a few that stands new. -/
theorem zz3 {W vb : World} {P : Nat} (hP : W.heap.size = P) (hb : Below (W.alloc few0).drew.heap.size (W.alloc few0).drew vb) :
    vb.cell? ⟨P, 0, none⟩ = some (.int .i64 0) ∧ vb.cell? ⟨P, 1, none⟩ = some (.int .i64 0) ∧ vb.cell? ⟨P, 2, none⟩ = some (.slice none 0 0) ∧ (∀ o, vb.frozen? ⟨P, o, none⟩ = false) ∧ P < vb.heap.size ∧ Below W.heap.size W vb ∧ (∀ Q j u, W.cell? ⟨Q, j, none⟩ = some u → vb.cell? ⟨Q, j, none⟩ = some u) := by
  subst hP
  have hB : Below W.heap.size W vb := bstep (bal (Below.refl _ _) _).drew hb
  have h0 : vb.cell? ⟨W.heap.size, 0, none⟩ = some (.int .i64 0) := ck hb (by go_simp)
  exact ⟨h0, ck hb (by go_simp), ck hb (by go_simp), fun o => (hb.frozen (p := ⟨W.heap.size, o, none⟩) (by simp)).trans (by go_simp), ltc h0, hB, fun Q j u h => ck hB h⟩
/-- What stands while a few is put to: the argument's box P, the result's cell R, the new few's Q. -/
structure FewS (W : World) (P R Q : Nat) (K lost l2 : Int) (va v : Value) : Prop where
  p0 : W.cell? ⟨P, 0, none⟩ = some (.int .i64 K)
  p1 : W.cell? ⟨P, 1, none⟩ = some (.int .i64 lost)
  p2 : W.cell? ⟨P, 2, none⟩ = some va
  r0 : ∃ u, W.cell? ⟨R, 0, none⟩ = some u
  r1 : ∃ u, W.cell? ⟨R, 1, none⟩ = some u
  r2 : ∃ u, W.cell? ⟨R, 2, none⟩ = some u
  fr : ∀ o, W.frozen? ⟨R, o, none⟩ = false
  q0 : W.cell? ⟨Q, 0, none⟩ = some (.int .i64 K)
  q1 : W.cell? ⟨Q, 1, none⟩ = some (.int .i64 l2)
  q2 : W.cell? ⟨Q, 2, none⟩ = some v
  fq : ∀ o, W.frozen? ⟨Q, o, none⟩ = false
theorem FewS.below {W W' : World} {P R Q : Nat} {K lost l2 : Int} {va v : Value} (h : FewS W P R Q K lost l2 va v) (hb : Below W.heap.size W W') : FewS W' P R Q K lost l2 va v :=
  ⟨ck hb h.p0, ck hb h.p1, ck hb h.p2, h.r0.imp (fun _ e => ck hb e), h.r1.imp (fun _ e => ck hb e), h.r2.imp (fun _ e => ck hb e), fun o => by
    obtain ⟨u, e⟩ := h.r0
    exact (hb.frozen (p := ⟨R, o, none⟩) (show R < _ from ltc e)).trans (h.fr o), ck hb h.q0, ck hb h.q1, ck hb h.q2, fun o => (hb.frozen (p := ⟨Q, o, none⟩) (show Q < _ from ltc h.q0)).trans (h.fq o)⟩
theorem FewS.put1 {W : World} {P R Q : Nat} {K lost l2 : Int} {va v : Value} (h : FewS W P R Q K lost l2 va v) (hP : P ≠ Q) (hR : R ≠ Q) (l3 : Int) : FewS (W.setCell ⟨Q, 1, none⟩ (.int .i64 l3)) P R Q K lost l3 va v :=
  ⟨coff h.p0 hP, coff h.p1 hP, coff h.p2 hP, h.r0.imp (fun _ e => coff e hR), h.r1.imp (fun _ e => coff e hR), h.r2.imp (fun _ e => coff e hR), fun o => frs (h.fr o), con h.q0 (by omega), cset h.q1, con h.q2 (by omega), fun o => frs (h.fq o)⟩
theorem FewS.put2 {W : World} {P R Q : Nat} {K lost l2 : Int} {va v : Value} (h : FewS W P R Q K lost l2 va v) (hP : P ≠ Q) (hR : R ≠ Q) (v2 : Value) : FewS (W.setCell ⟨Q, 2, none⟩ v2) P R Q K lost l2 va v2 :=
  ⟨coff h.p0 hP, coff h.p1 hP, coff h.p2 hP, h.r0.imp (fun _ e => coff e hR), h.r1.imp (fun _ e => coff e hR), h.r2.imp (fun _ e => coff e hR), fun o => frs (h.fr o), con h.q0 (by omega), con h.q1 (by omega), cset h.q2, fun o => frs (h.fq o)⟩
end Go.Proofs.YtgodgfnfaiiohaaGreatDoor

/- Contract of few.Put. -/
namespace Go.Proofs.YtgodgfnfaiiohaaGreatDoor
open Go.ChangeShapes Go.WideShapes Go.ChangeAt Go.RowKit
set_option maxRecDepth 20000
theorem few_ne {W V : World} {o : Obj} {e : TypeId} {n s : Nat} {v : Value} {xs : List Value} (hv : V.ownsRow (W.alloc o).drew.heap.size e s v n xs) (h : v.ownBlock = some W.heap.size) : False := by
  have := (hv.lt _ h).1
  have h2 : (W.alloc o).drew.heap.size = W.heap.size + 1 := by simp
  omega
theorem few_own {W V : World} {o : Obj} {e : TypeId} {n s : Nat} {v x0 x1 x2 : Value} {xs : List Value} (hv : V.ownsRow (W.alloc o).drew.heap.size e s v n xs) : (((V.setCell ⟨W.heap.size, 0, none⟩ x0).setCell ⟨W.heap.size, 1, none⟩ x1).setCell ⟨W.heap.size, 2, none⟩ x2).ownsRow W.heap.size e s v n xs := by
  have h2 : (W.alloc o).drew.heap.size = W.heap.size + 1 := by simp
  exact owns_mono (own_set3 hv W.heap.size (by omega) x0 x1 x2) (by omega)
/-- What Put gives back. -/
def FPost (w : World) (K : Nat) (t : Int × List (Int × Int)) (e : Ending) (w' : World) : Prop :=
  ((FewOk K t ∧ ∃ a' n' c', e = .returned (.tuple #[fewV K t.1 a' n' c', .int .i64 0]) ∧ w'.ownsRow w.heap.size 169 2 (.slice a' n' c') n' (cntV t.2)) ∨ (¬ FewOk K t ∧ e = .returned (.tuple #[fewV 0 0 none 0 0, .int .i64 2]))) ∧ Below w.heap.size w w'
set_option maxHeartbeats 8000000 in
theorem fput_c (K : Nat) (s : Int × List (Int × Int)) (a : Option Addr) (n c : Nat) (k x : Int) (w : World) (h : CntAt w a n c s.2) (hok : FewOk K s) (hx : 1 ≤ x ∧ x ≤ 1000000000000) :
    Calls Tryz.prog 115 #[fewV K s.1 a n c, .int .i64 k, .int .i64 x] w (FPost w K (fput K s k x)) := by
  have hl := h.len
  have hln := hok.ln
  have hk2 := hok.k2
  have CK := hidp (fun W (hB : Below w.heap.size w W) => fcheck_ok K s a n c W (h.below hB) hok)
  have AD := hidp (fun W (hB : Below w.heap.size w W) => added_c a n c s.2 k x W (h.below hB) hok.ris (by omega) (by omega) (fun p hp => by have := hok.pos p hp; have := hok.big p hp; omega))
  have hA := hidp (kadd_len k x s.2)
  have hF : fput K s k x = if K < (kadd s.2 k x).length then (s.1 + kmn (kadd s.2 k x), kless (kmn (kadd s.2 k x)) (kadd s.2 k x)) else (s.1, kadd s.2 k x) := rfl
  have AB := hidp (show ∀ p ∈ kadd s.2 k x, 0 ≤ p.2 ∧ p.2 ≤ 4000000000000 from fun p hp => by
    have h1 := kadd_pos k x hx.1 s.2 hok.pos p hp
    have h2 : p.2 ≤ 2000000000000 := kadd_big k x 1000000000000 s.2 hok.big p hp (by omega)
    omega)
  have hs0 := hok.l0
  have hs1 := hok.l1
  have hx1 : ¬ x < 1 := by omega
  have hx2 : ¬ (1000000000000 : Int) < x := by omega
  clear h hok
  generalize hFF : fput K s k x = F at *
  generalize hAA : kadd s.2 k x = A at *
  generalize hLo : s.1 = lost at *
  unfold fewV at *
  have HF := hidp hF
  have HS2 := hidp hFF
  clear hF hFF hAA hLo
  go_enter Tryz.func115, Tryz.ntmps115
  go_wp2_with fail
  have hb1 : Below w.heap.size w ((w.alloc (.cells #[.int .i64 (K : Nat), .int .i64 lost, .slice a n c] 36)).alloc few0) := bal (bal (Below.refl _ _) _) _
  refine (CK.out _ hb1).mono ?_
  rintro e wa ⟨rfl, hba⟩
  have p0 : wa.cell? ⟨w.heap.size, 0, none⟩ = some (.int .i64 (K : Nat)) := ck hba (by go_simp)
  have p1 : wa.cell? ⟨w.heap.size, 1, none⟩ = some (.int .i64 lost) := ck hba (by go_simp)
  have p2 : wa.cell? ⟨w.heap.size, 2, none⟩ = some (.slice a n c) := ck hba (by go_simp)
  have r0 : wa.cell? ⟨w.heap.size + 1, 0, none⟩ = some (.int .i64 0) := ck hba (by go_simp)
  have r1 : wa.cell? ⟨w.heap.size + 1, 1, none⟩ = some (.int .i64 0) := ck hba (by go_simp)
  have r2 : wa.cell? ⟨w.heap.size + 1, 2, none⟩ = some (.slice none 0 0) := ck hba (by go_simp)
  have FR := hidp (show ∀ o, wa.frozen? ⟨w.heap.size + 1, o, none⟩ = false from fun o => (hba.frozen (p := ⟨w.heap.size + 1, o, none⟩) (by simp)).trans (by go_simp))
  have hwa := bstep hb1 hba
  have hsa : w.heap.size + 2 ≤ wa.heap.size := by have := hba.size; simp at this; omega
  clear hb1 hba CK
  have AD2 := hidp (fun W (hB : Below wa.heap.size wa W) => AD.out W (bstep hwa hB))
  clear AD
  have n1 := ltc p0
  have n2 : ¬ w.heap.size = wa.heap.size := by omega
  have n3 : ¬ wa.heap.size = w.heap.size := by omega
  go_wp2_with fail
  go_cut [9] (fun s9 wx => ∃ (Q : Nat) (v : Value), s9 = .pointer (some ⟨Q, 0, none⟩) ∧ wa.heap.size ≤ Q ∧ v.ownBlock ≠ some Q ∧ FewS wx w.heap.size (w.heap.size + 1) Q K lost lost (.slice a n c) v ∧ wx.ownsRow wa.heap.size 169 2 v A.length (cntV A) ∧ Below wa.heap.size wa wx)
  case first =>
    go_region_held3 (fun w' => w'.cell? ⟨w.heap.size, 0, none⟩ = some (.int .i64 (K : Nat)) ∧ w'.cell? ⟨w.heap.size, 1, none⟩ = some (.int .i64 lost) ∧ w'.cell? ⟨w.heap.size, 2, none⟩ = some (.slice a n c)) (first | go_keep | exact ⟨d0, d1, d2⟩) ((go_at_call 147; refine Calls.mono (AD2.out _ ?_) ?_; (first | exact (Below.refl _ _).drew | exact (bal (Below.refl _ _) _).drew); rintro e wb ⟨v, rfl, hv, hbb⟩; have hf := owns_form hv; obtain ⟨av, cv, rfl, hv1, hv2⟩ := hf; (first | (have z := zz3 (P := wa.heap.size) rfl hbb; obtain ⟨z0, z1, z2, zf, zl, hbv, zq⟩ := z; have zf0 := zf 0; have zf1 := zf 1; have zf2 := zf 2; have d0 := zq _ _ _ p0; have d1 := zq _ _ _ p1; have d2 := zq _ _ _ p2; have ne := nec d0; obtain ⟨n21, n22⟩ := ne; have n23 := ltc d0) | (have hbv := bstep (Below.refl wa.heap.size wa).drew hbb; have d0 := ck hbv p0; have d1 := ck hbv p1; have d2 := ck hbv p2; have ne := nec d0; obtain ⟨n21, n22⟩ := ne; have n23 := ltc d0))))
    all_goals go_wp2
    all_goals go_meet
    all_goals first
      | exact ⟨_, _, rfl, Nat.le_refl _, fun e => few_ne hv e, ⟨coff3 d0 n2, coff3 d1 n2, coff3 d2 n2, ⟨_, coff3 (zq _ _ _ r0) (by omega)⟩, ⟨_, coff3 (zq _ _ _ r1) (by omega)⟩, ⟨_, coff3 (zq _ _ _ r2) (by omega)⟩, fun o => frs3 (bp_fr0 hbv r0 (FR.out o)), (res3 _ _ _ z0 z1 z2).1, (res3 _ _ _ z0 z1 z2).2.1, (res3 _ _ _ z0 z1 z2).2.2, fun o => frs3 (zf o)⟩, few_own hv, below_set3 hbv wa.heap.size (Nat.le_refl _) _ _ _⟩
      | exact ⟨_, _, rfl, by have := hbv.size; omega, fun e => by have := (hv.lt _ e).2; omega, ⟨ca d0 _, ca d1 _, ca d2 _, ⟨_, ca (ck hbv r0) _⟩, ⟨_, ca (ck hbv r1) _⟩, ⟨_, ca (ck hbv r2) _⟩, fun o => bp_fr hbv r0 (FR.out o) _, by go_simp, by go_simp, by go_simp, fun o => by go_simp⟩, owns_mono (hv.alloc _) (Nat.le_refl _), bal hbv _⟩
  case rest =>
    obtain ⟨Q, v, rfl, hQ, hvQ, FS, hv, hb⟩ := hcut
    have hwc := bstep hwa hb
    have hsz := hb.size
    replace hv := owns_mono hv (show w.heap.size + 2 ≤ wa.heap.size from hsa)
    obtain ⟨av, cv, rfl, hI⟩ := owns_cnts hv
    clear hb AD2 n1 n2 n3 p0 p1 p2 r0 r1 r2 FR hwa
    have hA2 := hA.out
    have e1 := hI.le
    have e2 := hI.max
    by_cases hK : K < A.length
    · have hK' : (K : Int) < (A.length : Int) := by omega
      have HF2 := hidp (show F = (lost + kmn A, kless (kmn A) A) by rw [HF.out, if_pos hK])
      have KB := kmn_bd 4000000000000 A AB.out (by omega)
      have MN := hidp (minfunc_c av A.length cv A wc hI (by omega) (by omega) AB.out)
      have LS := hidp (fun W (hB : CntAt W av A.length cv A) => fewless_c av A.length cv A (kmn A) W hB (by omega) KB AB.out)
      have q0 := FS.q0
      have q2 := FS.q2
      clear HF
      go_upto_region 8 with fail
      go_wp2_with fail
      refine MN.out.mono ?_
      rintro e wb ⟨y, rfl, hbb⟩
      have FS2 := hidp (FS.below hbb)
      have hIb := hidp (hI.below hbb)
      have hne := hidp (show ∀ b o, av = some ⟨b, o, none⟩ → b ≠ Q from fun b o e e2 => hvQ (by rw [e, ← e2]; rfl))
      have hwb := bstep hwc hbb
      have hQb : Q < wb.heap.size := ltc (ck hbb q0)
      have hQs : w.heap.size + 2 ≤ Q := by omega
      have hvs := hbb.size
      clear FS MN hbb q0 q2 hv hwc hvQ hI
      have q0 := FS2.out.q0
      have q1 := FS2.out.q1
      have q2 := FS2.out.q2
      have f1 := FS2.out.fq 1
      have f2 := FS2.out.fq 2
      have HLK := hidp (rfl : kmn A = kmn A)
      generalize hkm : kmn A = d at *
      generalize hkl : kless d A = A2 at *
      have hfl : ∀ W, (Instr.field 169 (.agg #[.int .i64 y, .int .i64 d]) 1).run Tryz.prog W = .ok (.int .i64 d) W := run_cnt_field y d
      have WR : IntKind.i64.wrap (lost + d) = lost + d := IntWalk.i64_in _ (by omega)
      clear HLK hkm hkl
      go_wp2_with fail
      go_cut [] (fun wx => ∃ v : Value, FewS wx w.heap.size (w.heap.size + 1) Q K lost (lost + d) (.slice a n c) v ∧ wx.ownsRow (w.heap.size + 2) 169 2 v A2.length (cntV A2) ∧ Below w.heap.size w wx)
      case first =>
        go_region_with (go_at_call 150; go_loud (refine Calls.mono (LS.out _ ?_) ?_; (first | exact hIb.out.below (Below.refl _ _).drew | exact (hIb.out.below (Below.refl _ _).drew).setCell ⟨Q, 1, none⟩ hne.out (.int .i64 (lost + d))); rintro e wy ⟨v, rfl, hv, hbb⟩; have hf := owns_form hv; obtain ⟨a3, c3, rfl, hv1, hv2⟩ := hf; (first | (have hbv := bstep (Below.refl wb.heap.size wb).drew hbb; have d1 := ck hbv q1; have d2 := ck hbv q2; have F4 := hidp (FS2.out.below hbv); have g1 := F4.out.fq 1; have g2 := F4.out.fq 2; have hB := hidp (bstep hwb hbv)) | (have F4 := hidp (((FS2.out.below (Below.refl _ _).drew).put1 (by omega) (by omega) (lost + d)).below hbb); have d1 := F4.out.q1; have d2 := F4.out.q2; have g1 := F4.out.fq 1; have g2 := F4.out.fq 2; have hB := hidp (bstep ((Below.drew hwb).setCell (p := ⟨Q, 1, none⟩) (by show w.heap.size ≤ Q; omega) (.int .i64 (lost + d))) hbb)))))
        all_goals go_wp2
        all_goals go_meet
        all_goals first
          | exact ⟨_, (F4.out.put2 (by omega) (by omega) _), owns_mono (ownsRow_setCell_below hv (a := ⟨Q, 2, none⟩) (by show Q < _; simp; omega) _) (by simp; omega), hB.out.setCell (p := ⟨Q, 2, none⟩) (by show w.heap.size ≤ Q; omega) _⟩
          | exact ⟨_, (F4.out.put2 (by omega) (by omega) _).put1 (by omega) (by omega) _, owns_mono (ownsRow_setCell_below (ownsRow_setCell_below hv (a := ⟨Q, 2, none⟩) (by show Q < _; simp; omega) _) (a := ⟨Q, 1, none⟩) (by show Q < _; simp; omega) _) (by simp; omega), (hB.out.setCell (p := ⟨Q, 2, none⟩) (by show w.heap.size ≤ Q; omega) _).setCell (p := ⟨Q, 1, none⟩) (by show w.heap.size ≤ Q; omega) _⟩
          | exact ⟨_, (F4.out.put1 (by omega) (by omega) _).put2 (by omega) (by omega) _, owns_mono (ownsRow_setCell_below (ownsRow_setCell_below hv (a := ⟨Q, 1, none⟩) (by show Q < _; simp; omega) _) (a := ⟨Q, 2, none⟩) (by show Q < _; simp; omega) _) (by simp; omega), (hB.out.setCell (p := ⟨Q, 1, none⟩) (by show w.heap.size ≤ Q; omega) _).setCell (p := ⟨Q, 2, none⟩) (by show w.heap.size ≤ Q; omega) _⟩
      case rest =>
        obtain ⟨v, FS3, hv, hwc⟩ := hcut
        clear FS2 LS hwb hIb hne q0 q1 q2 f1 f2 WR hfl
        have hIc := hv
        obtain ⟨a2, c2, rfl, hI2⟩ := owns_cnts hIc
        have g1 := hI2.le
        have g2 := hI2.max
        have CK3 := hidp (fcheck_g K (lost + d) a2 A2.length c2 A2 wc hI2)
        have x0 := FS3.q0
        have x1 := FS3.q1
        have x2 := FS3.q2
        clear hI2
        unfold fewV at *
        go_wp2_with fail
        refine CK3.out.mono ?_
        rintro e wd ⟨er, rfl, hbd, hiff⟩
        have F3 := FS3.below hbd
        have hvd := owns_below hIc hbd
        have hwd := bstep hwc hbd
        obtain ⟨_, _, _, ⟨u0, t0⟩, ⟨u1, t1⟩, ⟨u2, t2⟩, fr, y0, y1, y2, _⟩ := F3
        have fr0 := fr 0
        have fr1 := fr 1
        have fr2 := fr 2
        have HI := hidp hiff
        clear hiff hbd x0 x1 x2 hIc fr CK3 hv
        by_cases her : er = 0
        · subst her
          have hok := hidp (HI.out.1 rfl)
          have RR := hidp (res3 (.int .i64 (K : Nat)) (.int .i64 (lost + d)) (.slice a2 A2.length c2) t0 t1 t2)
          have BB := hidp (below_set3 hwd (w.heap.size + 1) (by omega) (.int .i64 (K : Nat)) (.int .i64 (lost + d)) (.slice a2 A2.length c2))
          have OO := hidp (owns_mono (own_set3 hvd (w.heap.size + 1) (by omega) (.int .i64 (K : Nat)) (.int .i64 (lost + d)) (.slice a2 A2.length c2)) (show w.heap.size ≤ w.heap.size + 2 by omega))
          clear HI hwd hvd
          go_wp2_with fail
          obtain ⟨s0, s1, s2⟩ := RR.out
          have hB := BB.out
          have hO := OO.out
          clear RR BB OO
          generalize (((wd.setCell ⟨w.heap.size + 1, 0, none⟩ (.int .i64 (K : Nat))).setCell ⟨w.heap.size + 1, 1, none⟩ (.int .i64 (lost + d))).setCell ⟨w.heap.size + 1, 2, none⟩ (.slice a2 A2.length c2)) = w7 at *
          exact bodyPost_ret (v := .tuple #[.agg #[.int .i64 (K : Nat), .int .i64 (lost + d), .slice a2 A2.length c2], .int .i64 0]) (by simp [results, Tryz.results115, go_sem, s0, s1, s2]) rfl ⟨.inl ⟨by rw [HF2.out]; exact (show FewOkZ ((K : Nat) : Int) ((lost + d, A2) : Int × List (Int × Int)).1 ((lost + d, A2) : Int × List (Int × Int)).2 from hok.out).ok, a2, A2.length, c2, by rw [HF2.out], by rw [HF2.out]; exact hO⟩, hB⟩
        · have hne := hidp (show ¬ FewOk K F from fun h => her (HI.out.2 (by have := h.okZ; rw [HF2.out] at this; exact this)))
          have RR := hidp (res3 (.int .i64 0) (.int .i64 0) (.slice none 0 0) t0 t1 t2)
          have BB := hidp (below_set3 hwd (w.heap.size + 1) (by omega) (.int .i64 0) (.int .i64 0) (.slice none 0 0))
          have her2 : (er != 0) = true := by simpa using her
          clear HI hwd hvd
          go_wp2_with fail
          obtain ⟨s0, s1, s2⟩ := RR.out
          have hB := BB.out
          clear RR BB
          generalize (((wd.setCell ⟨w.heap.size + 1, 0, none⟩ (.int .i64 0)).setCell ⟨w.heap.size + 1, 1, none⟩ (.int .i64 0)).setCell ⟨w.heap.size + 1, 2, none⟩ (.slice none 0 0)) = w7 at *
          exact bodyPost_ret (v := .tuple #[.agg #[.int .i64 0, .int .i64 0, .slice none 0 0], .int .i64 2]) (by simp [results, Tryz.results115, go_sem, s0, s1, s2]) rfl ⟨.inr ⟨hne.out, rfl⟩, hB⟩
    · have hK' : ¬ (K : Int) < (A.length : Int) := by omega
      have HF2 := hidp (show F = (lost, A) by rw [HF.out, if_neg hK])
      have q0 := FS.q0
      have q2 := FS.q2
      clear HF
      have hIc := hv
      have hI2 := hI
      have CK3 := hidp (fcheck_g K lost av A.length cv A wc hI2)
      have x0 := FS.q0
      have x1 := FS.q1
      have x2 := FS.q2
      clear hI2 hI
      unfold fewV at *
      go_wp2_with fail
      refine CK3.out.mono ?_
      rintro e wd ⟨er, rfl, hbd, hiff⟩
      have F3 := FS.below hbd
      have hvd := owns_below hIc hbd
      have hwd := bstep hwc hbd
      obtain ⟨_, _, _, ⟨u0, t0⟩, ⟨u1, t1⟩, ⟨u2, t2⟩, fr, y0, y1, y2, _⟩ := F3
      have fr0 := fr 0
      have fr1 := fr 1
      have fr2 := fr 2
      have HI := hidp hiff
      clear hiff hbd x0 x1 x2 hIc fr CK3 hv q0 q2
      by_cases her : er = 0
      · subst her
        have hok := hidp (HI.out.1 rfl)
        have RR := hidp (res3 (.int .i64 (K : Nat)) (.int .i64 (lost)) (.slice av A.length cv) t0 t1 t2)
        have BB := hidp (below_set3 hwd (w.heap.size + 1) (by omega) (.int .i64 (K : Nat)) (.int .i64 (lost)) (.slice av A.length cv))
        have OO := hidp (owns_mono (own_set3 hvd (w.heap.size + 1) (by omega) (.int .i64 (K : Nat)) (.int .i64 (lost)) (.slice av A.length cv)) (show w.heap.size ≤ w.heap.size + 2 by omega))
        clear HI hwd hvd
        go_wp2_with fail
        obtain ⟨s0, s1, s2⟩ := RR.out
        have hB := BB.out
        have hO := OO.out
        clear RR BB OO
        generalize (((wd.setCell ⟨w.heap.size + 1, 0, none⟩ (.int .i64 (K : Nat))).setCell ⟨w.heap.size + 1, 1, none⟩ (.int .i64 (lost))).setCell ⟨w.heap.size + 1, 2, none⟩ (.slice av A.length cv)) = w7 at *
        exact bodyPost_ret (v := .tuple #[.agg #[.int .i64 (K : Nat), .int .i64 (lost), .slice av A.length cv], .int .i64 0]) (by simp [results, Tryz.results115, go_sem, s0, s1, s2]) rfl ⟨.inl ⟨by rw [HF2.out]; exact (show FewOkZ ((K : Nat) : Int) ((lost, A) : Int × List (Int × Int)).1 ((lost, A) : Int × List (Int × Int)).2 from hok.out).ok, av, A.length, cv, by rw [HF2.out], by rw [HF2.out]; exact hO⟩, hB⟩
      · have hne := hidp (show ¬ FewOk K F from fun h => her (HI.out.2 (by have := h.okZ; rw [HF2.out] at this; exact this)))
        have RR := hidp (res3 (.int .i64 0) (.int .i64 0) (.slice none 0 0) t0 t1 t2)
        have BB := hidp (below_set3 hwd (w.heap.size + 1) (by omega) (.int .i64 0) (.int .i64 0) (.slice none 0 0))
        have her2 : (er != 0) = true := by simpa using her
        clear HI hwd hvd
        go_wp2_with fail
        obtain ⟨s0, s1, s2⟩ := RR.out
        have hB := BB.out
        clear RR BB
        generalize (((wd.setCell ⟨w.heap.size + 1, 0, none⟩ (.int .i64 0)).setCell ⟨w.heap.size + 1, 1, none⟩ (.int .i64 0)).setCell ⟨w.heap.size + 1, 2, none⟩ (.slice none 0 0)) = w7 at *
        exact bodyPost_ret (v := .tuple #[.agg #[.int .i64 0, .int .i64 0, .slice none 0 0], .int .i64 2]) (by simp [results, Tryz.results115, go_sem, s0, s1, s2]) rfl ⟨.inr ⟨hne.out, rfl⟩, hB⟩
end Go.Proofs.YtgodgfnfaiiohaaGreatDoor
