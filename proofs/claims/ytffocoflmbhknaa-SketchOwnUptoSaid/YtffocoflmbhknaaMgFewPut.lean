/- Merged: FewCheck, FewAdd, FewPut. -/
import Derived.Test.YtffocoflmbhknaaMgFewLess
import Derived.Test.YtffocoflmbhknaaInsC
/- Contract of few.Check at whatever few. -/
namespace Go.Proofs.Ytffocoflmbhknaa
open Go.ChangeShapes Go.WideShapes Go.ChangeAt Go.RowKit
set_option maxRecDepth 20000
/-- A few that may be, of whatever K. -/
structure FewOkZ (K lost : Int) (L : List (Int × Int)) : Prop where
  k1 : 1 ≤ K
  k2 : K ≤ 16
  l0 : 0 ≤ lost
  l1 : lost ≤ 1000000000000
  ln : (L.length : Int) ≤ K
  ris : KRise L
  nb : ∀ p ∈ L, 1 ≤ p.2 ∧ p.2 ≤ 1000000000000
theorem FewOkZ.ok {K : Nat} {s : Int × List (Int × Int)} (h : FewOkZ K s.1 s.2) : FewOk K s :=
  ⟨by have := h.k1; omega, by have := h.k2; omega, h.l0, h.l1, by have := h.ln; omega, h.ris, fun p hp => (h.nb p hp).1, fun p hp => (h.nb p hp).2⟩
theorem FewOk.okZ {K : Nat} {s : Int × List (Int × Int)} (h : FewOk K s) : FewOkZ K s.1 s.2 :=
  ⟨by have := h.k1; omega, by have := h.k2; omega, h.l0, h.l1, by have := h.ln; omega, h.ris, fun p hp => ⟨h.pos p hp, h.big p hp⟩⟩
theorem krise_step (L : List (Int × Int)) (k : Nat) (hk : k < L.length) (h : KRise (L.take k)) (h1 : 0 < k → ckey L (k - 1) < ckey L k) : KRise (L.take (k + 1)) := by
  rw [ctake L k hk]
  refine List.pairwise_append.2 ⟨h, List.pairwise_singleton _ _, fun p hp q hq => ?_⟩
  simp at hq
  subst hq
  obtain ⟨i, hi, e⟩ := List.getElem_of_mem hp
  have hi2 : i < k := by rw [List.length_take] at hi; omega
  have hc := ckey_rise (L.take k) h i (k - 1) (by omega) (by rw [List.length_take]; omega)
  have e1 : ckey (L.take k) i = p.1 := by unfold ckey; rw [List.getD_eq_getElem?_getD, List.getElem?_eq_getElem hi, e]; rfl
  have e2 : ckey (L.take k) (k - 1) = ckey L (k - 1) := by
    unfold ckey
    rw [List.getD_eq_getElem?_getD, List.getD_eq_getElem?_getD, List.getElem?_take, if_pos (by omega)]
  have := h1 (by omega)
  show p.1 < ckey L k
  omega
theorem krise_at (L : List (Int × Int)) (h : KRise L) (i j : Nat) (hij : i < j) (hj : j < L.length) : ckey L i < ckey L j := by
  have := List.pairwise_iff_getElem.1 h i j (by omega) hj hij
  have e1 : ckey L i = L[i].1 := by unfold ckey; rw [List.getD_eq_getElem?_getD, List.getElem?_eq_getElem (by omega)]; rfl
  have e2 : ckey L j = L[j].1 := by unfold ckey; rw [List.getD_eq_getElem?_getD, List.getElem?_eq_getElem hj]; rfl
  rw [e1, e2]; exact this
abbrev fewV (K lost : Int) (a : Option Addr) (n c : Nat) : Value := .agg #[.int .i64 K, .int .i64 lost, .slice a n c]
theorem ret_er {w' w : World} {er : Int} {Q : Prop} (hb : Below w.heap.size w w') (h : er = 0 ↔ Q) : ∃ r : Int, Ending.returned (.int .i64 er) = .returned (.int .i64 r) ∧ Below w.heap.size w w' ∧ (r = 0 ↔ Q) := ⟨er, rfl, hb, h⟩
set_option maxHeartbeats 8000000 in
theorem fcheck_g (K lost : Int) (a : Option Addr) (n c : Nat) (L : List (Int × Int)) (w : World) (h : CntAt w a n c L) :
    Calls Try.prog 28 #[fewV K lost a n c] w fun e w' => ∃ er : Int, e = .returned (.int .i64 er) ∧ Below w.heap.size w w' ∧ (er = 0 ↔ FewOkZ K lost L) := by
  have hb0 : Below w.heap.size w (w.alloc (.cells #[.int .i64 K, .int .i64 lost, .slice a n c] 30)) := bal (Below.refl _ _) _
  have c0 : (w.alloc (.cells #[.int .i64 K, .int .i64 lost, .slice a n c] 30)).cell? ⟨w.heap.size, 0, none⟩ = some (.int .i64 K) := by go_simp
  have c1 : (w.alloc (.cells #[.int .i64 K, .int .i64 lost, .slice a n c] 30)).cell? ⟨w.heap.size, 1, none⟩ = some (.int .i64 lost) := by go_simp
  have c2 : (w.alloc (.cells #[.int .i64 K, .int .i64 lost, .slice a n c] 30)).cell? ⟨w.heap.size, 2, none⟩ = some (.slice a n c) := by go_simp
  obtain ⟨b, o, hz, hx⟩ := (h.below hb0).split
  have hz' : Hid (n = 0) ∨ a = some ⟨b, o, none⟩ := hz.imp_left hidp
  have HX := hidp hx
  have mm := h.max
  have ee := h.le
  have LN := hidp h.len
  have HB := hidp hb0
  unfold fewV
  clear hx hz h hb0
  go_enter Try.func28, Try.ntmps28
  go_upto_region 1 with fail
  generalize (w.alloc (.cells #[.int .i64 K, .int .i64 lost, .slice a n c] 30)) = w1 at *
  by_cases g1 : K < 1
  · go_wp2_with fail
    go_ret
    exact ret_er HB.out ⟨fun e => by omega, fun e => by have := e.k1; omega⟩
  by_cases g2 : (16 : Int) < K
  · go_wp2_with fail
    go_ret
    exact ret_er HB.out ⟨fun e => by omega, fun e => by have := e.k2; omega⟩
  by_cases g3 : lost < 0
  · go_wp2_with fail
    go_ret
    exact ret_er HB.out ⟨fun e => by omega, fun e => by have := e.l0; omega⟩
  by_cases g4 : (1000000000000 : Int) < lost
  · go_wp2_with fail
    go_ret
    exact ret_er HB.out ⟨fun e => by omega, fun e => by have := e.l1; omega⟩
  by_cases g5 : K < (n : Int)
  · go_wp2_with fail
    go_ret
    exact ret_er HB.out ⟨fun e => by omega, fun e => by have := e.ln; rw [LN.out] at this; omega⟩
  go_wp2_with fail
  go_loopg [32] n (fun gg i wr => ∃ k : Nat, k ≤ n ∧ n - k ≤ gg ∧ i = .int .i64 k ∧ Below w1.heap.size w1 wr ∧ Hid (KRise (L.take k) ∧ ∀ p ∈ L.take k, 1 ≤ p.2 ∧ p.2 ≤ 1000000000000))
  case atStart => exact ⟨0, by omega, by omega, rfl, Below.refl _ _, hidp ⟨by simp [KRise], by simp⟩⟩
  case round =>
    obtain ⟨k, hk, hgg, rfl, hbl, I⟩ := hrel
    by_cases hlt : k < n
    · obtain rfl : a = some ⟨b, o, none⟩ := hz'.resolve_left (fun e => by have := e.out; omega)
      obtain ⟨hbs, hc1, hc2⟩ := HX.out k hlt
      have q0 := carry_cell ⟨hbs, hc1⟩ hbl
      have q1 := carry_cell ⟨hbs, hc2⟩ hbl
      have d0 := ck hbl c0
      have d2 := ck hbl c2
      have BB := hidp (bstep HB.out hbl)
      have MEM := hidp (cmem L k (by rw [LN.out]; exact hlt))
      clear hc1 hc2
      by_cases h1 : cnum L k < 1
      · clear d0 d2
        go_wp2_with fail
        go_ret
        exact ret_er (bal BB.out _) ⟨fun e => by omega, fun e => by have := (e.nb _ MEM.out).1; have t : 1 ≤ cnum L k := this; omega⟩
      by_cases h2 : (1000000000000 : Int) < cnum L k
      · clear d0 d2
        go_wp2_with fail
        go_ret
        exact ret_er (bal BB.out _) ⟨fun e => by omega, fun e => by have := (e.nb _ MEM.out).2; have t : cnum L k ≤ 1000000000000 := this; omega⟩
      have hbx := bal hbl (.cells #[.int .i64 (ckey L k), .int .i64 (cnum L k)] 36)
      have x0 : (wr.alloc (.cells #[.int .i64 (ckey L k), .int .i64 (cnum L k)] 36)).cell? ⟨wr.heap.size, 0, none⟩ = some (.int .i64 (ckey L k)) := by go_simp
      have x1 : (wr.alloc (.cells #[.int .i64 (ckey L k), .int .i64 (cnum L k)] 36)).cell? ⟨wr.heap.size, 1, none⟩ = some (.int .i64 (cnum L k)) := by go_simp
      have e2 := ck hbx c2
      go_upto_region 10 with fail
      by_cases h0 : 0 < k
      · obtain ⟨hbs', hd1, _⟩ := HX.out (k - 1) (by omega)
        have q2 := carry_cell ⟨hbs', hd1⟩ hbx
        have e1 : ((k : Int) - 1) = ((k - 1 : Nat) : Int) := by omega
        have h0' : (0 : Int) < (k : Int) := by omega
        clear hd1 q0 q1 d0 d2
        generalize (wr.alloc (.cells #[.int .i64 (ckey L k), .int .i64 (cnum L k)] 36)) = wx at *
        generalize wr.heap.size = XB at *
        by_cases h3 : ckey L k ≤ ckey L (k - 1)
        · have h3' : ¬ ckey L (k - 1) < ckey L k := by omega
          go_quiet (fail)
          go_wp2
          go_ret
          exact ret_er (below_drewN (bstep HB.out hbx) _) ⟨fun e => by omega, fun e => by have := krise_at L e.ris (k - 1) k (by omega) (by rw [LN.out]; exact hlt); omega⟩
        · go_quiet (fail)
          go_wp2
          go_roundg (n - (k + 1))
          case measure => omega
          case rel =>
            exact ⟨k + 1, by omega, by omega, by go_num, below_drewN hbx _, hidp ⟨krise_step L k (by rw [LN.out]; exact hlt) I.out.1 (fun _ => by omega), fun p hp => by
              rw [ctake L k (by rw [LN.out]; exact hlt)] at hp
              rcases List.mem_append.1 hp with hp | hp
              · exact I.out.2 p hp
              · simp at hp; rw [hp]; exact ⟨by show 1 ≤ cnum L k; omega, by show cnum L k ≤ _; omega⟩⟩⟩
      · have h0' : ¬ (0 : Int) < (k : Int) := by omega
        generalize (wr.alloc (.cells #[.int .i64 (ckey L k), .int .i64 (cnum L k)] 36)) = wx at *
        generalize wr.heap.size = XB at *
        clear q0 q1 d0 d2
        go_quiet (fail)
        go_wp2
        go_roundg (n - (k + 1))
        case measure => omega
        case rel =>
          exact ⟨k + 1, by omega, by omega, by go_num, below_drewN hbx _, hidp ⟨krise_step L k (by rw [LN.out]; exact hlt) I.out.1 (fun h => absurd h h0), fun p hp => by
            rw [ctake L k (by rw [LN.out]; exact hlt)] at hp
            rcases List.mem_append.1 hp with hp | hp
            · exact I.out.2 p hp
            · simp at hp; rw [hp]; exact ⟨by show 1 ≤ cnum L k; omega, by show cnum L k ≤ _; omega⟩⟩⟩
    · obtain rfl : k = n := by omega
      have TK : L.take k = L := by rw [← LN.out, List.take_length]
      rw [TK] at I
      have hok := hidp (show FewOkZ K lost L from ⟨by omega, by omega, by omega, by omega, by rw [LN.out]; omega, I.out.1, I.out.2⟩)
      clear TK
      go_wp2_with fail
      go_ret
      exact ret_er (bstep HB.out hbl) ⟨fun _ => hok.out, fun _ => rfl⟩
/-- At a few that may be. -/
theorem fcheck_ok (K : Nat) (s : Int × List (Int × Int)) (a : Option Addr) (n c : Nat) (w : World) (h : CntAt w a n c s.2) (hok : FewOk K s) :
    Calls Try.prog 28 #[fewV K s.1 a n c] w fun e w' => e = .returned (.int .i64 0) ∧ Below w.heap.size w w' := by
  refine (fcheck_g K s.1 a n c s.2 w h).mono ?_
  rintro e w' ⟨er, rfl, hb, hi⟩
  exact ⟨by rw [hi.2 hok.okZ], hb⟩
end Go.Proofs.Ytffocoflmbhknaa

/- Contract of few.added. -/
namespace Go.Proofs.Ytffocoflmbhknaa
open Go.ChangeShapes Go.WideShapes Go.ChangeAt Go.RowKit
set_option maxRecDepth 20000
theorem cntV_set : ∀ (L : List (Int × Int)) (i : Nat) (k y : Int), i < L.length → ckey L i = k → cntV (L.set i (k, y)) = (cntV L).set (i * 2 + 1) (.int .i64 y)
  | [], i, _, _, h, _ => by simp at h
  | p :: l, 0, k, y, _, h => by
    have : p.1 = k := h
    simp [cntV, this]
  | p :: l, i + 1, k, y, hi, h => by
    have ih := cntV_set l i k y (by simpa using hi) h
    rw [show (i + 1) * 2 + 1 = i * 2 + 1 + 1 + 1 by omega]
    simp only [List.set_cons_succ, cntV]
    rw [ih]
theorem cntV_take : ∀ (L : List (Int × Int)) (i : Nat), (cntV L).take (i * 2) = cntV (L.take i)
  | [], i => by simp [cntV]
  | p :: l, 0 => by simp [cntV]
  | p :: l, i + 1 => by
    rw [show (i + 1) * 2 = i * 2 + 1 + 1 by omega]
    simp only [cntV, List.take_succ_cons]
    rw [cntV_take l i]
theorem cntV_drop : ∀ (L : List (Int × Int)) (i : Nat), (cntV L).drop (i * 2) = cntV (L.drop i)
  | [], i => by simp [cntV]
  | p :: l, 0 => by simp [cntV]
  | p :: l, i + 1 => by
    rw [show (i + 1) * 2 = i * 2 + 1 + 1 by omega]
    simp only [cntV, List.drop_succ_cons]
    rw [cntV_drop l i]
theorem khas_key (L : List (Int × Int)) (k : Int) (h : khas L k = true) : kpos L k < L.length ∧ ckey L (kpos L k) = k := by
  unfold khas at h
  simpa using h
set_option maxHeartbeats 8000000 in
theorem added_c (a : Option Addr) (n c : Nat) (L : List (Int × Int)) (k x : Int) (w : World) (h : CntAt w a n c L) (hr : KRise L) (hn : n ≤ 900) (hx : 0 ≤ x ∧ x ≤ 4000000000000) (hN : ∀ p ∈ L, 0 ≤ p.2 ∧ p.2 ≤ 4000000000000000) :
    Calls Try.prog 29 #[.slice a n c, .int .i64 k, .int .i64 x] w fun e w' => ∃ v, e = .returned v ∧ w'.ownsRow w.heap.size 36 2 v (kadd L k x).length (cntV (kadd L k x)) ∧ Below w.heap.size w w' := by
  have hl := h.len
  have CL := hidp (clonec_c a n c L w h (by omega))
  have KP := hidp (kpos_le L k)
  have HN := hidp (fun i (hi : i < n) => hN _ (cmem L i (by omega)))
  have HA := hidp (fun (e : khas L k = true) => kadd_has k x L hr e)
  have HO := hidp (fun (e : khas L k = false) => kadd_not k x L hr e)
  have HK := hidp (khas_key L k)
  have HR := hidp hr
  have LN := hidp hl
  clear h hN hr
  go_enter Try.func29, Try.ntmps29
  go_wp2_with fail
  refine CL.out.mono ?_
  rintro e wa ⟨v, rfl, hv, hba⟩
  obtain ⟨av, cv, rfl, hI⟩ := owns_cnts hv
  have FC := hidp (find_c av n cv L k wa hI HR.out (by omega))
  clear hI CL
  go_wp2_with fail
  refine FC.out.mono ?_
  rintro e wb ⟨rfl, hbb⟩
  replace hv := owns_below hv hbb
  have hbw := bstep hba hbb
  clear hba hbb FC
  cases hk : khas L k with
  | true =>
    have HA2 := hidp (HA.out hk)
    obtain ⟨k1, k2⟩ := HK.out hk
    rw [LN.out] at k1
    have nb : 0 ≤ cnum L (kpos L k) ∧ cnum L (kpos L k) ≤ 4000000000000000 := HN.out _ k1
    have SE := hidp (cntV_set L (kpos L k) k (cnum L (kpos L k) + x) (by rw [LN.out]; exact k1) k2)
    have GV := hidp (cntV_get L (kpos L k) (by rw [LN.out]; exact k1))
    clear HA HO HK KP k2 hk
    generalize kpos L k = kp at *
    rcases hv.2 with ⟨hz, h0⟩ | ⟨g, cp, cur, hve, hg, hh, _⟩
    · omega
    · simp only [Value.slice.injEq] at hve
      obtain ⟨rfl, _, rfl⟩ := hve
      have q1 := hv.cellAt (kp * 2 + 1) (by omega)
      rw [GV.out.2] at q1
      have f1 := hv.frozenAt (kp * 2 + 1)
      have hs := hidp (hv.stored (kp * 2 + 1) (.int .i64 (cnum L kp + x))).1
      have hgb := hidp (hbw.setCell (p := ⟨g, kp * 2 + 1, none⟩) hg (.int .i64 (cnum L kp + x)))
      have hcv : n ≤ cv ∧ cv ≤ 9223372036854775807 := by
        obtain ⟨a', c', e, h1, h2⟩ := owns_form hv
        cases e; exact ⟨h1, h2⟩
      have e2 : 0 + kp * 2 = kp * 2 := Nat.zero_add _
      clear hv hbw hh
      go_wp2_with fail
      go_ret
      refine ⟨_, rfl, ?_, hgb.out⟩
      rw [HA2.out, List.length_set, LN.out, SE.out]
      exact hs.out
  | false =>
    have HO2 := hidp (HO.out hk)
    have kle : kpos L k ≤ n := by have := KP.out; omega
    have IN := hidp (insc_own (.slice av n cv) n (kpos L k) w.heap.size wb.heap.size (cntV L) [.int .i64 k, .int .i64 x] 36 (wb.alloc (.cells #[.int .i64 k, .int .i64 x] 36)) (hv.alloc _) (by have := hbw.size; simp; omega) kle (by omega) rfl (heap_alloc_new wb _) (fun e => by have := (hv.lt _ e).2; omega) (one_two _ _) (cntV_one L))
    have HV := hidp hv.lt
    have hbx := bal hbw (.cells #[.int .i64 k, .int .i64 x] 36)
    have hsz := hbw.size
    clear HA HO HK KP hk hv hbw
    generalize hkp : kpos L k = kp at *
    go_wp2_with fail
    refine IN.out.mono ?_
    rintro e wc ⟨v2, rfl, hv2, hg2, _⟩
    have hbc := hbx.grown hg2 (by simp; omega) (fun g e => (HV.out g e).1)
    have E := hidp (show (kadd L k x).length = n + 1 ∧ cntV (kadd L k x) = List.take (kp * 2) (cntV L) ++ [.int .i64 k, .int .i64 x] ++ List.drop (kp * 2) (cntV L) by
      rw [HO2.out, cntV_take, cntV_drop]
      constructor
      · rw [List.length_append, List.length_cons, List.length_take, List.length_drop, LN.out]; omega
      · rw [cntV_append]; simp [cntV])
    clear hbx IN hg2
    go_wp2_with fail
    go_ret
    refine ⟨_, rfl, ?_, hbc⟩
    rw [E.out.1, E.out.2]
    exact hv2
end Go.Proofs.Ytffocoflmbhknaa

/- Contract of few.Put. -/
namespace Go.Proofs.Ytffocoflmbhknaa
open Go.ChangeShapes Go.WideShapes Go.ChangeAt Go.RowKit
set_option maxRecDepth 20000
theorem res3 {W : World} {P : Nat} {u0 u1 u2 : Value} (x0 x1 x2 : Value) (h0 : W.cell? ⟨P, 0, none⟩ = some u0) (h1 : W.cell? ⟨P, 1, none⟩ = some u1) (h2 : W.cell? ⟨P, 2, none⟩ = some u2) :
    (((W.setCell ⟨P, 0, none⟩ x0).setCell ⟨P, 1, none⟩ x1).setCell ⟨P, 2, none⟩ x2).cell? ⟨P, 0, none⟩ = some x0 ∧ (((W.setCell ⟨P, 0, none⟩ x0).setCell ⟨P, 1, none⟩ x1).setCell ⟨P, 2, none⟩ x2).cell? ⟨P, 1, none⟩ = some x1 ∧ (((W.setCell ⟨P, 0, none⟩ x0).setCell ⟨P, 1, none⟩ x1).setCell ⟨P, 2, none⟩ x2).cell? ⟨P, 2, none⟩ = some x2 :=
  ⟨con (con (cset h0) (by omega)) (by omega), con (cset (con h1 (by omega))) (by omega), cset (con (con h2 (by omega)) (by omega))⟩
theorem below_set3 {w W : World} (h : Below w.heap.size w W) (P : Nat) (hP : w.heap.size ≤ P) (x0 x1 x2 : Value) : Below w.heap.size w (((W.setCell ⟨P, 0, none⟩ x0).setCell ⟨P, 1, none⟩ x1).setCell ⟨P, 2, none⟩ x2) :=
  (below_set2 h P hP x0 x1).setCell (p := ⟨P, 2, none⟩) hP _
theorem coff3 {W : World} {b b' i : Nat} {v x0 x1 x2 : Value} (h : W.cell? ⟨b, i, none⟩ = some v) (hne : b ≠ b') : (((W.setCell ⟨b', 0, none⟩ x0).setCell ⟨b', 1, none⟩ x1).setCell ⟨b', 2, none⟩ x2).cell? ⟨b, i, none⟩ = some v := coff (coff (coff h hne) hne) hne
theorem frs3 {W : World} {P : Nat} {q : Addr} {x0 x1 x2 : Value} (h : W.frozen? q = false) : (((W.setCell ⟨P, 0, none⟩ x0).setCell ⟨P, 1, none⟩ x1).setCell ⟨P, 2, none⟩ x2).frozen? q = false := frs (frs (frs h))
theorem own_set3 {W : World} {base : Nat} {e : TypeId} {size : Nat} {v : Value} {n : Nat} {xs : List Value} (h : W.ownsRow base e size v n xs) (P : Nat) (hP : P < base) (x0 x1 x2 : Value) : (((W.setCell ⟨P, 0, none⟩ x0).setCell ⟨P, 1, none⟩ x1).setCell ⟨P, 2, none⟩ x2).ownsRow base e size v n xs :=
  ownsRow_setCell_below (ownsRow_setCell_below (ownsRow_setCell_below h (a := ⟨P, 0, none⟩) hP x0) (a := ⟨P, 1, none⟩) hP x1) (a := ⟨P, 2, none⟩) hP x2
theorem CntAt.setCell {w : World} {a : Option Addr} {n c : Nat} {L : List (Int × Int)} (h : CntAt w a n c L) (p : Addr) (hne : ∀ b o, a = some ⟨b, o, none⟩ → b ≠ p.block) (u : Value) : CntAt (w.setCell p u) a n c L := by
  refine ⟨h.len, h.le, h.max, fun hx => ?_⟩
  obtain ⟨b, off, ha, hb, hc⟩ := h.cells hx
  refine ⟨b, off, ha, by simpa using hb, fun i hi => ?_⟩
  rw [World.cell?_setCell_far _ _ _ _ (fun e => hne b off ha e.symm), World.cell?_setCell_far _ _ _ _ (fun e => hne b off ha e.symm)]
  exact hc i hi
theorem run_cnt_field (x y : Int) (W : World) : (Instr.field 36 (.agg #[.int .i64 x, .int .i64 y]) 1).run Try.prog W = .ok (.int .i64 y) W := by
  kernel_rfl
abbrev few0 : Obj := .cells #[.int .i64 0, .int .i64 0, .slice none 0 0] 30
/-- A place for a few that stands new. -/
theorem zz3 {W vb : World} {P : Nat} (hP : W.heap.size = P) (hb : Below (W.alloc few0).drew.heap.size (W.alloc few0).drew vb) :
    vb.cell? ⟨P, 0, none⟩ = some (.int .i64 0) ∧ vb.cell? ⟨P, 1, none⟩ = some (.int .i64 0) ∧ vb.cell? ⟨P, 2, none⟩ = some (.slice none 0 0) ∧ (∀ o, vb.frozen? ⟨P, o, none⟩ = false) ∧ P < vb.heap.size ∧ Below W.heap.size W vb ∧ (∀ Q j u, W.cell? ⟨Q, j, none⟩ = some u → vb.cell? ⟨Q, j, none⟩ = some u) := by
  subst hP
  have hB : Below W.heap.size W vb := bstep (bal (Below.refl _ _) _).drew hb
  have h0 : vb.cell? ⟨W.heap.size, 0, none⟩ = some (.int .i64 0) := ck hb (by go_simp)
  exact ⟨h0, ck hb (by go_simp), ck hb (by go_simp), fun o => (hb.frozen (p := ⟨W.heap.size, o, none⟩) (by simp)).trans (by go_simp), ltc h0, hB, fun Q j u h => ck hB h⟩
/-- What stands while a few is put to: the argument's box P, the result's cell R, the new few's Q. -/
structure FewS (W : World) (P R Q : Nat) (K lost l2 : Int) (va v : Value) : Prop where
  p0 : W.cell? ⟨P, 0, none⟩ = some (.int .i64 K)
  p1 : W.cell? ⟨P, 1, none⟩ = some (.int .i64 lost)
  p2 : W.cell? ⟨P, 2, none⟩ = some va
  r0 : ∃ u, W.cell? ⟨R, 0, none⟩ = some u
  r1 : ∃ u, W.cell? ⟨R, 1, none⟩ = some u
  r2 : ∃ u, W.cell? ⟨R, 2, none⟩ = some u
  fr : ∀ o, W.frozen? ⟨R, o, none⟩ = false
  q0 : W.cell? ⟨Q, 0, none⟩ = some (.int .i64 K)
  q1 : W.cell? ⟨Q, 1, none⟩ = some (.int .i64 l2)
  q2 : W.cell? ⟨Q, 2, none⟩ = some v
  fq : ∀ o, W.frozen? ⟨Q, o, none⟩ = false
theorem FewS.below {W W' : World} {P R Q : Nat} {K lost l2 : Int} {va v : Value} (h : FewS W P R Q K lost l2 va v) (hb : Below W.heap.size W W') : FewS W' P R Q K lost l2 va v :=
  ⟨ck hb h.p0, ck hb h.p1, ck hb h.p2, h.r0.imp (fun _ e => ck hb e), h.r1.imp (fun _ e => ck hb e), h.r2.imp (fun _ e => ck hb e), fun o => by
    obtain ⟨u, e⟩ := h.r0
    exact (hb.frozen (p := ⟨R, o, none⟩) (show R < _ from ltc e)).trans (h.fr o), ck hb h.q0, ck hb h.q1, ck hb h.q2, fun o => (hb.frozen (p := ⟨Q, o, none⟩) (show Q < _ from ltc h.q0)).trans (h.fq o)⟩
theorem FewS.put1 {W : World} {P R Q : Nat} {K lost l2 : Int} {va v : Value} (h : FewS W P R Q K lost l2 va v) (hP : P ≠ Q) (hR : R ≠ Q) (l3 : Int) : FewS (W.setCell ⟨Q, 1, none⟩ (.int .i64 l3)) P R Q K lost l3 va v :=
  ⟨coff h.p0 hP, coff h.p1 hP, coff h.p2 hP, h.r0.imp (fun _ e => coff e hR), h.r1.imp (fun _ e => coff e hR), h.r2.imp (fun _ e => coff e hR), fun o => frs (h.fr o), con h.q0 (by omega), cset h.q1, con h.q2 (by omega), fun o => frs (h.fq o)⟩
theorem FewS.put2 {W : World} {P R Q : Nat} {K lost l2 : Int} {va v : Value} (h : FewS W P R Q K lost l2 va v) (hP : P ≠ Q) (hR : R ≠ Q) (v2 : Value) : FewS (W.setCell ⟨Q, 2, none⟩ v2) P R Q K lost l2 va v2 :=
  ⟨coff h.p0 hP, coff h.p1 hP, coff h.p2 hP, h.r0.imp (fun _ e => coff e hR), h.r1.imp (fun _ e => coff e hR), h.r2.imp (fun _ e => coff e hR), fun o => frs (h.fr o), con h.q0 (by omega), con h.q1 (by omega), cset h.q2, fun o => frs (h.fq o)⟩
end Go.Proofs.Ytffocoflmbhknaa
