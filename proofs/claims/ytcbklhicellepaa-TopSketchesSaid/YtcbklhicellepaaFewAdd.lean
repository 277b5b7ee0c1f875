/- Contract of few.added. -/
import Derived.Test.YtcbklhicellepaaFewCheck
import Derived.Test.YtcbklhicellepaaInsC
namespace Go.Proofs.Ytcbklhicellepaa
open Go.ChangeShapes Go.WideShapes Go.ChangeAt Go.RowKit
set_option maxRecDepth 20000
theorem cntV_set : ∀ (L : List (Int × Int)) (i : Nat) (k y : Int), i < L.length → ckey L i = k → cntV (L.set i (k, y)) = (cntV L).set (i * 2 + 1) (.int .i64 y)
  | [], i, _, _, h, _ => by simp at h
  | p :: l, 0, k, y, _, h => by
    have : p.1 = k := h
    simp [cntV, this]
  | p :: l, i + 1, k, y, hi, h => by
    have ih := cntV_set l i k y (by simpa using hi) h
    rw [show (i + 1) * 2 + 1 = i * 2 + 1 + 1 + 1 by omega]
    simp only [List.set_cons_succ, cntV]
    rw [ih]
theorem cntV_take : ∀ (L : List (Int × Int)) (i : Nat), (cntV L).take (i * 2) = cntV (L.take i)
  | [], i => by simp [cntV]
  | p :: l, 0 => by simp [cntV]
  | p :: l, i + 1 => by
    rw [show (i + 1) * 2 = i * 2 + 1 + 1 by omega]
    simp only [cntV, List.take_succ_cons]
    rw [cntV_take l i]
theorem cntV_drop : ∀ (L : List (Int × Int)) (i : Nat), (cntV L).drop (i * 2) = cntV (L.drop i)
  | [], i => by simp [cntV]
  | p :: l, 0 => by simp [cntV]
  | p :: l, i + 1 => by
    rw [show (i + 1) * 2 = i * 2 + 1 + 1 by omega]
    simp only [cntV, List.drop_succ_cons]
    rw [cntV_drop l i]
theorem khas_key (L : List (Int × Int)) (k : Int) (h : khas L k = true) : kpos L k < L.length ∧ ckey L (kpos L k) = k := by
  unfold khas at h
  simpa using h
set_option maxHeartbeats 8000000 in
theorem added_c (a : Option Addr) (n c : Nat) (L : List (Int × Int)) (k x : Int) (w : World) (h : CntAt w a n c L) (hr : KRise L) (hn : n ≤ 900) (hx : 0 ≤ x ∧ x ≤ 4000000000000) (hN : ∀ p ∈ L, 0 ≤ p.2 ∧ p.2 ≤ 4000000000000000) :
    Calls Try.prog 45 #[.slice a n c, .int .i64 k, .int .i64 x] w fun e w' => ∃ v, e = .returned v ∧ w'.ownsRow w.heap.size 95 2 v (kadd L k x).length (cntV (kadd L k x)) ∧ Below w.heap.size w w' := by
  have hl := h.len
  have CL := hidp (clonec_c a n c L w h (by omega))
  have KP := hidp (kpos_le L k)
  have HN := hidp (fun i (hi : i < n) => hN _ (cmem L i (by omega)))
  have HA := hidp (fun (e : khas L k = true) => kadd_has k x L hr e)
  have HO := hidp (fun (e : khas L k = false) => kadd_not k x L hr e)
  have HK := hidp (khas_key L k)
  have HR := hidp hr
  have LN := hidp hl
  clear h hN hr
  go_enter Try.func45, Try.ntmps45
  go_wp2_with fail
  refine CL.out.mono ?_
  rintro e wa ⟨v, rfl, hv, hba⟩
  obtain ⟨av, cv, rfl, hI⟩ := owns_cnts hv
  have FC := hidp (find_c av n cv L k wa hI HR.out (by omega))
  clear hI CL
  go_wp2_with fail
  refine FC.out.mono ?_
  rintro e wb ⟨rfl, hbb⟩
  replace hv := owns_below hv hbb
  have hbw := bstep hba hbb
  clear hba hbb FC
  cases hk : khas L k with
  | true =>
    have HA2 := hidp (HA.out hk)
    obtain ⟨k1, k2⟩ := HK.out hk
    rw [LN.out] at k1
    have nb : 0 ≤ cnum L (kpos L k) ∧ cnum L (kpos L k) ≤ 4000000000000000 := HN.out _ k1
    have SE := hidp (cntV_set L (kpos L k) k (cnum L (kpos L k) + x) (by rw [LN.out]; exact k1) k2)
    have GV := hidp (cntV_get L (kpos L k) (by rw [LN.out]; exact k1))
    clear HA HO HK KP k2 hk
    generalize kpos L k = kp at *
    rcases hv.2 with ⟨hz, h0⟩ | ⟨g, cp, cur, hve, hg, hh, _⟩
    · omega
    · simp only [Value.slice.injEq] at hve
      obtain ⟨rfl, _, rfl⟩ := hve
      have q1 := hv.cellAt (kp * 2 + 1) (by omega)
      rw [GV.out.2] at q1
      have f1 := hv.frozenAt (kp * 2 + 1)
      have hs := hidp (hv.stored (kp * 2 + 1) (.int .i64 (cnum L kp + x))).1
      have hgb := hidp (hbw.setCell (p := ⟨g, kp * 2 + 1, none⟩) hg (.int .i64 (cnum L kp + x)))
      have hcv : n ≤ cv ∧ cv ≤ 9223372036854775807 := by
        obtain ⟨a', c', e, h1, h2⟩ := owns_form hv
        cases e; exact ⟨h1, h2⟩
      have e2 : 0 + kp * 2 = kp * 2 := Nat.zero_add _
      clear hv hbw hh
      go_wp2_with fail
      go_ret
      refine ⟨_, rfl, ?_, hgb.out⟩
      rw [HA2.out, List.length_set, LN.out, SE.out]
      exact hs.out
  | false =>
    have HO2 := hidp (HO.out hk)
    have kle : kpos L k ≤ n := by have := KP.out; omega
    have IN := hidp (insc_own (.slice av n cv) n (kpos L k) w.heap.size wb.heap.size (cntV L) [.int .i64 k, .int .i64 x] 95 (wb.alloc (.cells #[.int .i64 k, .int .i64 x] 95)) (hv.alloc _) (by have := hbw.size; simp; omega) kle (by omega) rfl (heap_alloc_new wb _) (fun e => by have := (hv.lt _ e).2; omega) (one_two _ _) (cntV_one L))
    have HV := hidp hv.lt
    have hbx := bal hbw (.cells #[.int .i64 k, .int .i64 x] 95)
    have hsz := hbw.size
    clear HA HO HK KP hk hv hbw
    generalize hkp : kpos L k = kp at *
    go_wp2_with fail
    refine IN.out.mono ?_
    rintro e wc ⟨v2, rfl, hv2, hg2, _⟩
    have hbc := hbx.grown hg2 (by simp; omega) (fun g e => (HV.out g e).1)
    have E := hidp (show (kadd L k x).length = n + 1 ∧ cntV (kadd L k x) = List.take (kp * 2) (cntV L) ++ [.int .i64 k, .int .i64 x] ++ List.drop (kp * 2) (cntV L) by
      rw [HO2.out, cntV_take, cntV_drop]
      constructor
      · rw [List.length_append, List.length_cons, List.length_take, List.length_drop, LN.out]; omega
      · rw [cntV_append]; simp [cntV])
    clear hbx IN hg2
    go_wp2_with fail
    go_ret
    refine ⟨_, rfl, ?_, hbc⟩
    rw [E.out.1, E.out.2]
    exact hv2
end Go.Proofs.Ytcbklhicellepaa
