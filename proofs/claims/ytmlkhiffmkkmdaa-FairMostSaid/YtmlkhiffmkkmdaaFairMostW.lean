/- The walk of FairMost: the law returns true at all inputs, and no old memory changes. -/
import Derived.Test.YtmlkhiffmkkmdaaFair
import Derived.Test.YtmlkhiffmkkmdaaEqI
namespace Go.Proofs.Ytmlkhiffmkkmdaa.fairMost
open Go.ChangeShapes Go.WideShapes Go.ChangeAt Go.RowKit
open Go.Proofs.Ytmlkhiffmkkmdaa
set_option maxRecDepth 20000
theorem ex : tab (FairM.fairF [9, 1] 2 3) 2 = [2, 1] := by decide +kernel
/-- What is wanted. -/
def sF (xs : List Int) (i : Nat) : Int := wi (gi xs i) 10000
theorem sF_bd (xs : List Int) (i : Nat) : 0 ≤ sF xs i ∧ sF xs i < 10000 := ⟨wi_lo _ _ (by omega), wi_hi _ _ (by omega)⟩
set_option linter.unusedVariables false
set_option maxHeartbeats 8000000 in
theorem walk (a0 a1 : Int) (a2 : Option Addr) (len2 cap2 : Nat) (z2 : List Int) (w : World)
    (w0 : (Lit.int .i64 a0).wf = true) (w1 : (Lit.int .i64 a1).wf = true) (w2 : IntsAt w a2 len2 cap2 z2) :
    Calls Try.prog 6 #[.int .i64 a0, .int .i64 a1, .slice a2 len2 cap2] w fun e w' => e = .returned (.bool true) ∧ Below w.heap.size w w' := by
  have mm := w2.max
  have ee := w2.le
  obtain ⟨b, o, hz, hx⟩ := w2.split
  have hz' : Hid (len2 = 0) ∨ a2 = some ⟨b, o, none⟩ := hz.imp_left hidp
  have HX := hidp hx
  obtain ⟨N, hN⟩ : ∃ N : Nat, N = min len2 40 := ⟨_, rfl⟩
  have hN1 : N ≤ 40 := by omega
  have hN2 : N ≤ len2 := by omega
  have hmin : min (len2 : Int) 40 = (N : Int) := by omega
  have K0 := hidp (fun W => within_c a0 100000 (by omega) (by omega) W)
  have K1 := hidp (fun W => within_c a1 1000 (by omega) (by omega) W)
  have r1 := wi_lo a0 100000 (by omega)
  have r2 := wi_hi a0 100000 (by omega)
  have d1 := wi_lo a1 1000 (by omega)
  have d2 := wi_hi a1 1000 (by omega)
  generalize wi a0 100000 = r at *
  generalize wi a1 1000 = d at *
  have KX := hidp (fun x W => within_c x 10000 (by omega) (by omega) W)
  have SB := hidp (sF_bd z2)
  have i0 : IntsAt (w.alloc (.cells #[.int .i64 9, .int .i64 1] 3)) (some ⟨w.heap.size, 0, none⟩) 2 2 [9, 1] := ints_lit [9, 1] rfl rfl rfl (by simp) (by omega)
  have F0 := fair_c 3 _ 2 2 [9, 1] _ i0 (wantE_ok _ _ (by omega) (by decide)) (by omega) (by omega)
  rw [ex] at F0
  have F0' := hidp F0
  clear w0 w1 w2 i0 F0 hz hx hN
  go_enter Try.func6, Try.ntmps6
  go_wp2_with fail
  refine F0'.out.mono ?_
  rintro e wa ⟨v, rfl, hv, hba⟩
  obtain ⟨ax, cx, rfl, hX⟩ := owns_ints hv (by simp)
  have hwa := bstep (bal (Below.refl w.heap.size w) (.cells #[.int .i64 9, .int .i64 1] 3)) hba
  have hbl := bal (Below.refl wa.heap.size wa) (.cells #[.int .i64 2, .int .i64 1] 3)
  have EQ := equali_c ax (some ⟨wa.heap.size, 0, none⟩) 2 2 cx 2 [2, 1] [2, 1] _ (hX.below hbl) (ints_lit [2, 1] rfl rfl rfl (by simp) (by omega))
  rw [decide_eq_true rfl] at EQ
  have EQ2 := hidp EQ
  have hwb := hidp (bstep hwa hbl)
  clear hv hX hba hwa hbl EQ F0'
  go_wp2_with fail
  refine EQ2.out.mono ?_
  rintro e wb ⟨rfl, hbb⟩
  have hwc := hidp (bstep hwb.out hbb)
  have HXB := hidp (fun k (hk : k < len2) => carry_cell (HX.out k hk) hwc.out)
  have hbs : b < wb.heap.size ∨ len2 = 0 := by
    rcases Nat.eq_zero_or_pos len2 with h | h
    · exact .inr h
    · have := (HX.out 0 h).1; have := hwc.out.size; left; omega
  clear hbb hwb HX
  go_wp2_with fail
  refine (K0.out _).mono ?_
  rintro e w' ⟨rfl, rfl⟩
  go_wp2_with fail
  refine (K1.out _).mono ?_
  rintro e w' ⟨rfl, rfl⟩
  go_wp2_with fail
  go_loopg [9, 41] N (fun gg v i wr => ∃ k : Nat, k ≤ N ∧ N - k ≤ gg ∧ i = .int .i64 k ∧ wr.ownsRow wb.heap.size 3 1 v k ((tab (sF z2) k).map (Value.int .i64)) ∧ Below wb.heap.size wb wr)
  case atStart => exact ⟨0, by omega, by omega, rfl, World.ownsRow_nil _ _ _ _, Below.refl _ _⟩
  case round =>
    obtain ⟨k, hk, hgg, rfl, hv, hbl⟩ := hrel
    by_cases hlt : k < N
    · obtain rfl : a2 = some ⟨b, o, none⟩ := hz'.resolve_left (fun e => by have := e.out; omega)
      have q0 := ck hbl (HXB.out k (by omega))
      have E := hidp (show sF z2 k = wi (gi z2 k) 10000 from rfl)
      have K2 := hidp (fun W => KX.out (gi z2 k) W)
      rw [← E.out] at K2
      have sb := SB.out k
      generalize gi z2 k = x at *
      go_wp2_with fail
      refine (K2.out _).mono ?_
      rintro e w' ⟨rfl, rfl⟩
      go_wp2_with (at_builtin; refine wpList_append_new rfl (.tmp 45) (.tmp 48) 38 rfl wb.heap.size 3 _ 1 8 info_int rfl (by decide) Try.underlying38 _ k _ rfl hv rfl (one_int _ _) rfl rfl (by omega) (by decide) hbl.size ?_; intro v0 x0 nv g0 d0; have bl0 := append_step hv hbl (Nat.le_refl _) g0; clear g0 d0 hv hbl)
      go_roundg (N - (k + 1))
      case measure => omega
      case rel => exact ⟨k + 1, by omega, by omega, by go_num, by rw [tab_snoc, List.map_append]; exact nv, bl0⟩
    · obtain rfl : k = N := by omega
      obtain ⟨S, hS⟩ : ∃ S, S = tab (sF z2) k := ⟨_, rfl⟩
      rw [← hS] at hv
      have SBD := hidp (show ∀ i, i < k → 0 ≤ gi S i ∧ gi S i < 10000 from fun i hi => by rw [hS, tab_gi _ _ _ hi]; exact SB.out i)
      obtain ⟨aS, cs, rfl, hA⟩ := owns_ints hv (fun x hx => by
        rw [hS] at hx
        obtain ⟨i, hi, rfl⟩ := tab_mem _ _ _ hx
        have := SB.out i; omega)
      have ls := hA.le
      have ms := hA.max
      have AH := hidp hA
      have wE := wantE_ok S k (by omega) (fun i hi => by have := SBD.out i hi; omega)
      have FX := hidp (fun W (h : IntsAt W aS k cs S) => fair_c r aS k cs S W h wE (by omega) (by omega))
      have FY := hidp (fun W (h : IntsAt W aS k cs S) => fair_c (r + d) aS k cs S W h wE (by omega) (by omega))
      have BX := hidp (fun i (hi : i < k) => FairM.fair_bd S k r r1 (fun i hi => (SBD.out i hi).1) i hi)
      have BY := hidp (fun i (hi : i < k) => FairM.fair_bd S k (r + d) (by omega) (fun i hi => (SBD.out i hi).1) i hi)
      have MO := hidp (fun i (hi : i < k) => FairM.fair_more S k r d d1 i hi)
      have UP := hidp (fun i j (hi : i < k) (hj : j < k) h => FairM.fair_up S k r i j hi hj h)
      have CU := hidp (fun i j (hi : i < k) (hj : j < k) h => FairM.fair_cut S k r r1 (fun i hi => (SBD.out i hi).1) i j hi hj h)
      have hfb := hidp (bstep hwc.out hbl)
      clear hv hS hA wE hbl
      go_wp2_with fail
      refine (FX.out _ AH.out).mono ?_
      rintro e wd ⟨v, rfl, hv, hbd⟩
      obtain ⟨ap, cp, rfl, hP⟩ := owns_ints hv (fun x hx => by
        obtain ⟨i, hi, rfl⟩ := tab_mem _ _ _ hx
        have := BX.out i hi; have := SBD.out i hi; omega)
      have PH := hidp hP
      have lp := hP.le
      have mp := hP.max
      have A2 := hidp (AH.out.below hbd)
      have hfd := hidp (bstep hfb.out hbd)
      clear hv hP hbd AH hfb
      go_wp2_with fail
      refine (FY.out _ A2.out).mono ?_
      rintro e we ⟨v, rfl, hv, hbe⟩
      obtain ⟨aq, cq, rfl, hQ⟩ := owns_ints hv (fun x hx => by
        obtain ⟨i, hi, rfl⟩ := tab_mem _ _ _ hx
        have := BY.out i hi; have := SBD.out i hi; omega)
      have QH := hidp hQ
      have lq := hQ.le
      have mq := hQ.max
      have A3 := hidp (A2.out.below hbe)
      have P3 := hidp (PH.out.below hbe)
      have hfe := hidp (bstep hfd.out hbe)
      have GP := hidp (fun i (hi : i < k) => tab_gi (FairM.fairF S k r) k i hi)
      have GQ := hidp (fun i (hi : i < k) => tab_gi (FairM.fairF S k (r + d)) k i hi)
      have hne : ((k : Int) != (k : Int)) = false := by simp
      generalize tab (FairM.fairF S k r) k = X at *
      generalize tab (FairM.fairF S k (r + d)) k = Y at *
      clear hv hQ hbe A2 PH hfd FX FY
      go_wp2_with fail
      go_loopg [87] k (fun gg i wr => ∃ t : Nat, t ≤ k ∧ k - t ≤ gg ∧ i = .int .i64 t ∧ Below we.heap.size we wr)
      case atStart => exact ⟨0, by omega, by omega, rfl, Below.refl _ _⟩
      case round =>
        obtain ⟨t, ht, hgt, rfl, hbl⟩ := hrel
        by_cases hlt2 : t < k
        · obtain ⟨bp, op, rfl, hbp, hcp⟩ := P3.out.addr (by omega)
          obtain ⟨bq, oq, rfl, hbq, hcq⟩ := QH.out.addr (by omega)
          obtain ⟨bs, os, rfl, hbss, hcs⟩ := A3.out.addr (by omega)
          have HCP := hidp (fun i (hi : i < k) wr (hb : Below we.heap.size we wr) => carry_cell ⟨hbp, hcp i hi⟩ hb)
          have HCS := hidp (fun i (hi : i < k) wr (hb : Below we.heap.size we wr) => carry_cell ⟨hbss, hcs i hi⟩ hb)
          have p1 := HCP.out t hlt2 _ hbl
          have q1 := carry_cell ⟨hbq, hcq t hlt2⟩ hbl
          have gp := GP.out t hlt2
          have gq := GQ.out t hlt2
          have mo := MO.out t hlt2
          rw [← gp, ← gq] at mo
          have tI : (t : Int) < (k : Int) := by omega
          have mo' : ¬ gi Y t < gi X t := by omega
          have mo2 : decide (gi Y t < gi X t) = false := decide_eq_false mo'
          clear hcp hcq hcs gp gq mo
          go_wp2_with fail
          go_quiet (fail)
          have B2 := hidp (below_drewN hbl nq)
          clear p1 q1 hbl mo' mo2
          generalize wr.drewN nq = wq at *
          go_wp2_with fail
          go_loopg [101] k (fun gg i wr => ∃ u : Nat, u ≤ k ∧ k - u ≤ gg ∧ i = .int .i64 u ∧ Below we.heap.size we wr)
          case atStart => exact ⟨0, by omega, by omega, rfl, B2.out⟩
          case round =>
            obtain ⟨u, hu, hgu, rfl, hbl⟩ := hrel
            by_cases hlu : u < k
            · have p1 := HCP.out t hlt2 _ hbl
              have p2 := HCP.out u hlu _ hbl
              have s1 := HCS.out t hlt2 _ hbl
              have s2 := HCS.out u hlu _ hbl
              have g1 := GP.out t hlt2
              have g2 := GP.out u hlu
              have cu := CU.out t u hlt2 hlu
              have up := UP.out t u hlt2 hlu
              have b1 := BX.out t hlt2
              have b2 := SBD.out t hlt2
              have b3 := BX.out u hlu
              have b4 := SBD.out u hlu
              rw [← g1] at cu up b1
              rw [← g2] at cu up b3
              have uI : (u : Int) < (k : Int) := by omega
              have CU2 := hidp cu
              have UP2 := hidp up
              clear g1 g2 cu up
              generalize gi X t = x1 at *
              generalize gi X u = x2 at *
              generalize gi S t = y1 at *
              generalize gi S u = y2 at *
              have FIN : ∀ W, Below we.heap.size we W → True := fun _ _ => trivial
              clear FIN
              by_cases c1 : x1 < y1
              · have n1 : ¬ x1 + 1 < x2 := by have := CU2.out c1; omega
                have n1' : decide (x1 + 1 < x2) = false := decide_eq_false n1
                by_cases c2 : y1 < y2
                · have n2 : ¬ x2 < x1 := by have := UP2.out c2; omega
                  have n2' : decide (x2 < x1) = false := decide_eq_false n2
                  go_wp2_with fail
                  go_quiet (fail)
                  have B3 := hidp (below_drewN hbl nq)
                  clear p1 p2 s1 s2
                  go_wp2
                  go_roundg (k - (u + 1))
                  case measure => omega
                  case rel => exact ⟨u + 1, by omega, by omega, by go_num, B3.out⟩
                · have n2' : decide (y1 < y2) = false := decide_eq_false c2
                  go_wp2_with fail
                  go_quiet (fail)
                  have B3 := hidp (below_drewN hbl nq)
                  clear p1 p2 s1 s2
                  go_wp2
                  go_roundg (k - (u + 1))
                  case measure => omega
                  case rel => exact ⟨u + 1, by omega, by omega, by go_num, B3.out⟩
              · have c1' : decide (x1 < y1) = false := decide_eq_false c1
                by_cases c2 : y1 < y2
                · have n2 : ¬ x2 < x1 := by have := UP2.out c2; omega
                  have n2' : decide (x2 < x1) = false := decide_eq_false n2
                  go_wp2_with fail
                  go_quiet (fail)
                  have B3 := hidp (below_drewN hbl nq)
                  clear p1 p2 s1 s2
                  go_wp2
                  go_roundg (k - (u + 1))
                  case measure => omega
                  case rel => exact ⟨u + 1, by omega, by omega, by go_num, B3.out⟩
                · have n2' : decide (y1 < y2) = false := decide_eq_false c2
                  go_wp2_with fail
                  go_quiet (fail)
                  have B3 := hidp (below_drewN hbl nq)
                  clear p1 p2 s1 s2
                  go_wp2
                  go_roundg (k - (u + 1))
                  case measure => omega
                  case rel => exact ⟨u + 1, by omega, by omega, by go_num, B3.out⟩
            · obtain rfl : u = k := by omega
              go_wp2_with fail
              go_roundg (u - (t + 1))
              case measure => omega
              case rel => exact ⟨t + 1, by omega, by omega, by go_num, hbl⟩
        · obtain rfl : t = k := by omega
          have hfin := bstep hfe.out hbl
          clear hbl
          go_wp2_with fail
          go_ret
          exact ⟨rfl, hfin⟩
end Go.Proofs.Ytmlkhiffmkkmdaa.fairMost
