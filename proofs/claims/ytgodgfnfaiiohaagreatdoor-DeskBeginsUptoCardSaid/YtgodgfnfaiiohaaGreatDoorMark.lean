/- Contract of state.Mark at every list of pairs. -/
import Derived.Test.YtgodgfnfaiiohaaGreatDoorMgState
import Derived.Test.YtgodgfnfaiiohaaGreatDoorHexUse
import Derived.Deep.DeepCutAuto
namespace Go.Proofs.YtgodgfnfaiiohaaGreatDoor
open Go.ChangeShapes Go.WideShapes Go.ChangeAt Go.RowKit Go.Maps
set_option maxRecDepth 20000
abbrev txtTh : ByteArray := ⟨#[116, 104]⟩
abbrev txtRv : ByteArray := ⟨#[114, 118]⟩
theorem txtTh_l : txtTh.toList = [116, 104] := by decide +kernel
theorem txtRv_l : txtRv.toList = [114, 118] := by decide +kernel
theorem thF {s : ByteArray} (h : ¬ s = txtTh) : (s.toList == [116, 104]) = false := by rw [← txtTh_l]; exact eqF h
theorem rvF {s : ByteArray} (h : ¬ s = txtRv) : (s.toList == [114, 118]) = false := by rw [← txtRv_l]; exact eqF h
/-- What goes wrong at pair k. -/
def mE (L : List (ByteArray × ByteArray)) (k : Nat) : Int := if pk L k = txtTh then thE (pv L k) else if pk L k = txtRv then rvE (pv L k) else 0
def mkE (L : List (ByteArray × ByteArray)) : Nat → Int
  | 0 => 0
  | k + 1 => if mkE L k = 0 then mE L k else mkE L k
def gTh (L : List (ByteArray × ByteArray)) : Nat → Int
  | 0 => 0
  | k + 1 => if pk L k = txtTh then thV (pv L k) else gTh L k
def hTh (L : List (ByteArray × ByteArray)) : Nat → Bool
  | 0 => false
  | k + 1 => if pk L k = txtTh then true else hTh L k
def gRv (L : List (ByteArray × ByteArray)) : Nat → Int
  | 0 => 0
  | k + 1 => if pk L k = txtRv then rvV (pv L k) else gRv L k
def hRv (L : List (ByteArray × ByteArray)) : Nat → Bool
  | 0 => false
  | k + 1 => if pk L k = txtRv then true else hRv L k
def mErr (L : List (ByteArray × ByteArray)) : Int := if chkE L = 0 then mkE L L.length else chkE L
def mTh (L : List (ByteArray × ByteArray)) : Int := if mErr L = 0 then gTh L L.length else 0
def mRv (L : List (ByteArray × ByteArray)) : Int := if mErr L = 0 then gRv L L.length else 0
def mHT (L : List (ByteArray × ByteArray)) : Bool := if mErr L = 0 then hTh L L.length else false
def mHR (L : List (ByteArray × ByteArray)) : Bool := if mErr L = 0 then hRv L L.length else false
theorem mkE_stop (L : List (ByteArray × ByteArray)) (k : Nat) (e : Int) (h0 : mkE L k = 0) (he : mE L k = e) (hne : e ≠ 0) : ∀ d, mkE L (k + 1 + d) = e
  | 0 => by simp only [Nat.add_zero, mkE]; rw [if_pos h0, he]
  | d + 1 => by
    rw [show k + 1 + (d + 1) = (k + 1 + d) + 1 by omega]
    simp only [mkE]
    rw [mkE_stop L k e h0 he hne d, if_neg hne]
/-- A mark in memory. -/
structure MS (W : World) (Q : Nat) (t r : Int) (ht hr : Bool) : Prop where
  q0 : W.cell? ⟨Q, 0, none⟩ = some (.int .i64 t)
  q1 : W.cell? ⟨Q, 1, none⟩ = some (.int .i64 r)
  q2 : W.cell? ⟨Q, 2, none⟩ = some (.bool ht)
  q3 : W.cell? ⟨Q, 3, none⟩ = some (.bool hr)
  fq : ∀ o, W.frozen? ⟨Q, o, none⟩ = false
theorem MS.below {W W' : World} {Q : Nat} {t r : Int} {ht hr : Bool} (h : MS W Q t r ht hr) (hb : Below W.heap.size W W') : MS W' Q t r ht hr :=
  ⟨ck hb h.q0, ck hb h.q1, ck hb h.q2, ck hb h.q3, fun o => (hb.frozen (p := ⟨Q, o, none⟩) (show Q < _ from lt_of_cell h.q0)).trans (h.fq o)⟩
theorem MS.far {W : World} {Q : Nat} {t r : Int} {ht hr : Bool} (h : MS W Q t r ht hr) (p : Addr) (hne : p.block ≠ Q) (u : Value) : MS (W.setCell p u) Q t r ht hr := by
  have f : ∀ i x, W.cell? ⟨Q, i, none⟩ = some x → (W.setCell p u).cell? ⟨Q, i, none⟩ = some x := fun i x hx => by
    rw [World.cell?_setCell_far _ _ _ _ (show p.block ≠ Q from hne)]; exact hx
  exact ⟨f _ _ h.q0, f _ _ h.q1, f _ _ h.q2, f _ _ h.q3, fun o => by rw [World.frozen?_setCell]; exact h.fq o⟩
theorem MS.set0 {W : World} {Q : Nat} {t r : Int} {ht hr : Bool} (h : MS W Q t r ht hr) (t2 : Int) : MS (W.setCell ⟨Q, 0, none⟩ (.int .i64 t2)) Q t2 r ht hr := by
  obtain ⟨h0, h1, h3, h4, hf⟩ := h
  exact ⟨by go_simp, by go_simp, by go_simp, by go_simp, fun o => by have := hf o; go_simp⟩
theorem MS.set1 {W : World} {Q : Nat} {t r : Int} {ht hr : Bool} (h : MS W Q t r ht hr) (t2 : Int) : MS (W.setCell ⟨Q, 1, none⟩ (.int .i64 t2)) Q t t2 ht hr := by
  obtain ⟨h0, h1, h3, h4, hf⟩ := h
  exact ⟨by go_simp, by go_simp, by go_simp, by go_simp, fun o => by have := hf o; go_simp⟩
theorem MS.set2 {W : World} {Q : Nat} {t r : Int} {ht hr : Bool} (h : MS W Q t r ht hr) (b2 : Bool) : MS (W.setCell ⟨Q, 2, none⟩ (.bool b2)) Q t r b2 hr := by
  obtain ⟨h0, h1, h3, h4, hf⟩ := h
  exact ⟨by go_simp, by go_simp, by go_simp, by go_simp, fun o => by have := hf o; go_simp⟩
theorem MS.set3 {W : World} {Q : Nat} {t r : Int} {ht hr : Bool} (h : MS W Q t r ht hr) (b2 : Bool) : MS (W.setCell ⟨Q, 3, none⟩ (.bool b2)) Q t r ht b2 := by
  obtain ⟨h0, h1, h3, h4, hf⟩ := h
  exact ⟨by go_simp, by go_simp, by go_simp, by go_simp, fun o => by have := hf o; go_simp⟩
theorem MS.put {W : World} {Q : Nat} {t r : Int} {ht hr : Bool} (h : MS W Q t r ht hr) (t2 r2 : Int) (a2 b2 : Bool) : MS ((((W.setCell ⟨Q, 0, none⟩ (.int .i64 t2)).setCell ⟨Q, 1, none⟩ (.int .i64 r2)).setCell ⟨Q, 2, none⟩ (.bool a2)).setCell ⟨Q, 3, none⟩ (.bool b2)) Q t2 r2 a2 b2 :=
  (((h.set0 t2).set1 r2).set2 a2).set3 b2
theorem MS.new (W : World) (t r : Int) (ht hr : Bool) : MS (W.alloc (.cells #[.int .i64 t, .int .i64 r, .bool ht, .bool hr] 102)) W.heap.size t r ht hr :=
  ⟨by go_simp, by go_simp, by go_simp, by go_simp, fun o => by go_simp⟩
set_option maxHeartbeats 8000000 in
theorem mark_c (a : Option Addr) (n c : Nat) (L : List (ByteArray × ByteArray)) (w : World) (h : PairsAt w a n c L) :
    Calls Tryz.prog 60 #[.slice a n c] w fun e w' => e = .returned (.tuple #[.agg #[.int .i64 (mTh L), .int .i64 (mRv L), .bool (mHT L), .bool (mHR L)], .int .i64 (mErr L)]) ∧ Below w.heap.size w w' := by
  have mm := h.max
  have ee := h.le
  have LN := hidp h.len
  have CK := hidp (fun W hb => stcheck_c a n c L W (h.below hb))
  have RZ := hidp (MS.new w 0 0 false false)
  have hb0 := bal (Below.refl w.heap.size w) (.cells #[.int .i64 0, .int .i64 0, .bool false, .bool false] 102)
  cases hc : decide (chkE L = 0) with
  | false =>
    have hne : ¬ chkE L = 0 := of_decide_eq_false hc
    have hne1 : (chkE L != 0) = true := by simpa using hne
    have R1 := hidp (show mErr L = chkE L by unfold mErr; rw [if_neg hne])
    have R2 := hidp (show mTh L = 0 ∧ mRv L = 0 ∧ mHT L = false ∧ mHR L = false by unfold mTh mRv mHT mHR; rw [R1.out, if_neg hne, if_neg hne, if_neg hne, if_neg hne]; exact ⟨rfl, rfl, rfl, rfl⟩)
    clear h hc hne
    go_enter Tryz.func60, Tryz.ntmps60
    go_wp2_with fail
    refine (CK.out _ hb0).mono ?_
    rintro e wa ⟨rfl, hba⟩
    have RA := RZ.out.below hba
    obtain ⟨r0, r1, r2, r3, rf⟩ := RA
    have f0 := rf 0
    have f1 := rf 1
    have f2 := rf 2
    have f3 := rf 3
    have hbw := bstep hb0 hba
    have hsz := lt_of_cell r0
    clear rf hb0 RZ
    go_wp2_with fail
    exact bodyPost_ret (v := .tuple #[.agg #[.int .i64 0, .int .i64 0, .bool false, .bool false], .int .i64 (chkE L)]) (by simp [results, Tryz.results60, go_sem, r0, r1, r2, r3, hsz]) rfl ⟨by rw [R1.out, R2.out.1, R2.out.2.1, R2.out.2.2.1, R2.out.2.2.2], by
      first
        | exact hbw
        | exact (((hbw.setCell (p := ⟨w.heap.size, 0, none⟩) (Nat.le_refl _) _).setCell (p := ⟨w.heap.size, 1, none⟩) (Nat.le_refl _) _).setCell (p := ⟨w.heap.size, 2, none⟩) (Nat.le_refl _) _).setCell (p := ⟨w.heap.size, 3, none⟩) (Nat.le_refl _) _⟩
  | true =>
    have hz0 : chkE L = 0 := of_decide_eq_true hc
    have R1 := hidp (show mErr L = mkE L n by unfold mErr; rw [if_pos hz0, LN.out])
    have R2 := hidp (fun (h : mkE L n = 0) => show mErr L = 0 ∧ mTh L = gTh L n ∧ mRv L = gRv L n ∧ mHT L = hTh L n ∧ mHR L = hRv L n by
      have e := R1.out.trans h
      unfold mTh mRv mHT mHR
      rw [e, LN.out]
      exact ⟨rfl, rfl, rfl, rfl, rfl⟩)
    have R3 := hidp (fun k (hk : k < n) (h0 : mkE L k = 0) (he : mE L k = 3) => show mErr L = 3 ∧ mTh L = 0 ∧ mRv L = 0 ∧ mHT L = false ∧ mHR L = false by
      have e : mErr L = 3 := by
        rw [R1.out]
        have := mkE_stop L k 3 h0 he (by omega) (n - (k + 1))
        rwa [show k + 1 + (n - (k + 1)) = n by omega] at this
      unfold mTh mRv mHT mHR
      rw [e]
      exact ⟨rfl, rfl, rfl, rfl, rfl⟩)
    have CK2 := hidp (fun W hb => show Calls Tryz.prog 95 #[.slice a n c] W fun e w' => e = .returned (.int .i64 0) ∧ Below W.heap.size W w' from by rw [← hz0]; exact CK.out W hb)
    have ST := hidp (fun k => show mE L k = (if pk L k = txtTh then thE (pv L k) else if pk L k = txtRv then rvE (pv L k) else 0) from rfl)
    have SE := hidp (fun k (h0 : mkE L k = 0) => show mkE L (k + 1) = mE L k by simp only [mkE]; rw [if_pos h0])
    have SA := hidp (fun k => show gTh L (k + 1) = (if pk L k = txtTh then thV (pv L k) else gTh L k) from rfl)
    have SB := hidp (fun k => show hTh L (k + 1) = (if pk L k = txtTh then true else hTh L k) from rfl)
    have SC := hidp (fun k => show gRv L (k + 1) = (if pk L k = txtRv then rvV (pv L k) else gRv L k) from rfl)
    have SD := hidp (fun k => show hRv L (k + 1) = (if pk L k = txtRv then true else hRv L k) from rfl)
    have PT := hidp parseTh_c
    have PR := hidp parseRv_c
    obtain ⟨b, o, hz, hx⟩ := h.split
    have hz' : Hid (n = 0) ∨ a = some ⟨b, o, none⟩ := hz.imp_left hidp
    have HX := hidp hx
    clear h hc hz0 hx hz CK
    go_enter Tryz.func60, Tryz.ntmps60
    go_wp2_with fail
    refine (CK2.out _ hb0).mono ?_
    rintro e wa ⟨rfl, hba⟩
    have RA := hidp ((RZ.out.below hba).below (bal (Below.refl wa.heap.size wa) (.cells #[.int .i64 0, .int .i64 0, .bool false, .bool false] 102)))
    have MA := hidp (MS.new wa 0 0 false false)
    have hbw := bal (bstep hb0 hba) (.cells #[.int .i64 0, .int .i64 0, .bool false, .bool false] 102)
    have hsz : w.heap.size < wa.heap.size := by have := hba.size; simp at this; omega
    go_upto_region 5 with fail
    have hs2 : wa.heap.size < (wa.alloc (.cells #[.int .i64 0, .int .i64 0, .bool false, .bool false] 102)).heap.size := by simp
    generalize (wa.alloc (.cells #[.int .i64 0, .int .i64 0, .bool false, .bool false] 102)) = wb at *
    generalize wa.heap.size = Q at *
    clear hba hb0 RZ CK2
    go_wp2_with fail
    go_loopg [17] n (fun gg i wr => ∃ k : Nat, k ≤ n ∧ n - k ≤ gg ∧ i = .int .i64 k ∧ Hid (mkE L k = 0) ∧ Hid (MS wr Q (gTh L k) (gRv L k) (hTh L k) (hRv L k)) ∧ Hid (MS wr w.heap.size 0 0 false false) ∧ Below w.heap.size w wr)
    case atStart => exact ⟨0, by omega, by omega, rfl, rfl, MA, RA, hbw⟩
    case round =>
      clear MA RA hbw hs2
      obtain ⟨k, hk, hgg, rfl, e0, M, R, hbl⟩ := hrel
      by_cases hlt : k < n
      · obtain rfl : a = some ⟨b, o, none⟩ := hz'.resolve_left (fun e => by have := e.out; omega)
        obtain ⟨hbs, x1, x2⟩ := HX.out k hlt
        have q0 := carry_cell ⟨hbs, x1⟩ hbl
        have q1 := carry_cell ⟨hbs, x2⟩ hbl
        have E1 := hidp (ST.out k)
        have E2 := hidp (SE.out k e0.out)
        have EA := hidp (SA.out k)
        have EB := hidp (SB.out k)
        have EC := hidp (SC.out k)
        have ED := hidp (SD.out k)
        have E3 := hidp (R3.out k hlt e0.out)
        have BL := hidp hbl
        have hb2 := bal (Below.refl wr.heap.size wr) (.cells #[.string (pk L k), .string (pv L k)] 128)
        have M2 := hidp (M.out.below hb2)
        have R2' := hidp (R.out.below hb2)
        have hQ := lt_of_cell M.out.q0
        have hQ' : Q < wr.heap.size := hQ
        have nQ : ¬ Q = wr.heap.size := by omega
        have nQ' : ¬ wr.heap.size = Q := by omega
        have hb3 : Below w.heap.size w (wr.alloc (.cells #[.string (pk L k), .string (pv L k)] 128)) := bal hbl _
        have s0 : (wr.alloc (.cells #[.string (pk L k), .string (pv L k)] 128)).cell? ⟨wr.heap.size, 0, none⟩ = some (.string (pk L k)) := by go_simp
        have s1 : (wr.alloc (.cells #[.string (pk L k), .string (pv L k)] 128)).cell? ⟨wr.heap.size, 1, none⟩ = some (.string (pv L k)) := by go_simp
        clear x1 x2 hQ hb2
        go_upto_region 9 with fail
        generalize (wr.alloc (.cells #[.string (pk L k), .string (pv L k)] 128)) = w4 at *
        generalize wr.heap.size = X at *
        obtain ⟨m0, m1, m2, m3, mf⟩ := M2.out
        have f0 := mf 0
        have f1 := mf 1
        have f2 := mf 2
        have f3 := mf 3
        clear mf
        by_cases ht : pk L k = txtTh
        · have HT := hidp ht
          rw [ht] at s0
          have E4 := hidp (show mE L k = thE (pv L k) by rw [E1.out, if_pos ht])
          have EA2 := hidp (show gTh L (k + 1) = thV (pv L k) by rw [EA.out, if_pos ht])
          have EB2 := hidp (show hTh L (k + 1) = true by rw [EB.out, if_pos ht])
          have EC2 := hidp (show gRv L (k + 1) = gRv L k by rw [EC.out, if_neg (by rw [ht]; decide)])
          have ED2 := hidp (show hRv L (k + 1) = hRv L k by rw [ED.out, if_neg (by rw [ht]; decide)])
          clear ht E1 EA EB EC ED
          generalize pv L k = v at *
          cases hok : thOk v with
          | true =>
            have V0 := hidp (show thE v = 0 by unfold thE; rw [if_pos hok])
            have P2 := hidp (fun W => PT.out v W)
            rw [V0.out] at P2
            have N2 := hidp (show mkE L (k + 1) = 0 by rw [E2.out, E4.out, V0.out])
            obtain ⟨x, hx⟩ : ∃ x, x = thV v := ⟨_, rfl⟩
            rw [← hx] at P2 EA2
            clear hx hok hbl
            go_wp2_with fail
            refine (P2.out _).mono ?_
            rintro e w' ⟨rfl, rfl⟩
            have M3 := hidp (M2.out.set0 x)
            have R4 := hidp (R2'.out.far ⟨Q, 0, none⟩ (by show Q ≠ w.heap.size; omega) (.int .i64 x))
            have B4 := hb3.setCell (p := ⟨Q, 0, none⟩) (by show w.heap.size ≤ Q; omega) (.int .i64 x)
            go_upto_region 12 with fail
            clear m0 m1 m2 m3 f0 f1 f2 f3 M2 R2' hb3 s0 s1
            generalize World.setCell _ _ _ = w5 at *
            obtain ⟨m0, m1, m2, m3, mf⟩ := M3.out
            have f5 := mf 2
            have M5 := hidp (M3.out.set2 true)
            have R5 := hidp (R4.out.far ⟨Q, 2, none⟩ (by show Q ≠ w.heap.size; omega) (.bool true))
            have B5 := hidp (B4.setCell (p := ⟨Q, 2, none⟩) (by show w.heap.size ≤ Q; omega) (.bool true))
            clear mf B4
            go_wp2_with fail
            go_roundg (n - (k + 1))
            case measure => omega
            case rel => exact ⟨k + 1, by omega, by omega, by go_num, N2, hidp (by rw [EA2.out, EB2.out, EC2.out, ED2.out]; exact M5.out), R5, B5.out⟩
          | false =>
            have V0 := hidp (show thE v = 3 by unfold thE; rw [hok]; rfl)
            have P2 := hidp (fun W => PT.out v W)
            rw [V0.out, show thV v = 0 by unfold thV; rw [hok]; rfl] at P2
            have E5 := hidp (E3.out (by rw [E4.out, V0.out]))
            clear hok hbl
            go_wp2_with fail
            refine (P2.out _).mono ?_
            rintro e w' ⟨rfl, rfl⟩
            have M3 := hidp (M2.out.set0 0)
            have R4 := hidp (R2'.out.far ⟨Q, 0, none⟩ (by show Q ≠ w.heap.size; omega) (.int .i64 0))
            have B4 := hb3.setCell (p := ⟨Q, 0, none⟩) (by show w.heap.size ≤ Q; omega) (.int .i64 0)
            go_upto_region 12 with fail
            clear m0 m1 m2 m3 f0 f1 f2 f3 M2 R2' hb3 s0 s1
            generalize World.setCell _ _ _ = w5 at *
            obtain ⟨m0, m1, m2, m3, mf⟩ := M3.out
            have f5 := mf 2
            have R5 := hidp (R4.out.far ⟨Q, 2, none⟩ (by show Q ≠ w.heap.size; omega) (.bool true))
            have B5 := B4.setCell (p := ⟨Q, 2, none⟩) (by show w.heap.size ≤ Q; omega) (.bool true)
            clear mf B4
            go_upto_region 16 with fail
            clear m0 m1 m2 m3 f5 M3 R4
            generalize World.setCell _ _ _ = w6 at *
            obtain ⟨r0, r1, r2, r3, rf⟩ := R5.out
            have g0 := rf 0
            have g1 := rf 1
            have g2 := rf 2
            have g3 := rf 3
            have hszR := lt_of_cell r0
            have B6 := hidp B5
            clear rf B5
            go_wp2_with fail
            exact bodyPost_ret (v := .tuple #[.agg #[.int .i64 0, .int .i64 0, .bool false, .bool false], .int .i64 3]) (by simp [results, Tryz.results60, go_sem, r0, r1, r2, r3, hszR]) rfl ⟨by rw [E5.out.1, E5.out.2.1, E5.out.2.2.1, E5.out.2.2.2.1, E5.out.2.2.2.2], by
              exact (((B6.out.setCell (p := ⟨w.heap.size, 0, none⟩) (Nat.le_refl _) _).setCell (p := ⟨w.heap.size, 1, none⟩) (Nat.le_refl _) _).setCell (p := ⟨w.heap.size, 2, none⟩) (Nat.le_refl _) _).setCell (p := ⟨w.heap.size, 3, none⟩) (Nat.le_refl _) _⟩
        · by_cases hr : pk L k = txtRv
          · have HT := hidp hr
            rw [hr] at s0
            have E4 := hidp (show mE L k = rvE (pv L k) by rw [E1.out, if_neg ht, if_pos hr])
            have EC2 := hidp (show gTh L (k + 1) = gTh L k by rw [EA.out, if_neg ht])
            have ED2 := hidp (show hTh L (k + 1) = hTh L k by rw [EB.out, if_neg ht])
            have EA2 := hidp (show gRv L (k + 1) = rvV (pv L k) by rw [EC.out, if_pos hr])
            have EB2 := hidp (show hRv L (k + 1) = true by rw [ED.out, if_pos hr])
            clear ht hr E1 EA EB EC ED
            generalize pv L k = v at *
            cases hok : rvOk v with
            | true =>
              have V0 := hidp (show rvE v = 0 by unfold rvE; rw [if_pos hok])
              have P2 := hidp (fun W => PR.out v W)
              rw [V0.out] at P2
              have N2 := hidp (show mkE L (k + 1) = 0 by rw [E2.out, E4.out, V0.out])
              obtain ⟨x, hx⟩ : ∃ x, x = rvV v := ⟨_, rfl⟩
              rw [← hx] at P2 EA2
              clear hx hok hbl
              go_wp2_with fail
              refine (P2.out _).mono ?_
              rintro e w' ⟨rfl, rfl⟩
              have M3 := hidp (M2.out.set1 x)
              have R4 := hidp (R2'.out.far ⟨Q, 1, none⟩ (by show Q ≠ w.heap.size; omega) (.int .i64 x))
              have B4 := hb3.setCell (p := ⟨Q, 1, none⟩) (by show w.heap.size ≤ Q; omega) (.int .i64 x)
              go_upto_region 15 with fail
              clear m0 m1 m2 m3 f0 f1 f2 f3 M2 R2' hb3 s0 s1
              generalize World.setCell _ _ _ = w5 at *
              obtain ⟨m0, m1, m2, m3, mf⟩ := M3.out
              have f5 := mf 3
              have M5 := hidp (M3.out.set3 true)
              have R5 := hidp (R4.out.far ⟨Q, 3, none⟩ (by show Q ≠ w.heap.size; omega) (.bool true))
              have B5 := hidp (B4.setCell (p := ⟨Q, 3, none⟩) (by show w.heap.size ≤ Q; omega) (.bool true))
              clear mf B4
              go_wp2_with fail
              go_roundg (n - (k + 1))
              case measure => omega
              case rel => exact ⟨k + 1, by omega, by omega, by go_num, N2, hidp (by rw [EA2.out, EB2.out, EC2.out, ED2.out]; exact M5.out), R5, B5.out⟩
            | false =>
              have V0 := hidp (show rvE v = 3 by unfold rvE; rw [hok]; rfl)
              have P2 := hidp (fun W => PR.out v W)
              rw [V0.out, show rvV v = 0 by unfold rvV; rw [hok]; rfl] at P2
              have E5 := hidp (E3.out (by rw [E4.out, V0.out]))
              clear hok hbl
              go_wp2_with fail
              refine (P2.out _).mono ?_
              rintro e w' ⟨rfl, rfl⟩
              have M3 := hidp (M2.out.set1 0)
              have R4 := hidp (R2'.out.far ⟨Q, 1, none⟩ (by show Q ≠ w.heap.size; omega) (.int .i64 0))
              have B4 := hb3.setCell (p := ⟨Q, 1, none⟩) (by show w.heap.size ≤ Q; omega) (.int .i64 0)
              go_upto_region 15 with fail
              clear m0 m1 m2 m3 f0 f1 f2 f3 M2 R2' hb3 s0 s1
              generalize World.setCell _ _ _ = w5 at *
              obtain ⟨m0, m1, m2, m3, mf⟩ := M3.out
              have f5 := mf 3
              have R5 := hidp (R4.out.far ⟨Q, 3, none⟩ (by show Q ≠ w.heap.size; omega) (.bool true))
              have B5 := B4.setCell (p := ⟨Q, 3, none⟩) (by show w.heap.size ≤ Q; omega) (.bool true)
              clear mf B4
              go_upto_region 16 with fail
              clear m0 m1 m2 m3 f5 M3 R4
              generalize World.setCell _ _ _ = w6 at *
              obtain ⟨r0, r1, r2, r3, rf⟩ := R5.out
              have g0 := rf 0
              have g1 := rf 1
              have g2 := rf 2
              have g3 := rf 3
              have hszR := lt_of_cell r0
              have B6 := hidp B5
              clear rf B5
              go_wp2_with fail
              exact bodyPost_ret (v := .tuple #[.agg #[.int .i64 0, .int .i64 0, .bool false, .bool false], .int .i64 3]) (by simp [results, Tryz.results60, go_sem, r0, r1, r2, r3, hszR]) rfl ⟨by rw [E5.out.1, E5.out.2.1, E5.out.2.2.1, E5.out.2.2.2.1, E5.out.2.2.2.2], by
                exact (((B6.out.setCell (p := ⟨w.heap.size, 0, none⟩) (Nat.le_refl _) _).setCell (p := ⟨w.heap.size, 1, none⟩) (Nat.le_refl _) _).setCell (p := ⟨w.heap.size, 2, none⟩) (Nat.le_refl _) _).setCell (p := ⟨w.heap.size, 3, none⟩) (Nat.le_refl _) _⟩
          · have N2 := hidp (show mkE L (k + 1) = 0 by rw [E2.out, E1.out, if_neg ht, if_neg hr])
            have EA2 := hidp (show gTh L (k + 1) = gTh L k by rw [EA.out, if_neg ht])
            have EB2 := hidp (show hTh L (k + 1) = hTh L k by rw [EB.out, if_neg ht])
            have EC2 := hidp (show gRv L (k + 1) = gRv L k by rw [EC.out, if_neg hr])
            have ED2 := hidp (show hRv L (k + 1) = hRv L k by rw [ED.out, if_neg hr])
            have g1 := thF ht
            have g2 := rvF hr
            clear ht hr E1 EA EB EC ED
            generalize pk L k = s at *
            generalize pv L k = v at *
            go_wp2_with fail
            go_roundg (n - (k + 1))
            case measure => omega
            case rel => exact ⟨k + 1, by omega, by omega, by go_num, N2, hidp (by rw [EA2.out, EB2.out, EC2.out, ED2.out]; exact M2.out), R2', hb3⟩
      · obtain rfl : k = n := by omega
        have E5 := hidp (R2.out e0.out)
        obtain ⟨m0, m1, m2, m3, mf⟩ := M.out
        obtain ⟨r0, r1, r2, r3, rf⟩ := R.out
        have g0 := rf 0
        have g1 := rf 1
        have g2 := rf 2
        have g3 := rf 3
        have hszR := lt_of_cell r0
        have B4 := hidp hbl
        clear hbl mf rf
        generalize gTh L k = v0 at *
        generalize gRv L k = v1 at *
        generalize hTh L k = v2 at *
        generalize hRv L k = v3 at *
        go_wp2_with fail
        exact bodyPost_ret (v := .tuple #[.agg #[.int .i64 v0, .int .i64 v1, .bool v2, .bool v3], .int .i64 0]) (by simp [results, Tryz.results60, go_sem, r0, r1, r2, r3, hszR]) rfl ⟨by rw [E5.out.1, E5.out.2.1, E5.out.2.2.1, E5.out.2.2.2.1, E5.out.2.2.2.2], by
          exact (((B4.out.setCell (p := ⟨w.heap.size, 0, none⟩) (Nat.le_refl _) _).setCell (p := ⟨w.heap.size, 1, none⟩) (Nat.le_refl _) _).setCell (p := ⟨w.heap.size, 2, none⟩) (Nat.le_refl _) _).setCell (p := ⟨w.heap.size, 3, none⟩) (Nat.le_refl _) _⟩
end Go.Proofs.YtgodgfnfaiiohaaGreatDoor
