/- The walk of StateSet: the law returns true at all inputs, and no old memory changes. -/
import Derived.Test.YtmlkhiffmkkmdaaSetMath
import Derived.Test.YtmlkhiffmkkmdaaEqP
import Derived.Test.YtmlkhiffmkkmdaaMarkOpen
namespace Go.Proofs.Ytmlkhiffmkkmdaa.stateSet
open Go.ChangeShapes Go.WideShapes Go.ChangeAt Go.RowKit Go.Maps
open Go.Proofs.Ytmlkhiffmkkmdaa
set_option maxRecDepth 20000
def L1 : List (ByteArray × ByteArray) := [(⟨#[97]⟩, ⟨#[49]⟩)]
def L2 : List (ByteArray × ByteArray) := [(⟨#[116, 104]⟩, ⟨#[56]⟩), (⟨#[97]⟩, ⟨#[49]⟩)]
theorem L1_set : setL L1 36028797018963968 0 true false = L2 ∧ setE L1 36028797018963968 0 true false = 0 ∧ chkE L1 = 0 := by decide +kernel
theorem nil_at (w : World) : PairsAt w none 0 0 [] := pairs_nil w
set_option linter.unusedVariables false
set_option maxHeartbeats 8000000 in
theorem walk (a0 : Option Addr) (len0 cap0 : Nat) (z0 : List (ByteArray × ByteArray)) (th rv : Int) (ht hr : Bool) (w : World)
    (w0 : PairsAt w a0 len0 cap0 z0) :
    Calls Try.prog 4 #[.slice a0 len0 cap0, markV th rv ht hr] w fun e w' => e = .returned (.bool true) ∧ Below w.heap.size w w' := by
  have mm := w0.max
  have ee := w0.le
  have LN := hidp w0.len
  have W0 := hidp w0
  have WW := hidp w0
  have S0 := hidp (MS.new w th rv ht hr)
  have hb0 := hidp (bal (bal (Below.refl w.heap.size w) (.cells #[.int .i64 th, .int .i64 rv, .bool ht, .bool hr] 24)) (.cells #[.string ⟨#[97]⟩, .string ⟨#[49]⟩] 29))
  have I1 := pairs_lit (w := w.alloc (.cells #[.int .i64 th, .int .i64 rv, .bool ht, .bool hr] 24)) (T := 29) (b := w.heap.size + 1) (n := 1) L1 (by simp) rfl rfl (by decide) (by omega)
  have SE := set_ok (some ⟨w.heap.size + 1, 0, none⟩) 1 1 L1 36028797018963968 0 true false _ I1 L1_set.2.2 (by decide)
  rw [L1_set.1, L1_set.2.1] at SE
  have SE1 := hidp SE
  clear w0 I1 SE
  unfold markV at *
  go_enter Try.func4, Try.ntmps4
  go_wp2_with fail
  refine SE1.out.mono ?_
  rintro e wa ⟨v, rfl, hvs, hba⟩
  have hv := (hvs.resolve_right (fun h => absurd h.1 (by omega))).2
  obtain ⟨ax, cx, rfl, hX⟩ := owns_pairs hv (by decide)
  have SA := hidp (((S0.out.below (bal (Below.refl _ _) (.cells #[.string ⟨#[97]⟩, .string ⟨#[49]⟩] 29))).below hba).below (bal (Below.refl _ _) (.cells (psV L2).toArray 29)))
  have hwa := bal (bstep hb0.out hba) (.cells (psV L2).toArray 29)
  have hX2 := hidp (hX.below (bal (Below.refl _ _) (.cells (psV L2).toArray 29)))
  have hY2 := hidp (pairs_lit (w := wa) (T := 29) (b := wa.heap.size) (n := 2) L2 rfl rfl rfl (by decide) (by omega))
  have HWA := hidp hwa
  clear hvs hv hX hba hb0 S0 SE1 hwa
  go_wp2_with fail
  refine (eqp_c _ _ 2 _ _ L2 _ hX2.out hY2.out).mono ?_
  rintro e wb ⟨rfl, hbb⟩
  have SB := hidp (SA.out.below hbb)
  have hwb := hidp (bstep HWA.out hbb)
  have W1 := hidp (W0.out.below hwb.out)
  have hQ : w.heap.size < wb.heap.size := lt_of_cell SB.out.q0
  clear SA hX2 hY2 HWA hbb W0
  obtain ⟨q0, q1, q2, q3, _⟩ := SB.out
  by_cases hg : chkE z0 = 0 ∧ (isNum th && isNum rv) = true
  · obtain ⟨hz0, hnn⟩ := hg
    have hok := (chkE_zero z0).1 hz0
    have hn2 := hnn
    rw [Bool.and_eq_true] at hn2
    have b1 := of_decide_eq_true hn2.1
    have b2 := of_decide_eq_true hn2.2
    have SB2 := hidp (set_ok a0 len0 cap0 z0 th rv ht hr wb W1.out hz0 hnn)
    unfold markV at SB2
    have n40 : len0 ≤ 40 := by rw [← LN.out]; exact hok.1
    go_wp2_with fail
    refine SB2.out.mono ?_
    rintro e wc ⟨v, rfl, hvs, hbc⟩
    have SC := hidp (SB.out.below hbc)
    have hwc := hidp (bstep hwb.out hbc)
    have W2 := hidp (W1.out.below hbc)
    clear hbc q0 q1 q2 q3 SB hwb SB2
    rcases hvs with ⟨hE, hv⟩ | ⟨hE, rfl⟩
    · have h40 : (setL z0 th rv ht hr).length ≤ 40 := by
        unfold setE at hE
        rw [if_pos hz0, if_pos hnn] at hE
        by_cases h : 40 < (setL z0 th rv ht hr).length
        · rw [if_pos h] at hE; omega
        · omega
      rw [hE]
      obtain ⟨ax, cx, rfl, hX⟩ := owns_pairs hv (setL_sz z0 th rv ht hr W1.out.sz)
      have NX := hidp (show 0 < (setL z0 th rv ht hr).length → ∀ b o, ax = some ⟨b, o, none⟩ → b ≠ w.heap.size from fun _ b o e => by have := (owns_far hv b o e).1; omega)
      have NW := hidp (show 0 < len0 → ∀ b o, a0 = some ⟨b, o, none⟩ → b ≠ w.heap.size from fun h0 b o e => by
        obtain ⟨b2, o2, e2, h2, _⟩ := WW.out.cells h0
        rw [e] at e2
        simp only [Option.some.injEq, Addr.mk.injEq] at e2
        omega)
      have hXok := set_ok_pairs z0 th rv ht hr hok h40
      have cX := (chkE_zero _).2 hXok
      obtain ⟨m1, m2, m3, m4, m5⟩ := set_mark z0 th rv ht hr hok h40 b1 b2
      have eX1 := set_again z0 th rv ht hr
      have eX2 := set_none z0 th rv ht hr
      have e1 : setE (setL z0 th rv ht hr) th rv ht hr = 0 := by unfold setE; rw [if_pos cX, if_pos hnn, eX1, if_neg (by omega)]
      have hF40 : (z0.filter isOth).length ≤ 40 := Nat.le_trans (List.length_filter_le _ _) hok.1
      have e2 : setE (setL z0 th rv ht hr) 0 0 false false = 0 := by unfold setE; rw [if_pos cX, if_pos (by decide), eX2, if_neg (by omega)]
      have szX := setL_sz z0 th rv ht hr W1.out.sz
      have szF : ∀ p ∈ z0.filter isOth, p.1.size ≤ 9223372036854775807 ∧ p.2.size ≤ 9223372036854775807 := fun p hp => W1.out.sz p (List.mem_filter.1 hp).1
      obtain ⟨X, hXe⟩ : ∃ X, X = setL z0 th rv ht hr := ⟨_, rfl⟩
      rw [← hXe] at NX hX cX m1 m2 m3 m4 m5 eX1 eX2 e1 e2 szX h40 ⊢
      obtain ⟨F, hFe⟩ : ∃ F, F = z0.filter isOth := ⟨_, rfl⟩
      rw [← hFe] at eX2 szF hF40
      have MK := hidp (fun W (h : PairsAt W ax X.length cx X) => by
        have := mark_c ax X.length cx X W h
        rw [m1, m2, m3, m4, m5] at this
        exact this)
      have S1 := hidp (fun W (h : PairsAt W ax X.length cx X) => show Calls Try.prog 15 #[.slice ax X.length cx, .agg #[.int .i64 th, .int .i64 rv, .bool ht, .bool hr]] W fun e w' => ∃ a c, e = .returned (.tuple #[.slice a X.length c, .int .i64 0]) ∧ PairsAt w' a X.length c X ∧ Hid (∀ b o, a = some ⟨b, o, none⟩ → W.heap.size ≤ b) ∧ Below W.heap.size W w' from by
        refine (set_ok ax X.length cx X th rv ht hr W h cX hnn).mono ?_
        rintro e w' ⟨v, rfl, hvs, hb⟩
        rw [eX1, e1] at hvs
        rw [e1]
        have hv := (hvs.resolve_right (fun h => absurd h.1 (by omega))).2
        obtain ⟨a, c, rfl, hi⟩ := owns_pairs hv szX
        exact ⟨a, c, rfl, hi, hidp (fun b o e => (owns_far hv b o e).1), hb⟩)
      have S2 := hidp (fun W (h : PairsAt W ax X.length cx X) => show Calls Try.prog 15 #[.slice ax X.length cx, .agg #[.int .i64 0, .int .i64 0, .bool false, .bool false]] W fun e w' => ∃ a c, e = .returned (.tuple #[.slice a F.length c, .int .i64 0]) ∧ PairsAt w' a F.length c F ∧ Hid (∀ b o, a = some ⟨b, o, none⟩ → W.heap.size ≤ b) ∧ Below W.heap.size W w' from by
        refine (set_ok ax X.length cx X 0 0 false false W h cX (by decide)).mono ?_
        rintro e w' ⟨v, rfl, hvs, hb⟩
        rw [eX2, e2] at hvs
        rw [e2]
        have hv := (hvs.resolve_right (fun h => absurd h.1 (by omega))).2
        obtain ⟨a, c, rfl, hi⟩ := owns_pairs hv szF
        exact ⟨a, c, rfl, hi, hidp (fun b o e => (owns_far hv b o e).1), hb⟩)
      have CX := hidp (fun W (h : PairsAt W ax X.length cx X) => show Calls Try.prog 12 #[.slice ax X.length cx] W fun e w' => e = .returned (.int .i64 0) ∧ Below W.heap.size W w' from by
        have := stcheck_c ax X.length cx X W h
        rw [cX] at this
        exact this)
      have FE := hidp hFe
      have XA := hidp hX
      have lx := hX.le
      have mx := hX.max
      clear hX cX m1 m2 m3 m4 m5 eX1 eX2 e1 e2 szX szF hXok hXe hFe hok hz0 hnn hn2 hE hv
      go_wp2_with fail
      refine (MK.out _ XA.out).mono ?_
      rintro e wd ⟨rfl, hbd⟩
      obtain ⟨mt, hmt⟩ : ∃ mt : Int, mt = (if ht = true then th else 0) := ⟨_, rfl⟩
      obtain ⟨mr, hmr⟩ : ∃ mr : Int, mr = (if hr = true then rv else 0) := ⟨_, rfl⟩
      rw [← hmt, ← hmr]
      have HMT := hidp hmt
      have HMR := hidp hmr
      have hbal := bal (Below.refl wd.heap.size wd) (.cells #[.int .i64 mt, .int .i64 mr, .bool ht, .bool hr] 24)
      have SN := hidp (MS.new wd mt mr ht hr)
      have SD := hidp ((SC.out.below hbd).below hbal)
      have XD := hidp ((XA.out.below hbd).below hbal)
      have WD := hidp ((W2.out.below hbd).below hbal)
      have hwd := hidp (bstep (bstep hwc.out hbd) hbal)
      have hQn : w.heap.size < wd.heap.size := by have := lt_of_cell (SC.out.below hbd).q0; exact this
      clear hbd hmt hmr MK SC XA W2 hwc hbal
      go_upto_region 8 with fail
      generalize (wd.alloc (.cells #[.int .i64 mt, .int .i64 mr, .bool ht, .bool hr] 24)) = we at *
      generalize wd.heap.size = Pn at *
      obtain ⟨q0, q1, q2, q3, _⟩ := SD.out
      go_wp2_with fail
      refine (S1.out _ XD.out).mono ?_
      rintro e wf ⟨ay, cy, rfl, hY, fY, hbf⟩
      have NY := hidp (show 0 < X.length → ∀ b o, ay = some ⟨b, o, none⟩ → b ≠ w.heap.size from fun _ b o e => by have := fY.out b o e; have := lt_of_cell SD.out.q0; have h2 : w.heap.size < we.heap.size := this; omega)
      have YF := hidp hY
      have ly := hY.le
      have my := hY.max
      have SF := hidp (SD.out.below hbf)
      have SNF := hidp (SN.out.below hbf)
      have XF := hidp (XD.out.below hbf)
      have WF := hidp (WD.out.below hbf)
      have hwf := hidp (bstep hwd.out hbf)
      clear hbf hY q0 q1 q2 q3 SD SN XD WD hwd S1
      go_wp2_with fail
      refine (S2.out _ XF.out).mono ?_
      rintro e wg ⟨az, cz, rfl, hZ, fZ, hbg⟩
      have NZ := hidp (show 0 < F.length → ∀ b o, az = some ⟨b, o, none⟩ → b ≠ w.heap.size from fun _ b o e => by have := fZ.out b o e; have := lt_of_cell SF.out.q0; have h2 : w.heap.size < wf.heap.size := this; omega)
      have ZG := hidp hZ
      have lz := hZ.le
      have mz := hZ.max
      have SG := hidp (SF.out.below hbg)
      have SNG := hidp (SNF.out.below hbg)
      have XG := hidp (XF.out.below hbg)
      have YG := hidp (YF.out.below hbg)
      have WG := hidp (WF.out.below hbg)
      have hwg := hidp (bstep hwf.out hbg)
      clear hbg hZ SF SNF XF YF WF hwf S2
      obtain ⟨q0, q1, q2, q3, qf⟩ := SG.out
      have f0 := qf 0
      have f1 := qf 1
      clear qf
      -- THE FOUR CASES
      cases ht <;> cases hr
      · have e1 : mt = 0 := HMT.out
        have e2 : mr = 0 := HMR.out
        subst e1 e2
        have MH := hidp (((SG.out.set0 0).set1 0))
        have NH := hidp (((SNG.out.far ⟨w.heap.size, 0, none⟩ (show w.heap.size ≠ Pn by omega) (.int .i64 0)).far ⟨w.heap.size, 1, none⟩ (show w.heap.size ≠ Pn by omega) (.int .i64 0)))
        have XH := hidp (((XG.out.setF ⟨w.heap.size, 0, none⟩ NX.out (.int .i64 0)).setF ⟨w.heap.size, 1, none⟩ NX.out (.int .i64 0)))
        have YH := hidp (((YG.out.setF ⟨w.heap.size, 0, none⟩ NY.out (.int .i64 0)).setF ⟨w.heap.size, 1, none⟩ NY.out (.int .i64 0)))
        have ZH := hidp (((ZG.out.setF ⟨w.heap.size, 0, none⟩ NZ.out (.int .i64 0)).setF ⟨w.heap.size, 1, none⟩ NZ.out (.int .i64 0)))
        have WH := hidp (((WG.out.setF ⟨w.heap.size, 0, none⟩ NW.out (.int .i64 0)).setF ⟨w.heap.size, 1, none⟩ NW.out (.int .i64 0)))
        have hwh := hidp (((hwg.out.setCell (p := ⟨w.heap.size, 0, none⟩) (Nat.le_refl _) (.int .i64 0)).setCell (p := ⟨w.heap.size, 1, none⟩) (Nat.le_refl _) (.int .i64 0)))
        clear SG SNG XG YG ZG WG hwg NX NY NZ NW
        go_upto_region 15 with fail
        generalize ((wg.setCell ⟨w.heap.size, 0, none⟩ (.int .i64 0)).setCell ⟨w.heap.size, 1, none⟩ (.int .i64 0)) = wh at *
        clear q0 q1 q2 q3 f0 f1
        go_wp2_with fail
        go_loopg [13, 71] len0 (fun gg v i wr => ∃ k : Nat, k ≤ len0 ∧ len0 - k ≤ gg ∧ i = .int .i64 k ∧ wr.ownsRow wh.heap.size 29 2 v ((z0.take k).filter isOth).length (psV ((z0.take k).filter isOth)) ∧ Below wh.heap.size wh wr)
        case atStart => exact ⟨0, by omega, by omega, rfl, World.ownsRow_nil _ _ _ _, Below.refl _ _⟩
        case round =>
          obtain ⟨k, hk, hgg, rfl, hv, hbl⟩ := hrel
          by_cases hlt : k < len0
          · obtain ⟨b, o, hz, hx⟩ := (WH.out.below hbl).split
            obtain rfl : a0 = some ⟨b, o, none⟩ := hz.resolve_left (by omega)
            obtain ⟨hbs, q0, q1⟩ := hx k hlt
            have F1 := hidp (filt_step z0 k (by rw [LN.out]; exact hlt))
            have f1 : ((z0.take k).filter isOth).length ≤ k := Nat.le_trans (List.length_filter_le _ _) (List.length_take_le _ _)
            have s0 : (wr.alloc (.cells #[.string (pk z0 k), .string (pv z0 k)] 29)).cell? ⟨wr.heap.size, 0, none⟩ = some (.string (pk z0 k)) := by go_simp
            have s1 : (wr.alloc (.cells #[.string (pk z0 k), .string (pv z0 k)] 29)).cell? ⟨wr.heap.size, 1, none⟩ = some (.string (pv z0 k)) := by go_simp
            have hv4 := hidp (hv.alloc (.cells #[.string (pk z0 k), .string (pv z0 k)] 29))
            have hb4 : Below wh.heap.size wh (wr.alloc (.cells #[.string (pk z0 k), .string (pv z0 k)] 29)) := bal hbl _
            clear hx hz hv hbl
            go_upto_region 18 with fail
            generalize (wr.alloc (.cells #[.string (pk z0 k), .string (pv z0 k)] 29)) = w4 at *
            generalize wr.heap.size = X4 at *
            by_cases e1 : pk z0 k = txtTh
            · have F2 := hidp (show (z0.take (k + 1)).filter isOth = (z0.take k).filter isOth by rw [F1.out, if_neg (by unfold isOth; simp [e1]), List.append_nil])
              rw [e1] at s0
              clear e1 F1
              go_wp2_with fail
              go_roundg (len0 - (k + 1))
              case measure => omega
              case rel => exact ⟨k + 1, by omega, by omega, by go_num, by rw [F2.out]; exact hv4.out, hb4⟩
            · by_cases e2 : pk z0 k = txtRv
              · have F2 := hidp (show (z0.take (k + 1)).filter isOth = (z0.take k).filter isOth by rw [F1.out, if_neg (by unfold isOth; simp [e2]), List.append_nil])
                rw [e2] at s0
                clear e1 e2 F1
                go_wp2_with fail
                go_roundg (len0 - (k + 1))
                case measure => omega
                case rel => exact ⟨k + 1, by omega, by omega, by go_num, by rw [F2.out]; exact hv4.out, hb4⟩
              · have F2 := hidp (show (z0.take (k + 1)).filter isOth = (z0.take k).filter isOth ++ [(pk z0 k, pv z0 k)] by rw [F1.out, if_pos (by unfold isOth; simp [e1, e2])])
                have g1 := thN e1
                have g2 := rvN e2
                have g3 := thF e1
                have g4 := rvF e2
                clear e1 e2 F1
                generalize (z0.take k).filter isOth = R at *
                generalize pk z0 k = s at *
                generalize pv z0 k = v at *
                have hgs := hb4.size
                go_wp2_with (at_builtin; refine wpList_append_new rfl (.tmp 83) (.tmp 85) 22 rfl wh.heap.size 29 _ 2 32 info_pair rfl (by decide) Try.underlying22 _ R.length _ rfl hv4.out rfl (one_twoS _ _) rfl rfl (by omega) (by decide) hgs ?_; intro v0 x0 nw gr0 dd0)
                go_roundg (len0 - (k + 1))
                case measure => omega
                case rel => exact ⟨k + 1, by omega, by omega, by go_num, by rw [F2.out, psV_snoc, List.length_append]; exact nw, append_step hv4.out hb4 (Nat.le_refl _) gr0⟩
          · obtain rfl : k = len0 := by omega
            rw [show (z0.take k).filter isOth = F by rw [List.take_of_length_le (by rw [LN.out]; exact Nat.le_refl _)]; exact FE.out.symm] at hv
            obtain ⟨ao, co, hve, hO⟩ := owns_pairs hv (ZH.out.sz)
            subst hve
            have OH := hidp hO
            obtain ⟨m0, m1, m2, m3, _⟩ := MH.out.below hbl
            obtain ⟨n0, n1, n2, n3, _⟩ := NH.out.below hbl
            have hfin := hidp (bstep hwh.out hbl)
            have X5 := hidp (XH.out.below hbl)
            have Y5 := hidp (YH.out.below hbl)
            have Z5 := hidp (ZH.out.below hbl)
            clear hv hO hbl
            go_wp2_with fail
            refine (eqp_c _ _ _ _ _ X _ Y5.out X5.out).mono ?_
            rintro e wi ⟨rfl, hbi⟩
            have X6 := hidp (X5.out.below hbi)
            have Z6 := hidp (Z5.out.below hbi)
            have O6 := hidp (OH.out.below hbi)
            have hf6 := hidp (bstep hfin.out hbi)
            clear hbi
            go_wp2_with fail
            refine (eqp_c _ _ _ _ _ F _ Z6.out O6.out).mono ?_
            rintro e wj ⟨rfl, hbj⟩
            have X7 := hidp (X6.out.below hbj)
            have hf7 := hidp (bstep hf6.out hbj)
            clear hbj
            go_wp2_with fail
            refine (CX.out _ X7.out).mono ?_
            rintro e wk ⟨rfl, hbk⟩
            have hf8 := bstep hf7.out hbk
            clear hbk
            go_wp2_with fail
            go_ret
            exact ⟨rfl, hf8⟩

      · have e1 : mt = 0 := HMT.out
        have e2 : mr = rv := HMR.out
        subst e1 e2
        have MH := hidp ((SG.out.set0 0))
        have NH := hidp ((SNG.out.far ⟨w.heap.size, 0, none⟩ (show w.heap.size ≠ Pn by omega) (.int .i64 0)))
        have XH := hidp ((XG.out.setF ⟨w.heap.size, 0, none⟩ NX.out (.int .i64 0)))
        have YH := hidp ((YG.out.setF ⟨w.heap.size, 0, none⟩ NY.out (.int .i64 0)))
        have ZH := hidp ((ZG.out.setF ⟨w.heap.size, 0, none⟩ NZ.out (.int .i64 0)))
        have WH := hidp ((WG.out.setF ⟨w.heap.size, 0, none⟩ NW.out (.int .i64 0)))
        have hwh := hidp ((hwg.out.setCell (p := ⟨w.heap.size, 0, none⟩) (Nat.le_refl _) (.int .i64 0)))
        clear SG SNG XG YG ZG WG hwg NX NY NZ NW
        go_upto_region 15 with fail
        generalize (wg.setCell ⟨w.heap.size, 0, none⟩ (.int .i64 0)) = wh at *
        clear q0 q1 q2 q3 f0 f1
        go_wp2_with fail
        go_loopg [13, 71] len0 (fun gg v i wr => ∃ k : Nat, k ≤ len0 ∧ len0 - k ≤ gg ∧ i = .int .i64 k ∧ wr.ownsRow wh.heap.size 29 2 v ((z0.take k).filter isOth).length (psV ((z0.take k).filter isOth)) ∧ Below wh.heap.size wh wr)
        case atStart => exact ⟨0, by omega, by omega, rfl, World.ownsRow_nil _ _ _ _, Below.refl _ _⟩
        case round =>
          obtain ⟨k, hk, hgg, rfl, hv, hbl⟩ := hrel
          by_cases hlt : k < len0
          · obtain ⟨b, o, hz, hx⟩ := (WH.out.below hbl).split
            obtain rfl : a0 = some ⟨b, o, none⟩ := hz.resolve_left (by omega)
            obtain ⟨hbs, q0, q1⟩ := hx k hlt
            have F1 := hidp (filt_step z0 k (by rw [LN.out]; exact hlt))
            have f1 : ((z0.take k).filter isOth).length ≤ k := Nat.le_trans (List.length_filter_le _ _) (List.length_take_le _ _)
            have s0 : (wr.alloc (.cells #[.string (pk z0 k), .string (pv z0 k)] 29)).cell? ⟨wr.heap.size, 0, none⟩ = some (.string (pk z0 k)) := by go_simp
            have s1 : (wr.alloc (.cells #[.string (pk z0 k), .string (pv z0 k)] 29)).cell? ⟨wr.heap.size, 1, none⟩ = some (.string (pv z0 k)) := by go_simp
            have hv4 := hidp (hv.alloc (.cells #[.string (pk z0 k), .string (pv z0 k)] 29))
            have hb4 : Below wh.heap.size wh (wr.alloc (.cells #[.string (pk z0 k), .string (pv z0 k)] 29)) := bal hbl _
            clear hx hz hv hbl
            go_upto_region 18 with fail
            generalize (wr.alloc (.cells #[.string (pk z0 k), .string (pv z0 k)] 29)) = w4 at *
            generalize wr.heap.size = X4 at *
            by_cases e1 : pk z0 k = txtTh
            · have F2 := hidp (show (z0.take (k + 1)).filter isOth = (z0.take k).filter isOth by rw [F1.out, if_neg (by unfold isOth; simp [e1]), List.append_nil])
              rw [e1] at s0
              clear e1 F1
              go_wp2_with fail
              go_roundg (len0 - (k + 1))
              case measure => omega
              case rel => exact ⟨k + 1, by omega, by omega, by go_num, by rw [F2.out]; exact hv4.out, hb4⟩
            · by_cases e2 : pk z0 k = txtRv
              · have F2 := hidp (show (z0.take (k + 1)).filter isOth = (z0.take k).filter isOth by rw [F1.out, if_neg (by unfold isOth; simp [e2]), List.append_nil])
                rw [e2] at s0
                clear e1 e2 F1
                go_wp2_with fail
                go_roundg (len0 - (k + 1))
                case measure => omega
                case rel => exact ⟨k + 1, by omega, by omega, by go_num, by rw [F2.out]; exact hv4.out, hb4⟩
              · have F2 := hidp (show (z0.take (k + 1)).filter isOth = (z0.take k).filter isOth ++ [(pk z0 k, pv z0 k)] by rw [F1.out, if_pos (by unfold isOth; simp [e1, e2])])
                have g1 := thN e1
                have g2 := rvN e2
                have g3 := thF e1
                have g4 := rvF e2
                clear e1 e2 F1
                generalize (z0.take k).filter isOth = R at *
                generalize pk z0 k = s at *
                generalize pv z0 k = v at *
                have hgs := hb4.size
                go_wp2_with (at_builtin; refine wpList_append_new rfl (.tmp 83) (.tmp 85) 22 rfl wh.heap.size 29 _ 2 32 info_pair rfl (by decide) Try.underlying22 _ R.length _ rfl hv4.out rfl (one_twoS _ _) rfl rfl (by omega) (by decide) hgs ?_; intro v0 x0 nw gr0 dd0)
                go_roundg (len0 - (k + 1))
                case measure => omega
                case rel => exact ⟨k + 1, by omega, by omega, by go_num, by rw [F2.out, psV_snoc, List.length_append]; exact nw, append_step hv4.out hb4 (Nat.le_refl _) gr0⟩
          · obtain rfl : k = len0 := by omega
            rw [show (z0.take k).filter isOth = F by rw [List.take_of_length_le (by rw [LN.out]; exact Nat.le_refl _)]; exact FE.out.symm] at hv
            obtain ⟨ao, co, hve, hO⟩ := owns_pairs hv (ZH.out.sz)
            subst hve
            have OH := hidp hO
            obtain ⟨m0, m1, m2, m3, _⟩ := MH.out.below hbl
            obtain ⟨n0, n1, n2, n3, _⟩ := NH.out.below hbl
            have hfin := hidp (bstep hwh.out hbl)
            have X5 := hidp (XH.out.below hbl)
            have Y5 := hidp (YH.out.below hbl)
            have Z5 := hidp (ZH.out.below hbl)
            clear hv hO hbl
            go_wp2_with fail
            refine (eqp_c _ _ _ _ _ X _ Y5.out X5.out).mono ?_
            rintro e wi ⟨rfl, hbi⟩
            have X6 := hidp (X5.out.below hbi)
            have Z6 := hidp (Z5.out.below hbi)
            have O6 := hidp (OH.out.below hbi)
            have hf6 := hidp (bstep hfin.out hbi)
            clear hbi
            go_wp2_with fail
            refine (eqp_c _ _ _ _ _ F _ Z6.out O6.out).mono ?_
            rintro e wj ⟨rfl, hbj⟩
            have X7 := hidp (X6.out.below hbj)
            have hf7 := hidp (bstep hf6.out hbj)
            clear hbj
            go_wp2_with fail
            refine (CX.out _ X7.out).mono ?_
            rintro e wk ⟨rfl, hbk⟩
            have hf8 := bstep hf7.out hbk
            clear hbk
            go_wp2_with fail
            go_ret
            exact ⟨rfl, hf8⟩

      · have e1 : mt = th := HMT.out
        have e2 : mr = 0 := HMR.out
        subst e1 e2
        have MH := hidp ((SG.out.set1 0))
        have NH := hidp ((SNG.out.far ⟨w.heap.size, 1, none⟩ (show w.heap.size ≠ Pn by omega) (.int .i64 0)))
        have XH := hidp ((XG.out.setF ⟨w.heap.size, 1, none⟩ NX.out (.int .i64 0)))
        have YH := hidp ((YG.out.setF ⟨w.heap.size, 1, none⟩ NY.out (.int .i64 0)))
        have ZH := hidp ((ZG.out.setF ⟨w.heap.size, 1, none⟩ NZ.out (.int .i64 0)))
        have WH := hidp ((WG.out.setF ⟨w.heap.size, 1, none⟩ NW.out (.int .i64 0)))
        have hwh := hidp ((hwg.out.setCell (p := ⟨w.heap.size, 1, none⟩) (Nat.le_refl _) (.int .i64 0)))
        clear SG SNG XG YG ZG WG hwg NX NY NZ NW
        go_upto_region 15 with fail
        generalize (wg.setCell ⟨w.heap.size, 1, none⟩ (.int .i64 0)) = wh at *
        clear q0 q1 q2 q3 f0 f1
        go_wp2_with fail
        go_loopg [13, 71] len0 (fun gg v i wr => ∃ k : Nat, k ≤ len0 ∧ len0 - k ≤ gg ∧ i = .int .i64 k ∧ wr.ownsRow wh.heap.size 29 2 v ((z0.take k).filter isOth).length (psV ((z0.take k).filter isOth)) ∧ Below wh.heap.size wh wr)
        case atStart => exact ⟨0, by omega, by omega, rfl, World.ownsRow_nil _ _ _ _, Below.refl _ _⟩
        case round =>
          obtain ⟨k, hk, hgg, rfl, hv, hbl⟩ := hrel
          by_cases hlt : k < len0
          · obtain ⟨b, o, hz, hx⟩ := (WH.out.below hbl).split
            obtain rfl : a0 = some ⟨b, o, none⟩ := hz.resolve_left (by omega)
            obtain ⟨hbs, q0, q1⟩ := hx k hlt
            have F1 := hidp (filt_step z0 k (by rw [LN.out]; exact hlt))
            have f1 : ((z0.take k).filter isOth).length ≤ k := Nat.le_trans (List.length_filter_le _ _) (List.length_take_le _ _)
            have s0 : (wr.alloc (.cells #[.string (pk z0 k), .string (pv z0 k)] 29)).cell? ⟨wr.heap.size, 0, none⟩ = some (.string (pk z0 k)) := by go_simp
            have s1 : (wr.alloc (.cells #[.string (pk z0 k), .string (pv z0 k)] 29)).cell? ⟨wr.heap.size, 1, none⟩ = some (.string (pv z0 k)) := by go_simp
            have hv4 := hidp (hv.alloc (.cells #[.string (pk z0 k), .string (pv z0 k)] 29))
            have hb4 : Below wh.heap.size wh (wr.alloc (.cells #[.string (pk z0 k), .string (pv z0 k)] 29)) := bal hbl _
            clear hx hz hv hbl
            go_upto_region 18 with fail
            generalize (wr.alloc (.cells #[.string (pk z0 k), .string (pv z0 k)] 29)) = w4 at *
            generalize wr.heap.size = X4 at *
            by_cases e1 : pk z0 k = txtTh
            · have F2 := hidp (show (z0.take (k + 1)).filter isOth = (z0.take k).filter isOth by rw [F1.out, if_neg (by unfold isOth; simp [e1]), List.append_nil])
              rw [e1] at s0
              clear e1 F1
              go_wp2_with fail
              go_roundg (len0 - (k + 1))
              case measure => omega
              case rel => exact ⟨k + 1, by omega, by omega, by go_num, by rw [F2.out]; exact hv4.out, hb4⟩
            · by_cases e2 : pk z0 k = txtRv
              · have F2 := hidp (show (z0.take (k + 1)).filter isOth = (z0.take k).filter isOth by rw [F1.out, if_neg (by unfold isOth; simp [e2]), List.append_nil])
                rw [e2] at s0
                clear e1 e2 F1
                go_wp2_with fail
                go_roundg (len0 - (k + 1))
                case measure => omega
                case rel => exact ⟨k + 1, by omega, by omega, by go_num, by rw [F2.out]; exact hv4.out, hb4⟩
              · have F2 := hidp (show (z0.take (k + 1)).filter isOth = (z0.take k).filter isOth ++ [(pk z0 k, pv z0 k)] by rw [F1.out, if_pos (by unfold isOth; simp [e1, e2])])
                have g1 := thN e1
                have g2 := rvN e2
                have g3 := thF e1
                have g4 := rvF e2
                clear e1 e2 F1
                generalize (z0.take k).filter isOth = R at *
                generalize pk z0 k = s at *
                generalize pv z0 k = v at *
                have hgs := hb4.size
                go_wp2_with (at_builtin; refine wpList_append_new rfl (.tmp 83) (.tmp 85) 22 rfl wh.heap.size 29 _ 2 32 info_pair rfl (by decide) Try.underlying22 _ R.length _ rfl hv4.out rfl (one_twoS _ _) rfl rfl (by omega) (by decide) hgs ?_; intro v0 x0 nw gr0 dd0)
                go_roundg (len0 - (k + 1))
                case measure => omega
                case rel => exact ⟨k + 1, by omega, by omega, by go_num, by rw [F2.out, psV_snoc, List.length_append]; exact nw, append_step hv4.out hb4 (Nat.le_refl _) gr0⟩
          · obtain rfl : k = len0 := by omega
            rw [show (z0.take k).filter isOth = F by rw [List.take_of_length_le (by rw [LN.out]; exact Nat.le_refl _)]; exact FE.out.symm] at hv
            obtain ⟨ao, co, hve, hO⟩ := owns_pairs hv (ZH.out.sz)
            subst hve
            have OH := hidp hO
            obtain ⟨m0, m1, m2, m3, _⟩ := MH.out.below hbl
            obtain ⟨n0, n1, n2, n3, _⟩ := NH.out.below hbl
            have hfin := hidp (bstep hwh.out hbl)
            have X5 := hidp (XH.out.below hbl)
            have Y5 := hidp (YH.out.below hbl)
            have Z5 := hidp (ZH.out.below hbl)
            clear hv hO hbl
            go_wp2_with fail
            refine (eqp_c _ _ _ _ _ X _ Y5.out X5.out).mono ?_
            rintro e wi ⟨rfl, hbi⟩
            have X6 := hidp (X5.out.below hbi)
            have Z6 := hidp (Z5.out.below hbi)
            have O6 := hidp (OH.out.below hbi)
            have hf6 := hidp (bstep hfin.out hbi)
            clear hbi
            go_wp2_with fail
            refine (eqp_c _ _ _ _ _ F _ Z6.out O6.out).mono ?_
            rintro e wj ⟨rfl, hbj⟩
            have X7 := hidp (X6.out.below hbj)
            have hf7 := hidp (bstep hf6.out hbj)
            clear hbj
            go_wp2_with fail
            refine (CX.out _ X7.out).mono ?_
            rintro e wk ⟨rfl, hbk⟩
            have hf8 := bstep hf7.out hbk
            clear hbk
            go_wp2_with fail
            go_ret
            exact ⟨rfl, hf8⟩

      · have e1 : mt = th := HMT.out
        have e2 : mr = rv := HMR.out
        subst e1 e2
        have MH := hidp (SG.out)
        have NH := hidp (SNG.out)
        have XH := hidp (XG.out)
        have YH := hidp (YG.out)
        have ZH := hidp (ZG.out)
        have WH := hidp (WG.out)
        have hwh := hidp (hwg.out)
        clear SG SNG XG YG ZG WG hwg NX NY NZ NW
        go_upto_region 15 with fail
        obtain ⟨wh, hwe⟩ : ∃ wh, wh = wg := ⟨_, rfl⟩
        rw [← hwe] at MH NH XH YH ZH WH hwh ⊢
        clear q0 q1 q2 q3 f0 f1 hwe
        go_wp2_with fail
        go_loopg [13, 71] len0 (fun gg v i wr => ∃ k : Nat, k ≤ len0 ∧ len0 - k ≤ gg ∧ i = .int .i64 k ∧ wr.ownsRow wh.heap.size 29 2 v ((z0.take k).filter isOth).length (psV ((z0.take k).filter isOth)) ∧ Below wh.heap.size wh wr)
        case atStart => exact ⟨0, by omega, by omega, rfl, World.ownsRow_nil _ _ _ _, Below.refl _ _⟩
        case round =>
          obtain ⟨k, hk, hgg, rfl, hv, hbl⟩ := hrel
          by_cases hlt : k < len0
          · obtain ⟨b, o, hz, hx⟩ := (WH.out.below hbl).split
            obtain rfl : a0 = some ⟨b, o, none⟩ := hz.resolve_left (by omega)
            obtain ⟨hbs, q0, q1⟩ := hx k hlt
            have F1 := hidp (filt_step z0 k (by rw [LN.out]; exact hlt))
            have f1 : ((z0.take k).filter isOth).length ≤ k := Nat.le_trans (List.length_filter_le _ _) (List.length_take_le _ _)
            have s0 : (wr.alloc (.cells #[.string (pk z0 k), .string (pv z0 k)] 29)).cell? ⟨wr.heap.size, 0, none⟩ = some (.string (pk z0 k)) := by go_simp
            have s1 : (wr.alloc (.cells #[.string (pk z0 k), .string (pv z0 k)] 29)).cell? ⟨wr.heap.size, 1, none⟩ = some (.string (pv z0 k)) := by go_simp
            have hv4 := hidp (hv.alloc (.cells #[.string (pk z0 k), .string (pv z0 k)] 29))
            have hb4 : Below wh.heap.size wh (wr.alloc (.cells #[.string (pk z0 k), .string (pv z0 k)] 29)) := bal hbl _
            clear hx hz hv hbl
            go_upto_region 18 with fail
            generalize (wr.alloc (.cells #[.string (pk z0 k), .string (pv z0 k)] 29)) = w4 at *
            generalize wr.heap.size = X4 at *
            by_cases e1 : pk z0 k = txtTh
            · have F2 := hidp (show (z0.take (k + 1)).filter isOth = (z0.take k).filter isOth by rw [F1.out, if_neg (by unfold isOth; simp [e1]), List.append_nil])
              rw [e1] at s0
              clear e1 F1
              go_wp2_with fail
              go_roundg (len0 - (k + 1))
              case measure => omega
              case rel => exact ⟨k + 1, by omega, by omega, by go_num, by rw [F2.out]; exact hv4.out, hb4⟩
            · by_cases e2 : pk z0 k = txtRv
              · have F2 := hidp (show (z0.take (k + 1)).filter isOth = (z0.take k).filter isOth by rw [F1.out, if_neg (by unfold isOth; simp [e2]), List.append_nil])
                rw [e2] at s0
                clear e1 e2 F1
                go_wp2_with fail
                go_roundg (len0 - (k + 1))
                case measure => omega
                case rel => exact ⟨k + 1, by omega, by omega, by go_num, by rw [F2.out]; exact hv4.out, hb4⟩
              · have F2 := hidp (show (z0.take (k + 1)).filter isOth = (z0.take k).filter isOth ++ [(pk z0 k, pv z0 k)] by rw [F1.out, if_pos (by unfold isOth; simp [e1, e2])])
                have g1 := thN e1
                have g2 := rvN e2
                have g3 := thF e1
                have g4 := rvF e2
                clear e1 e2 F1
                generalize (z0.take k).filter isOth = R at *
                generalize pk z0 k = s at *
                generalize pv z0 k = v at *
                have hgs := hb4.size
                go_wp2_with (at_builtin; refine wpList_append_new rfl (.tmp 83) (.tmp 85) 22 rfl wh.heap.size 29 _ 2 32 info_pair rfl (by decide) Try.underlying22 _ R.length _ rfl hv4.out rfl (one_twoS _ _) rfl rfl (by omega) (by decide) hgs ?_; intro v0 x0 nw gr0 dd0)
                go_roundg (len0 - (k + 1))
                case measure => omega
                case rel => exact ⟨k + 1, by omega, by omega, by go_num, by rw [F2.out, psV_snoc, List.length_append]; exact nw, append_step hv4.out hb4 (Nat.le_refl _) gr0⟩
          · obtain rfl : k = len0 := by omega
            rw [show (z0.take k).filter isOth = F by rw [List.take_of_length_le (by rw [LN.out]; exact Nat.le_refl _)]; exact FE.out.symm] at hv
            obtain ⟨ao, co, hve, hO⟩ := owns_pairs hv (ZH.out.sz)
            subst hve
            have OH := hidp hO
            obtain ⟨m0, m1, m2, m3, _⟩ := MH.out.below hbl
            obtain ⟨n0, n1, n2, n3, _⟩ := NH.out.below hbl
            have hfin := hidp (bstep hwh.out hbl)
            have X5 := hidp (XH.out.below hbl)
            have Y5 := hidp (YH.out.below hbl)
            have Z5 := hidp (ZH.out.below hbl)
            clear hv hO hbl
            go_wp2_with fail
            refine (eqp_c _ _ _ _ _ X _ Y5.out X5.out).mono ?_
            rintro e wi ⟨rfl, hbi⟩
            have X6 := hidp (X5.out.below hbi)
            have Z6 := hidp (Z5.out.below hbi)
            have O6 := hidp (OH.out.below hbi)
            have hf6 := hidp (bstep hfin.out hbi)
            clear hbi
            go_wp2_with fail
            refine (eqp_c _ _ _ _ _ F _ Z6.out O6.out).mono ?_
            rintro e wj ⟨rfl, hbj⟩
            have X7 := hidp (X6.out.below hbj)
            have hf7 := hidp (bstep hf6.out hbj)
            clear hbj
            go_wp2_with fail
            refine (CX.out _ X7.out).mono ?_
            rintro e wk ⟨rfl, hbk⟩
            have hf8 := bstep hf7.out hbk
            clear hbk
            go_wp2_with fail
            go_ret
            exact ⟨rfl, hf8⟩

    · rw [hE]
      have hfin := hwc.out
      go_wp2_with fail
      go_ret
      exact ⟨rfl, hfin⟩
  · have SB2 := hidp (fun W (hW : Below wb.heap.size wb W) => set_bad a0 len0 cap0 z0 th rv ht hr W (W1.out.below hW) hg)
    have hE : setE z0 th rv ht hr ≠ 0 := by
      unfold setE
      by_cases h1 : chkE z0 = 0
      · rw [if_pos h1, if_neg (fun h2 => hg ⟨h1, h2⟩)]; omega
      · rw [if_neg h1]; exact h1
    have hne : (setE z0 th rv ht hr != 0) = true := by simpa using hE
    clear hg hE
    generalize setE z0 th rv ht hr = E at *
    unfold markV at SB2
    go_wp2_with fail
    refine (SB2.out _ (Below.refl _ _)).mono ?_
    rintro e wc ⟨rfl, hbc⟩
    have hfin := bstep hwb.out hbc
    clear hbc q0 q1 q2 q3
    go_wp2_with fail
    go_ret
    exact ⟨rfl, hfin⟩
end Go.Proofs.Ytmlkhiffmkkmdaa.stateSet
