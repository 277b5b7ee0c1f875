/- The walk of RegsOrder: the law returns true at all inputs, and no old memory changes. -/
import Derived.Test.YtpghnbpoodcglaaRegs
namespace Go.Proofs.Ytpghnbpoodcglaa.regsOrder
open Go.ChangeShapes Go.WideShapes Go.ChangeAt Go.RowKit
open Go.Proofs.Ytpghnbpoodcglaa
set_option maxRecDepth 20000

def rowF (xs : List Int) (n : Nat) (i : Nat) : Int := if i < n then wi (gi xs i) 58 else 0
theorem rowF_bd (xs : List Int) (n : Nat) (i : Nat) : 0 ≤ rowF xs n i ∧ rowF xs n i ≤ 57 := by
  unfold rowF
  split
  · have := wi_lo (gi xs i) 58 (by omega)
    have := wi_hi (gi xs i) 58 (by omega)
    omega
  · omega
theorem row_ok (xs : List Int) (n K : Nat) (hK : rgN K) : RegOk (tab (rowF xs n) K) K := ⟨hK, fun i hi => by rw [tab_gi _ _ _ hi]; exact rowF_bd xs n i⟩
set_option maxHeartbeats 2000000 in
theorem row_c (a : Option Addr) (n c : Nat) (xs : List Int) (p K : Nat) (w : World) (h : IntsAt w a n c xs) (hK : K ≤ 1000) (cp : w.cell? ⟨p, 0, none⟩ = some (.int .i64 K)) :
    Calls Try.prog 17 #[.slice a n c, .pointer (some ⟨p, 0, none⟩)] w fun e w' => ∃ v, e = .returned v ∧ w'.ownsRow w.heap.size 3 1 v K ((tab (rowF xs n) K).map (Value.int .i64)) ∧ Below w.heap.size w w' := by
  obtain ⟨ib, hib, hz0, hz1, hz2⟩ := info_parts info_int
  obtain ⟨b, o, hz, hx⟩ := h.split
  have hz' : Hid (n = 0) ∨ a = some ⟨b, o, none⟩ := hz.imp_left hidp
  have HX := hidp hx
  have mm := h.max
  have ee := h.le
  clear hx hz h
  go_enter Try.func17, Try.ntmps17
  go_wp2_with (at_make; refine wpList_make_full w rfl _ _ 22 rfl w.heap.size 3 ib (.int .i64 0) 1 Try.underlying22 hib hz0 hz1 .i64 .i64 K K K rfl rfl rfl rfl (by rw [hz2]; omega) (by unfold maxLen; omega) (Nat.le_refl _) ?_; intro wb how hgr)
  have hbb : Below w.heap.size w wb := below_new hgr
  have e0 : (madeCells (Value.int .i64 0).cells (K * 1)).toList = tab (fun j => Value.int .i64 (if j < 0 then rowF xs n j else 0)) K := by
    show (madeCells #[Value.int .i64 0] (K * 1)).toList = _
    rw [made_tab]
    exact tab_congr _ _ _ (fun i _ => by rw [if_neg (by omega)])
  rw [e0] at how
  clear e0 hgr
  generalize hgg : w.heap.size = g at *
  have HG := hidp hgg
  have HXB := hidp (fun (wr : World) (hb : Below g w wr) k (hk : k < n) => show wr.cell? ⟨b, o + k, none⟩ = some (.int .i64 (gi xs k)) from carry_cell ⟨by rw [hgg]; exact (HX.out k hk).1, (HX.out k hk).2⟩ (by rw [hgg]; exact hb))
  clear hgg
  go_loopw [10] (fun i wr => ∃ k : Nat, k ≤ K ∧ i = .int .i64 k ∧ wr.ownsRow g 3 1 (.slice (some ⟨g, 0, none⟩) K K) K (tab (fun j => Value.int .i64 (if j < k then rowF xs n j else 0)) K) ∧ Below g w wr) (fun i _ => K - (intOf i).toNat)
  case atStart => exact ⟨0, by omega, rfl, how, hbb⟩
  case round =>
    obtain ⟨k, hk, rfl, ho, hbl⟩ := hrel
    by_cases hlt : k < K
    · have q3 := ho.frozenAt k
      have q4 := ho.cellAt k (by omega)
      rw [tab_get _ _ _ hlt] at q4
      have REL := hidp (fun (v : Int) (hv : v = rowF xs n k) (hst : (wr.setCell ⟨g, k, none⟩ (.int .i64 v)).ownsRow g 3 1 (.slice (some ⟨g, 0, none⟩) K K) K (tab (fun j => if j = k then Value.int .i64 v else Value.int .i64 (if j < k then rowF xs n j else 0)) K)) =>
        show (wr.setCell ⟨g, k, none⟩ (.int .i64 v)).ownsRow g 3 1 (.slice (some ⟨g, 0, none⟩) K K) K (tab (fun j => Value.int .i64 (if j < k + 1 then rowF xs n j else 0)) K) by
          rw [tab_congr _ (fun j => if j = k then Value.int .i64 v else Value.int .i64 (if j < k then rowF xs n j else 0)) K (fun j _ => by
            by_cases e : j = k
            · rw [if_pos e, if_pos (by omega), e, hv]
            · rw [if_neg e]
              by_cases e2 : j < k
              · rw [if_pos e2, if_pos (by omega)]
              · rw [if_neg e2, if_neg (by omega)])]
          exact hst)
      by_cases hkn : k < n
      · obtain rfl : a = some ⟨b, o, none⟩ := hz'.resolve_left (fun e => by have := e.out; omega)
        have q := HXB.out wr hbl k hkn
        have R := hidp (show wi (gi xs k) 58 = rowF xs n k by unfold rowF; rw [if_pos hkn])
        go_wp2_with (go_at_call 16; refine (within_c _ _ (by omega) (by omega) _).mono ?_; rintro e w' ⟨rfl, rfl⟩)
        go_roundw
        case rel => exact ⟨k + 1, by omega, by go_num, REL.out _ R.out (own_store_tab ho k _), hbl.setCell (p := ⟨g, k, none⟩) (Nat.le_refl _) _⟩
        case measure => simp [intOf]; omega
      · have R := hidp (show 0 = rowF xs n k by unfold rowF; rw [if_neg hkn])
        go_wp2_with fail
        go_roundw
        case rel =>
          refine ⟨k + 1, by omega, by go_num, ?_, hbl⟩
          rw [tab_congr _ (fun j => Value.int .i64 (if j < k then rowF xs n j else 0)) K (fun j _ => by
            by_cases e : j = k
            · rw [if_pos (by omega), if_neg (by omega), e, R.out]
            · by_cases e2 : j < k
              · rw [if_pos e2, if_pos (by omega)]
              · rw [if_neg e2, if_neg (by omega)])]
          exact ho
        case measure => simp [intOf]; omega
    · obtain rfl : k = K := by omega
      go_wp2
      go_ret
      rw [HG.out]
      refine ⟨_, rfl, ?_, hbl⟩
      rw [tab_map, tab_congr (fun j => Value.int .i64 (rowF xs n j)) (fun j => Value.int .i64 (if j < k then rowF xs n j else 0)) k (fun j hj => by rw [if_pos hj])]
      exact ho
/-- The plain laws. -/
theorem both (X Y Z : List Int) (K : Nat) (hz : Z.length = K) : fitB (tab (mxF X Y) K) Z K = (fitB X Z K && fitB Y Z K) := by
  rw [Bool.eq_iff_iff, Bool.and_eq_true, fitB_iff _ _ _ hz, fitB_iff _ _ _ hz, fitB_iff _ _ _ hz]
  constructor
  · intro h
    refine ⟨fun i hi => ?_, fun i hi => ?_⟩ <;>
    · have := h i hi
      rw [tab_gi _ _ _ hi] at this
      unfold mxF at this
      omega
  · rintro ⟨h1, h2⟩ i hi
    rw [tab_gi _ _ _ hi]
    have := h1 i hi
    have := h2 i hi
    unfold mxF
    omega
theorem anti (X Y : List Int) (K : Nat) (hx : X.length = K) (hy : Y.length = K) : (fitB X Y K && fitB Y X K) = decide (X = Y) := by
  rw [Bool.eq_iff_iff, Bool.and_eq_true, fitB_iff _ _ _ hy, fitB_iff _ _ _ hx, decide_eq_true_eq]
  constructor
  · rintro ⟨h1, h2⟩
    refine gi_ext _ _ (by rw [hx, hy]) (fun j hj => ?_)
    have := h1 j (by omega)
    have := h2 j (by omega)
    omega
  · rintro rfl
    exact ⟨fun i _ => Int.le_refl _, fun i _ => Int.le_refl _⟩
theorem two_K (m : Nat) (h : m < 5) : rgN (2 ^ m) := by
  have : ∀ m, m < 5 → rgN (2 ^ m) := by decide +kernel
  exact this m h

set_option linter.unusedVariables false
set_option maxHeartbeats 8000000 in
theorem walk (a0 : Option Addr) (len0 cap0 : Nat) (z0 : List Int) (a1 : Option Addr) (len1 cap1 : Nat) (z1 : List Int) (a2 : Option Addr) (len2 cap2 : Nat) (z2 : List Int) (a3 : Int) (w : World)
    (w0 : IntsAt w a0 len0 cap0 z0) (w1 : IntsAt w a1 len1 cap1 z1) (w2 : IntsAt w a2 len2 cap2 z2) (w3 : (Lit.int .i64 a3).wf = true) :
    Calls Try.prog 3 #[.slice a0 len0 cap0, .slice a1 len1 cap1, .slice a2 len2 cap2, .int .i64 a3] w fun e w' => e = .returned (.bool true) ∧ Below w.heap.size w w' := by
  obtain ⟨m, hm⟩ : ∃ m, m = wn a3 5 := ⟨_, rfl⟩
  have hm1 := wn_lt a3 5 (by omega)
  have cm := withinN_c a3 5 (by omega) (by omega)
  rw [← hm] at hm1 cm
  have CM := hidp cm
  have hKN := two_K m (by omega)
  have hpw : (1 : Int) * 2 ^ m = ((2 ^ m : Nat) : Int) := by rw [Int.natCast_pow]; simp
  have HPW := hidp hpw
  have hK16 : 2 ^ m ≤ 16 ∧ 1 ≤ 2 ^ m := by unfold rgN at hKN; omega
  obtain ⟨K, hK⟩ : ∃ K, K = 2 ^ m := ⟨_, rfl⟩
  rw [← hK] at hKN hK16
  have HK := hidp hK
  clear hm cm hpw hK w3
  go_enter Try.func3, Try.ntmps3
  go_wp2_with fail
  refine (rfit_c _ _ 1 _ _ [1] [2] _ ?s0 ?s1 ?s2 ?s3).mono ?_
  case s0 => exact (ints_lit [1] (by simp) (by rfl) (by rfl) (by simp) (by omega)).alloc _
  case s1 => exact ints_lit [2] (by simp) (by rfl) (by rfl) (by simp) (by omega)
  case s2 => exact ⟨.inl rfl, fun i hi => by obtain rfl : i = 0 := by omega
                                             decide⟩
  case s3 => exact ⟨.inl rfl, fun i hi => by obtain rfl : i = 0 := by omega
                                             decide⟩
  rintro e wa ⟨rfl, hba⟩
  rw [show fitB [1] [2] 1 = true by decide +kernel]
  have hwa : Below w.heap.size w wa := bstep (bal (bal (Below.refl _ _) _) _) hba
  clear hba
  go_wp2_with fail
  refine (CM.out _).mono ?_
  rintro e w' ⟨rfl, rfl⟩
  have hwK2 : wrap64 (2 ^ m) = (K : Int) := by
    have e : ((2 : Int) ^ m) = (K : Int) := by rw [HK.out, Int.natCast_pow]; rfl
    rw [e]
    exact IntWalk.wrap64_in _ (by constructor <;> omega)
  have hpc : ∀ W, Below (wa.alloc (.cells #[.int .i64 (wrap64 (2 ^ m))] 3)).heap.size (wa.alloc (.cells #[.int .i64 (wrap64 (2 ^ m))] 3)) W → W.cell? ⟨wa.heap.size, 0, none⟩ = some (.int .i64 (K : Int)) := fun W hW => by
    refine ck hW ?_
    unfold World.cell?
    rw [heap_alloc_new, ← hwK2]
    rfl
  have PC := hidp hpc
  have hwb : Below w.heap.size w (wa.alloc (.cells #[.int .i64 (wrap64 (2 ^ m))] 3)) := bal hwa _
  have RX := hidp (row_ok z0 len0 K hKN)
  have RY := hidp (row_ok z1 len1 K hKN)
  have RZ := hidp (row_ok z2 len2 K hKN)
  have W0 := hidp w0
  have W1 := hidp w1
  have W2 := hidp w2
  clear hwa hpc hwK2 w0 w1 w2 hKN HK HPW
  have hrest : ∀ (w1 : World) (P : World → Prop), P w1 → P w1 := fun _ _ h => h
  clear hrest
  have BB := hidp (Below.refl (wa.alloc (.cells #[.int .i64 (wrap64 (2 ^ m))] 3)).heap.size (wa.alloc (.cells #[.int .i64 (wrap64 (2 ^ m))] 3)))
  go_wp2_with (go_at_fn 17)
  refine (row_c _ _ _ _ _ K _ (W0.out.below hwb) (by omega) (PC.out _ BB.out)).mono ?_
  rintro e wc ⟨v, rfl, hv, hbc⟩
  obtain ⟨ax, cx, hve, hax⟩ := owns_regs hv RX.out
  subst hve
  clear hv
  have hwc := bstep hwb hbc
  have hpc := bstep BB.out hbc
  go_wp2_with (go_at_fn 17)
  refine (row_c _ _ _ _ _ K _ (W1.out.below hwc) (by omega) (PC.out _ hpc)).mono ?_
  rintro e wd ⟨v, rfl, hv, hbd⟩
  obtain ⟨ay, cy, hve, hay⟩ := owns_regs hv RY.out
  subst hve
  clear hv
  have hwd := bstep hwc hbd
  have hpd := bstep hpc hbd
  have hax := hax.below hbd
  go_wp2_with (go_at_fn 17)
  refine (row_c _ _ _ _ _ K _ (W2.out.below hwd) (by omega) (PC.out _ hpd)).mono ?_
  rintro e we ⟨v, rfl, hv, hbe⟩
  obtain ⟨az, cz, hve, haz⟩ := owns_regs hv RZ.out
  subst hve
  clear hv
  have hwe := bstep hwd hbe
  have hax := hax.below hbe
  have hay := hay.below hbe
  clear hbc hbd hbe hwb hwc hwd hpc hpd PC BB W0 W1 W2 CM
  obtain ⟨X, hX⟩ : ∃ X, X = tab (rowF z0 len0) K := ⟨_, rfl⟩
  obtain ⟨Y, hY⟩ : ∃ Y, Y = tab (rowF z1 len1) K := ⟨_, rfl⟩
  obtain ⟨Z, hZ⟩ : ∃ Z, Z = tab (rowF z2 len2) K := ⟨_, rfl⟩
  have lX : X.length = K := by rw [hX, tab_len]
  have lY : Y.length = K := by rw [hY, tab_len]
  have lZ : Z.length = K := by rw [hZ, tab_len]
  rw [← hX] at RX hax
  rw [← hY] at RY hay
  rw [← hZ] at RZ haz
  clear hX hY hZ
  have AN := hidp (anti X Y K lX lY)
  have BO := hidp (both X Y Z K lZ)
  have RJ := hidp (mx_ok X Y K RX.out RY.out)
  clear lX lY lZ
  go_wp2_with fail
  refine (rjoin_c _ _ _ _ _ _ _ _ hax hay RX.out RY.out).mono ?_
  rintro e wf ⟨v, rfl, hv, hbf⟩
  obtain ⟨aj, cj, hve, haj⟩ := owns_regs hv RJ.out
  subst hve
  have hax := hax.below hbf
  have hay := hay.below hbf
  have haz := haz.below hbf
  have hwf := bstep hwe hbf
  clear hv hbf hwe
  go_wp2_with fail
  refine (rfit_c _ _ _ _ _ _ _ _ haj haz RJ.out RZ.out).mono ?_
  rintro e wg ⟨rfl, hbg⟩
  rw [BO.out]
  have hax := hax.below hbg
  have hay := hay.below hbg
  have haz := haz.below hbg
  have hwg := bstep hwf hbg
  clear hbg hwf haj
  go_wp2_with fail
  refine (rfit_c _ _ _ _ _ _ _ _ hax haz RX.out RZ.out).mono ?_
  rintro e wh ⟨rfl, hbh⟩
  have hax := hax.below hbh
  have hay := hay.below hbh
  have haz := haz.below hbh
  have hwh := bstep hwg hbh
  clear hbh hwg
  go_wp2_with fail
  refine (rfit_c _ _ _ _ _ _ _ _ hay haz RY.out RZ.out).mono ?_
  rintro e wi ⟨rfl, hbi⟩
  have hax := hax.below hbi
  have hay := hay.below hbi
  have hwi := bstep hwh hbi
  clear hbi hwh haz
  go_wp2_with fail
  refine (rfit_c _ _ _ _ _ _ _ _ hax hay RX.out RY.out).mono ?_
  rintro e wj ⟨rfl, hbj⟩
  have hax := hax.below hbj
  have hay := hay.below hbj
  have hwj := bstep hwi hbj
  clear hbj hwi
  go_wp2_with fail
  refine (rfit_c _ _ _ _ _ _ _ _ hay hax RY.out RX.out).mono ?_
  rintro e wk ⟨rfl, hbk⟩
  have hax := hax.below hbk
  have hay := hay.below hbk
  have hwk := bstep hwj hbk
  clear hbk hwj
  have EQ := hidp (fun W h1 h2 => equali_c ax ay K K cx cy X Y W h1 h2)
  rw [← AN.out] at EQ
  generalize fitB X Z K = p at *
  generalize fitB Y Z K = q at *
  generalize fitB X Y K = u at *
  generalize fitB Y X K = v at *
  cases p <;> cases q <;> cases u <;> cases v <;>
  · go_wp2_with fail
    refine (EQ.out _ hax hay).mono ?_
    rintro e wl ⟨rfl, hbl⟩
    go_wp2_with fail
    go_ret
    exact ⟨rfl, bstep hwk hbl⟩
end Go.Proofs.Ytpghnbpoodcglaa.regsOrder
