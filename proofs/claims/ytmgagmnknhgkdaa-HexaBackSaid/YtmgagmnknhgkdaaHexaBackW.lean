/- The walk of HexaBack: the law returns true at all inputs, and no old memory changes. -/
import Derived.Test.YtmgagmnknhgkdaaParseTh
namespace Go.Proofs.Ytmgagmnknhgkdaa.hexaBack
open Go.ChangeShapes Go.WideShapes Go.ChangeAt Go.RowKit
open Go.Proofs.Ytmgagmnknhgkdaa

theorem th_8 (w : World) : Calls Try.prog 20 #[.int .i64 36028797018963968] w fun e w' => e = .returned (.tuple #[.string ⟨#[56]⟩, .int .i64 0]) ∧ Below w.heap.size w w' := by
  refine (th_c 36028797018963968 (by omega) w).mono ?_
  rintro e w' ⟨m, h1, h2, rfl, hH, hb⟩
  have e1 : m = 1 := trim_same 36028797018963968 m 1 h1 (by omega) h2 (by omega) hH.out.1 (fun j h1 h2 => (show ∀ j, j < 14 → 1 ≤ j → hd 36028797018963968 j = 48 by decide +kernel) j h2 h1) hH.out.2 (.inl rfl)
  subst e1
  exact ⟨by rw [show hexB 36028797018963968 1 = ⟨#[56]⟩ by decide +kernel], hb⟩
theorem hex_last (n m : Nat) (h1 : 1 ≤ m) : byt (hexB n m) (m - 1) = (hd n (m - 1)).toNat := byt_hex n m (m - 1) (by omega)
theorem read_th (n m : Nat) (hn : n < 72057594037927936) (h1 : 1 ≤ m) (h2 : m ≤ 14) (hz : ∀ j, m ≤ j → j < 14 → hd n j = 48) (ht : m = 1 ∨ hd n (m - 1) ≠ 48) : thV (hexB n m) = n ∧ thE (hexB n m) = 0 := by
  have hk : thOk (hexB n m) = true := by
    unfold thOk
    rw [hex_ok, hexB_size, decide_eq_true]
    · rfl
    · refine ⟨h1, h2, ht.imp id (fun h => ?_)⟩
      rw [hex_last n m h1]
      intro e
      apply h
      exact UInt8.toNat_inj.1 (by rw [e]; rfl)
  unfold thV thE
  rw [if_pos hk, if_pos hk]
  exact ⟨by unfold pvI; rw [hex_read n m hn hz], rfl⟩
theorem read_rv (n : Nat) (hn : n < 72057594037927936) : rvV (hexB n 14) = n ∧ rvE (hexB n 14) = 0 := by
  have hk : rvOk (hexB n 14) = true := by
    unfold rvOk
    rw [hex_ok, hexB_size]; rfl
  unfold rvV rvE
  rw [if_pos hk, if_pos hk]
  exact ⟨by unfold pvI; rw [hex_read n 14 hn (fun j h1 h2 => by omega)], rfl⟩
theorem list_hex (n m : Nat) : (hexB n m).toList = tab (hd n) m := by rw [ByteArray.toList_eq]; rfl

theorem ptT (s : ByteArray) (h : thOk s = true) (W : World) : Calls Try.prog 23 #[.string s] W fun e w' => e = .returned (.tuple #[.int .i64 (pvD (dgt s) 14 : Nat), .int .i64 0]) ∧ W = w' := by
  have := parseTh_c s W
  rw [show thV s = (pvD (dgt s) 14 : Nat) by unfold thV; rw [if_pos h]; rfl, show thE s = 0 by unfold thE; rw [if_pos h]] at this
  exact this
theorem ptF (s : ByteArray) (h : thOk s = false) (W : World) : Calls Try.prog 23 #[.string s] W fun e w' => e = .returned (.tuple #[.int .i64 0, .int .i64 3]) ∧ W = w' := by
  have := parseTh_c s W
  rw [show thV s = 0 by unfold thV; rw [h]; rfl, show thE s = 3 by unfold thE; rw [h]; rfl] at this
  exact this
theorem prT (s : ByteArray) (h : rvOk s = true) (W : World) : Calls Try.prog 24 #[.string s] W fun e w' => e = .returned (.tuple #[.int .i64 (pvD (dgt s) 14 : Nat), .int .i64 0]) ∧ W = w' := by
  have := parseRv_c s W
  rw [show rvV s = (pvD (dgt s) 14 : Nat) by unfold rvV; rw [if_pos h]; rfl, show rvE s = 0 by unfold rvE; rw [if_pos h]] at this
  exact this
theorem prF (s : ByteArray) (h : rvOk s = false) (W : World) : Calls Try.prog 24 #[.string s] W fun e w' => e = .returned (.tuple #[.int .i64 0, .int .i64 3]) ∧ W = w' := by
  have := parseRv_c s W
  rw [show rvV s = 0 by unfold rvV; rw [h]; rfl, show rvE s = 3 by unfold rvE; rw [h]; rfl] at this
  exact this
theorem th_read (s : ByteArray) (h : thOk s = true) (W : World) : Calls Try.prog 20 #[.int .i64 (pvD (dgt s) 14 : Nat)] W fun e w' => e = .returned (.tuple #[.string s, .int .i64 0]) ∧ Below W.heap.size W w' := by
  have h' : pOk s 14 = true ∧ 1 ≤ s.size ∧ s.size ≤ 14 ∧ (s.size = 1 ∨ byt s (s.size - 1) ≠ 48) := by simpa [thOk] using h
  obtain ⟨t1, t2, t3, t4⟩ := h'
  refine (th_c (pvD (dgt s) 14) (read_lt s t1) W).mono ?_
  rintro e w' ⟨m, h1, h2, rfl, hH, hb⟩
  exact ⟨by rw [back_th s t1 t2 t3 t4 m h1 h2 hH.out.1 hH.out.2], hb⟩
theorem rv_read (s : ByteArray) (h : rvOk s = true) (W : World) : Calls Try.prog 22 #[.int .i64 (pvD (dgt s) 14 : Nat)] W fun e w' => e = .returned (.tuple #[.string s, .int .i64 0]) ∧ Below W.heap.size W w' := by
  have h' : pOk s 14 = true ∧ s.size = 14 := by simpa [rvOk] using h
  obtain ⟨t1, t2⟩ := h'
  refine (rv_c (pvD (dgt s) 14) (read_lt s t1) W).mono ?_
  rintro e w' ⟨rfl, hb⟩
  exact ⟨by rw [back_rv s t1 t2], hb⟩

set_option linter.unusedVariables false
set_option maxRecDepth 20000 in
set_option maxHeartbeats 4000000 in
theorem walk (a0 : Int) (a1 : Int) (a2 : ByteArray) (w : World) (w0 : (Lit.int .i64 a0).wf = true) (w1 : (Lit.int .i64 a1).wf = true) (w2 : a2.size ≤ maxLen) :
    Calls Try.prog 5 #[.int .i64 a0, .int .i64 a1, .string a2] w fun e w' => e = .returned (.bool true) ∧ Below w.heap.size w w' := by
  obtain ⟨a, ha⟩ := Int.eq_ofNat_of_zero_le (drw_lo a0)
  have ha2 := drw_hi a0
  have cn := draw_c a0
  rw [ha] at ha2 cn
  obtain ⟨b, hb⟩ := Int.eq_ofNat_of_zero_le (drw_lo a1)
  have hb2 := drw_hi a1
  have cm := draw_c a1
  rw [hb] at hb2 cm
  have CN := hidp cn
  have CM := hidp cm
  have PT1 := hidp (ptT a2)
  have PT0 := hidp (ptF a2)
  have PR1 := hidp (prT a2)
  have PR0 := hidp (prF a2)
  have TH := hidp (th_read a2)
  have RH := hidp (rv_read a2)
  clear cn cm ha hb w0 w1 w2
  go_enter Try.func5, Try.ntmps5
  go_wp2_with fail
  refine (th_8 _).mono ?_; rintro e wa ⟨rfl, hba⟩
  go_wp2_with fail
  refine (CN.out _).mono ?_; rintro e w' ⟨rfl, rfl⟩
  go_wp2_with fail
  refine (CM.out _).mono ?_; rintro e w' ⟨rfl, rfl⟩
  go_wp2_with fail
  refine (th_c a (by omega) _).mono ?_
  rintro e wb ⟨m, hm1, hm2, rfl, hH, hbb⟩
  have hwb := bstep hba hbb
  have RT := read_th a m (by omega) hm1 hm2 hH.out.1 hH.out.2
  have RR := read_rv a (by omega)
  have cx := fun W => parseTh_c (hexB a m) W
  have cy := fun W => parseRv_c (hexB a 14) W
  rw [RT.1, RT.2] at cx
  rw [RR.1, RR.2] at cy
  have CX := hidp cx
  have CY := hidp cy
  clear hba hbb RT RR cx cy CN CM
  go_wp2_with fail
  refine (rv_c a (by omega) _).mono ?_
  rintro e wc ⟨rfl, hbc⟩
  have hwc := bstep hwb hbc
  go_wp2_with fail
  refine (CX.out _).mono ?_; rintro e w' ⟨rfl, rfl⟩
  go_wp2_with fail
  refine (CY.out _).mono ?_; rintro e w' ⟨rfl, rfl⟩
  go_wp2_with fail
  refine (th_c b (by omega) _).mono ?_
  rintro e wd ⟨m', hm1', hm2', rfl, hH', hbd⟩
  have hwd := bstep hwc hbd
  go_wp2_with fail
  refine (rv_c b (by omega) _).mono ?_
  rintro e we ⟨rfl, hbe⟩
  have hwe := bstep hwd hbe
  have O1 : Op.bytesLess (hexB a m).toList (hexB b m').toList = decide ((a : Int) < (b : Int)) := by
    rw [list_hex, list_hex]
    refine order_hex a b m m' (by omega) (by omega) hm2 hm2' hH.out.1 hH'.out.1 (fun e => ?_)
    subst e
    exact trim_same a m m' hm1 hm1' hm2 hm2' hH.out.1 hH'.out.1 hH.out.2 hH'.out.2
  have O2 : Op.bytesLess (hexB a 14).toList (hexB b 14).toList = decide ((a : Int) < (b : Int)) := by
    rw [list_hex, list_hex]
    exact order_hex a b 14 14 (by omega) (by omega) (by omega) (by omega) (fun j h1 h2 => by omega) (fun j h1 h2 => by omega) (fun _ => rfl)
  have s14 : (hexB a 14).size = 14 := hexB_size _ _
  have s14' : (((hexB a 14).size : Nat) : Int) = 14 := by rw [s14]; rfl
  clear hwb hwc hwd hbc hbd hbe hH hH' CX CY hm1 hm2 hm1' hm2' s14
  generalize hexB a m = X at *
  generalize hexB b m' = U at *
  generalize hexB b 14 = V at *
  generalize hexB a 14 = Y at *
  have hne : ((a : Int) != (a : Int)) = false := by simp
  have S14 := hidp s14'
  have hlen : (((Y.size : Nat) : Int) != 14) = false := by rw [s14']; rfl
  clear s14'
  by_cases hab : (a : Int) < (b : Int)
  · rw [decide_eq_true hab] at O1 O2
    have h1 : a < b := by omega
    go_wp2_with fail
    cases ht : thOk a2 with
    | true =>
      have pt := PT1.out ht
      have th := TH.out ht
      refine (pt _).mono ?_; rintro e w' ⟨rfl, rfl⟩
      clear pt
      go_wp2_with fail
      refine (th _).mono ?_; rintro e wf ⟨rfl, hbf⟩
      have hwf := bstep hwe hbf
      clear th ht hbf
      go_wp2_with fail
      cases hr : rvOk a2 with
      | true =>
        have pt := PR1.out hr
        have th := RH.out hr
        refine (pt _).mono ?_; rintro e w' ⟨rfl, rfl⟩
        clear pt
        go_wp2_with fail
        refine (th _).mono ?_; rintro e wg ⟨rfl, hbg⟩
        have hwg := bstep hwf hbg
        clear th hr hbg
        go_wp2_with fail
        go_ret
        exact ⟨rfl, hwg⟩
      | false =>
        have pt := PR0.out hr
        refine (pt _).mono ?_; rintro e w' ⟨rfl, rfl⟩
        clear pt hr
        go_wp2_with fail
        go_ret
        exact ⟨rfl, hwf⟩
    | false =>
      have pt := PT0.out ht
      refine (pt _).mono ?_; rintro e w' ⟨rfl, rfl⟩
      have hwf := hwe
      clear pt ht
      go_wp2_with fail
      cases hr : rvOk a2 with
      | true =>
        have pt := PR1.out hr
        have th := RH.out hr
        refine (pt _).mono ?_; rintro e w' ⟨rfl, rfl⟩
        clear pt
        go_wp2_with fail
        refine (th _).mono ?_; rintro e wg ⟨rfl, hbg⟩
        have hwg := bstep hwf hbg
        clear th hr hbg
        go_wp2_with fail
        go_ret
        exact ⟨rfl, hwg⟩
      | false =>
        have pt := PR0.out hr
        refine (pt _).mono ?_; rintro e w' ⟨rfl, rfl⟩
        clear pt hr
        go_wp2_with fail
        go_ret
        exact ⟨rfl, hwf⟩
  · rw [decide_eq_false hab] at O1 O2
    have h1 : b ≤ a := by omega
    have h2 : (b : Int) ≤ (a : Int) := by omega
    have h3 : ¬ a < b := by omega
    go_wp2_with fail
    cases ht : thOk a2 with
    | true =>
      have pt := PT1.out ht
      have th := TH.out ht
      refine (pt _).mono ?_; rintro e w' ⟨rfl, rfl⟩
      clear pt
      go_wp2_with fail
      refine (th _).mono ?_; rintro e wf ⟨rfl, hbf⟩
      have hwf := bstep hwe hbf
      clear th ht hbf
      go_wp2_with fail
      cases hr : rvOk a2 with
      | true =>
        have pt := PR1.out hr
        have th := RH.out hr
        refine (pt _).mono ?_; rintro e w' ⟨rfl, rfl⟩
        clear pt
        go_wp2_with fail
        refine (th _).mono ?_; rintro e wg ⟨rfl, hbg⟩
        have hwg := bstep hwf hbg
        clear th hr hbg
        go_wp2_with fail
        go_ret
        exact ⟨rfl, hwg⟩
      | false =>
        have pt := PR0.out hr
        refine (pt _).mono ?_; rintro e w' ⟨rfl, rfl⟩
        clear pt hr
        go_wp2_with fail
        go_ret
        exact ⟨rfl, hwf⟩
    | false =>
      have pt := PT0.out ht
      refine (pt _).mono ?_; rintro e w' ⟨rfl, rfl⟩
      have hwf := hwe
      clear pt ht
      go_wp2_with fail
      cases hr : rvOk a2 with
      | true =>
        have pt := PR1.out hr
        have th := RH.out hr
        refine (pt _).mono ?_; rintro e w' ⟨rfl, rfl⟩
        clear pt
        go_wp2_with fail
        refine (th _).mono ?_; rintro e wg ⟨rfl, hbg⟩
        have hwg := bstep hwf hbg
        clear th hr hbg
        go_wp2_with fail
        go_ret
        exact ⟨rfl, hwg⟩
      | false =>
        have pt := PR0.out hr
        refine (pt _).mono ?_; rintro e w' ⟨rfl, rfl⟩
        clear pt hr
        go_wp2_with fail
        go_ret
        exact ⟨rfl, hwf⟩
end Go.Proofs.Ytmgagmnknhgkdaa.hexaBack
