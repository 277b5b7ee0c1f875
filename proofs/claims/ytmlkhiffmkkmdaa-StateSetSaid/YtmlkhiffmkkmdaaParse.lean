/- Contracts of hexa.parse, ParseTh, ParseRv at every text. -/
import Derived.Test.YtmlkhiffmkkmdaaParseMath
namespace Go.Proofs.Ytmlkhiffmkkmdaa
open Go.ChangeShapes Go.WideShapes Go.ChangeAt Go.RowKit
set_option maxRecDepth 20000

theorem index_byt (s : ByteArray) (k : Nat) (h : k < s.size) (w : World) : (Instr.index 9 (Value.string s) (Value.int .i64 (k : Int))).run Try.prog w = .ok (.int .u8 (byt s k : Nat)) w := by
  rw [run_index_string w _ _ _ _ Try.underlying9, dif_pos (by constructor <;> omega)]
  have e : ((k : Int)).toNat = k := by omega
  have h2 : (s[((k : Int)).toNat]'(by omega)).toNat = byt s k := by
    simp only [e]
    unfold byt
    rw [List.getD_eq_getElem?_getD, List.getElem?_eq_getElem (by simpa using h)]
    rfl
  rw [h2]
def pvI (s : ByteArray) (k : Nat) : Int := (pvD (dgt s) k : Nat)
theorem pvI_step (s : ByteArray) (k : Nat) (h : k < s.size) : pvI s (k + 1) = pvI s k * 16 + (dgV (byt s k) : Nat) := by
  unfold pvI
  simp only [pvD]
  rw [show dgt s k = dgV (byt s k) by unfold dgt; rw [if_pos h]]
  omega
theorem pvI_skip (s : ByteArray) (k : Nat) (h : ¬ k < s.size) : pvI s (k + 1) = pvI s k * 16 := by
  unfold pvI
  simp only [pvD]
  rw [show dgt s k = 0 by unfold dgt; rw [if_neg h]]
  omega
theorem pvI_bd (s : ByteArray) (k : Nat) (hk : k ≤ 14) (h : pOk s k = true) : 0 ≤ pvI s k ∧ pvI s k ≤ 72057594037927936 := by
  have a := pvD_lt (dgt s) k (fun i hi => dgt_lt s k h i hi)
  have b : 16 ^ k ≤ 16 ^ 14 := Nat.pow_le_pow_right (by omega) hk
  have c : (16 : Nat) ^ 14 = 72057594037927936 := rfl
  unfold pvI
  omega
/-- What parse tells. -/
def prV (s : ByteArray) : Int := if pOk s 14 = true then pvI s 14 else 0
set_option maxHeartbeats 2000000 in
theorem parse_c (s : ByteArray) (w : World) :
    Calls Try.prog 49 #[.string s] w fun e w' => e = .returned (.tuple #[.int .i64 (prV s), .bool (pOk s 14)]) ∧ w = w' := by
  have IX := hidp (index_byt s)
  have S1 := hidp (pvI_step s)
  have S2 := hidp (pvI_skip s)
  have BD := hidp (pvI_bd s)
  have OKS := hidp (fun k => show pOk s (k + 1) = (pOk s k && (decide (s.size ≤ k) || dgOk (byt s k))) from rfl)
  go_enter Try.func49, Try.ntmps49
  go_wp2_with fail
  go_loop [4, 7] (fun n i => ∃ k : Nat, k ≤ 14 ∧ i = .int .i64 k ∧ n = .int .i64 (pvI s k) ∧ Hid (pOk s k = true)) (fun _ i => 14 - (intOf i).toNat)
  case atStart => exact ⟨0, by omega, rfl, rfl, rfl⟩
  case round =>
    obtain ⟨k, hk, rfl, rfl, ok⟩ := hrel
    obtain ⟨b1, b2⟩ := BD.out k hk ok.out
    by_cases hlt : k < 14
    · by_cases hks : k < s.size
      · have q := IX.out k hks
        have hc := byt_lt s k
        have E := hidp (S1.out k hks)
        have O := hidp (OKS.out k)
        have V := hidp (show dgV (byt s k) = if byt s k ≤ 57 then byt s k - 48 else byt s k - 87 from rfl)
        have KS := hidp hks
        have hks' : ¬ (s.size : Int) ≤ (k : Int) := by omega
        generalize byt s k = c at *
        by_cases h1 : 48 ≤ c ∧ c ≤ 57
        · obtain ⟨h1, h2⟩ := h1
          clear hks
          go_wp2_with fail
          go_round
          case rel => exact ⟨k + 1, by omega, by go_num, v_int (by rw [E.out, V.out, if_pos h2]; omega), hidp (by rw [O.out, ok.out, show dgOk c = true from decide_eq_true (.inl ⟨h1, h2⟩)]; simp)⟩
          case measure => simp [intOf]; omega
        · by_cases h2 : 97 ≤ c ∧ c ≤ 102
          · obtain ⟨h2, h3⟩ := h2
            have h4 : ¬ (c : Int) ≤ 57 := by omega
            clear hks h1
            go_wp2_with fail
            go_round
            case rel => exact ⟨k + 1, by omega, by go_num, v_int (by rw [E.out, V.out, if_neg (by omega)]; omega), hidp (by rw [O.out, ok.out, show dgOk c = true from decide_eq_true (.inr ⟨h2, h3⟩)]; simp)⟩
            case measure => simp [intOf]; omega
          · have hno : dgOk c = false := decide_eq_false (fun h => h.elim h1 h2)
            have NO := hidp (show pOk s 14 = false by
              cases hp : pOk s 14 with
              | false => rfl
              | true =>
                exfalso
                have a := pOk_at s 14 hp
                have := pOk_of s (k + 1) (fun j hj hs => a j (by omega) hs)
                rw [O.out, ok.out, hno, decide_eq_false (by have := KS.out; omega)] at this
                cases this)
            have PV := hidp (show prV s = 0 by unfold prV; rw [NO.out]; rfl)
            clear hno hks
            by_cases g1 : 48 ≤ c
            · have g2 : ¬ (c : Int) ≤ 57 := by omega
              by_cases g3 : 97 ≤ c
              · have g4 : ¬ (c : Int) ≤ 102 := by omega
                clear h1 h2
                go_wp2_with fail
                go_ret2
                exact ⟨by rw [PV.out, NO.out] <;> rfl, rfl⟩
              · have g3' : ¬ (97 : Int) ≤ (c : Int) := by omega
                clear h1 h2 g3
                go_wp2_with fail
                go_ret2
                exact ⟨by rw [PV.out, NO.out] <;> rfl, rfl⟩
            · have g1' : ¬ (48 : Int) ≤ (c : Int) := by omega
              have g3' : ¬ (97 : Int) ≤ (c : Int) := by omega
              clear h1 h2 g1
              go_wp2_with fail
              go_ret2
              exact ⟨by rw [PV.out, NO.out] <;> rfl, rfl⟩
      · have E := hidp (S2.out k hks)
        have O := hidp (OKS.out k)
        have hks' : (s.size : Int) ≤ (k : Int) := by omega
        have KS := hidp hks
        clear hks
        go_wp2_with fail
        go_round
        case rel => exact ⟨k + 1, by omega, by go_num, v_int (by rw [E.out]), hidp (by rw [O.out, ok.out, decide_eq_true (by omega)]; simp)⟩
        case measure => simp [intOf]; omega
    · obtain rfl : k = 14 := by omega
      have PV := hidp (show prV s = pvI s 14 by unfold prV; rw [if_pos ok.out])
      go_wp2_with fail
      go_ret2
      exact ⟨by rw [PV.out, ok.out] <;> rfl, rfl⟩
/-- Is it the text of a threshold? -/
def thOk (s : ByteArray) : Bool := pOk s 14 && decide (1 ≤ s.size ∧ s.size ≤ 14 ∧ (s.size = 1 ∨ byt s (s.size - 1) ≠ 48))
def thV (s : ByteArray) : Int := if thOk s = true then pvI s 14 else 0
def thE (s : ByteArray) : Int := if thOk s = true then 0 else 3
def rvOk (s : ByteArray) : Bool := pOk s 14 && decide (s.size = 14)
def rvV (s : ByteArray) : Int := if rvOk s = true then pvI s 14 else 0
def rvE (s : ByteArray) : Int := if rvOk s = true then 0 else 3
theorem parseRv_c (s : ByteArray) (w : World) :
    Calls Try.prog 30 #[.string s] w fun e w' => e = .returned (.tuple #[.int .i64 (rvV s), .int .i64 (rvE s)]) ∧ w = w' := by
  have C := hidp (parse_c s)
  have P1 := hidp (show pOk s 14 = true → prV s = pvI s 14 from fun h => by unfold prV; rw [if_pos h])
  have R := hidp (show rvOk s = (pOk s 14 && decide (s.size = 14)) from rfl)
  have R1 := hidp (show rvOk s = true → rvV s = pvI s 14 ∧ rvE s = 0 from fun h => by unfold rvV rvE; rw [if_pos h, if_pos h]; exact ⟨rfl, rfl⟩)
  have R0 := hidp (show rvOk s = false → rvV s = 0 ∧ rvE s = 3 from fun h => by unfold rvV rvE; rw [h]; exact ⟨rfl, rfl⟩)
  go_enter Try.func30, Try.ntmps30
  go_wp2_with fail
  refine (C.out _).mono ?_; rintro e w' ⟨rfl, rfl⟩
  cases hp : pOk s 14 with
  | false =>
    have H := hidp (R0.out (by rw [R.out, hp]; rfl))
    clear hp
    go_wp2_with fail
    go_ret2
    exact ⟨by rw [H.out.1, H.out.2] <;> rfl, rfl⟩
  | true =>
    by_cases h14 : s.size = 14
    · have H := hidp (R1.out (by rw [R.out, hp, decide_eq_true h14]; rfl))
      have PV := hidp (P1.out hp)
      have hne : (((s.size : Nat) : Int) != 14) = false := by rw [h14]; rfl
      clear hp h14
      go_wp2_with fail
      go_ret2
      exact ⟨by rw [H.out.1, H.out.2, PV.out] <;> rfl, rfl⟩
    · have H := hidp (R0.out (by rw [R.out, hp, decide_eq_false h14]; rfl))
      have hne : (((s.size : Nat) : Int) != 14) = true := by rw [bne_iff_ne]; omega
      clear hp h14
      go_wp2_with fail
      go_ret2
      exact ⟨by rw [H.out.1, H.out.2] <;> rfl, rfl⟩
end Go.Proofs.Ytmlkhiffmkkmdaa
