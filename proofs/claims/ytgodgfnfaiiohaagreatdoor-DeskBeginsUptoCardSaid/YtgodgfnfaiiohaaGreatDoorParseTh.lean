/- Contract of hexa.ParseTh at every text. -/
import Derived.Test.YtgodgfnfaiiohaaGreatDoorMgParse
namespace Go.Proofs.YtgodgfnfaiiohaaGreatDoor
open Go.ChangeShapes Go.WideShapes Go.ChangeAt Go.RowKit
set_option maxRecDepth 20000

theorem size0 (s : ByteArray) (h : s.size = 0) : s = ⟨#[]⟩ := by
  apply ByteArray.ext
  apply Array.ext'
  exact List.eq_nil_of_length_eq_zero h
theorem index_last (s : ByteArray) (h : 1 ≤ s.size) (w : World) : (Instr.index 9 (Value.string s) (Value.int .i64 ((s.size : Int) - 1))).run Tryz.prog w = .ok (.int .u8 (byt s (s.size - 1) : Nat)) w := by
  have := index_byt s (s.size - 1) (by omega) w
  rw [show ((s.size - 1 : Nat) : Int) = (s.size : Int) - 1 by omega] at this
  exact this
theorem eq_empty1 (s : ByteArray) (h : s.size = 0) : s.toList = [] ∧ s.toList.isEmpty = true := by
  rw [size0 s h]; decide +kernel
theorem eq_empty0 (s : ByteArray) (h : ¬ s.size = 0) : ¬ s.toList = [] ∧ s.toList.isEmpty = false := by
  have : ¬ s.toList = [] := by
    rw [ByteArray.toList_eq]
    intro e
    apply h
    have : s.data.toList.length = 0 := by rw [e]; rfl
    exact this
  exact ⟨this, by cases h : s.toList with | nil => exact absurd h this | cons a l => rfl⟩
set_option maxHeartbeats 2000000 in
theorem parseTh_c (s : ByteArray) (w : World) :
    Calls Tryz.prog 96 #[.string s] w fun e w' => e = .returned (.tuple #[.int .i64 (thV s), .int .i64 (thE s)]) ∧ w = w' := by
  have C := hidp (parse_c s)
  have P1 := hidp (show pOk s 14 = true → prV s = pvI s 14 from fun h => by unfold prV; rw [if_pos h])
  have R := hidp (show thOk s = (pOk s 14 && decide (1 ≤ s.size ∧ s.size ≤ 14 ∧ (s.size = 1 ∨ byt s (s.size - 1) ≠ 48))) from rfl)
  have R1 := hidp (show thOk s = true → thV s = pvI s 14 ∧ thE s = 0 from fun h => by unfold thV thE; rw [if_pos h, if_pos h]; exact ⟨rfl, rfl⟩)
  have R0 := hidp (show thOk s = false → thV s = 0 ∧ thE s = 3 from fun h => by unfold thV thE; rw [h]; exact ⟨rfl, rfl⟩)
  have IL := hidp (index_last s)
  go_enter Tryz.func96, Tryz.ntmps96
  go_wp2_with fail
  refine (C.out _).mono ?_; rintro e w' ⟨rfl, rfl⟩
  cases hp : pOk s 14 with
  | false =>
    have H := hidp (R0.out (by rw [R.out, hp]; rfl))
    clear hp
    go_wp2_with fail
    go_ret2
    exact ⟨by rw [H.out.1, H.out.2] <;> rfl, rfl⟩
  | true =>
    have PV := hidp (P1.out hp)
    by_cases h0 : s.size = 0
    · have H := hidp (R0.out (by rw [R.out, hp, decide_eq_false (by omega)]; rfl))
      obtain ⟨e0, e1⟩ := eq_empty1 s h0
      clear hp
      go_wp2_with fail
      go_ret2
      exact ⟨by rw [H.out.1, H.out.2] <;> rfl, rfl⟩
    · obtain ⟨e0, e1⟩ := eq_empty0 s h0
      by_cases h14 : 14 < s.size
      · have H := hidp (R0.out (by rw [R.out, hp, decide_eq_false (by omega)]; rfl))
        have h14' : (14 : Int) < (s.size : Int) := by omega
        clear hp h14 h0
        go_wp2_with fail
        go_ret2
        exact ⟨by rw [H.out.1, H.out.2] <;> rfl, rfl⟩
      · have h14' : ¬ (14 : Int) < (s.size : Int) := by omega
        by_cases h1 : 1 < s.size
        · have h1' : (1 : Int) < (s.size : Int) := by omega
          have q := IL.out (by omega)
          by_cases h48 : byt s (s.size - 1) = 48
          · have H := hidp (R0.out (by rw [R.out, hp, decide_eq_false (by omega)]; rfl))
            have e48 : ((byt s (s.size - 1) : Int) == 48) = true := by rw [h48]; rfl
            clear hp h14 h0 h1 h48
            go_wp2_with fail
            go_ret2
            exact ⟨by rw [H.out.1, H.out.2] <;> rfl, rfl⟩
          · have H := hidp (R1.out (by rw [R.out, hp, decide_eq_true ⟨by omega, by omega, .inr h48⟩]; rfl))
            have e48 : ((byt s (s.size - 1) : Int) == 48) = false := by rw [beq_eq_false_iff_ne]; omega
            clear hp h14 h0 h1 h48
            go_wp2_with fail
            go_ret2
            exact ⟨by rw [H.out.1, H.out.2, PV.out] <;> rfl, rfl⟩
        · have h1' : ¬ (1 : Int) < (s.size : Int) := by omega
          have H := hidp (R1.out (by rw [R.out, hp, decide_eq_true ⟨by omega, by omega, .inl (by omega)⟩]; rfl))
          clear hp h14 h0 h1
          go_wp2_with fail
          go_ret2
          exact ⟨by rw [H.out.1, H.out.2, PV.out] <;> rfl, rfl⟩
end Go.Proofs.YtgodgfnfaiiohaaGreatDoor
