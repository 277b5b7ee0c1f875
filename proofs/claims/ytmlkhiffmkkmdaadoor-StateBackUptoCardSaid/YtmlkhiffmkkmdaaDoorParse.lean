/- Contracts of hexa.parse, ParseTh, ParseRv at every text. -/
import Derived.Test.YtmlkhiffmkkmdaaDoorParseMath
namespace Go.Proofs.YtmlkhiffmkkmdaaDoor
open Go.ChangeShapes Go.WideShapes Go.ChangeAt Go.RowKit
set_option maxRecDepth 20000

theorem index_byt (s : ByteArray) (k : Nat) (h : k < s.size) (w : World) : (Instr.index 9 (Value.string s) (Value.int .i64 (k : Int))).run Tryd.prog w = .ok (.int .u8 (byt s k : Nat)) w := by
  rw [run_index_string w _ _ _ _ Tryd.underlying9, dif_pos (by constructor <;> omega)]
  have e : ((k : Int)).toNat = k := by omega
  have h2 : (s[((k : Int)).toNat]'(by omega)).toNat = byt s k := by
    simp only [e]
    unfold byt
    rw [List.getD_eq_getElem?_getD, List.getElem?_eq_getElem (by simpa using h)]
    rfl
  rw [h2]
def pvI (s : ByteArray) (k : Nat) : Int := (pvD (dgt s) k : Nat)
theorem pvI_step (s : ByteArray) (k : Nat) (h : k < s.size) : pvI s (k + 1) = pvI s k * 16 + (dgV (byt s k) : Nat) := by
  unfold pvI
  simp only [pvD]
  rw [show dgt s k = dgV (byt s k) by unfold dgt; rw [if_pos h]]
  omega
theorem pvI_skip (s : ByteArray) (k : Nat) (h : ¬ k < s.size) : pvI s (k + 1) = pvI s k * 16 := by
  unfold pvI
  simp only [pvD]
  rw [show dgt s k = 0 by unfold dgt; rw [if_neg h]]
  omega
theorem pvI_bd (s : ByteArray) (k : Nat) (hk : k ≤ 14) (h : pOk s k = true) : 0 ≤ pvI s k ∧ pvI s k ≤ 72057594037927936 := by
  have a := pvD_lt (dgt s) k (fun i hi => dgt_lt s k h i hi)
  have b : 16 ^ k ≤ 16 ^ 14 := Nat.pow_le_pow_right (by omega) hk
  have c : (16 : Nat) ^ 14 = 72057594037927936 := rfl
  unfold pvI
  omega
/-- What parse tells. -/
def prV (s : ByteArray) : Int := if pOk s 14 = true then pvI s 14 else 0
/-- Is it the text of a threshold? -/
def thOk (s : ByteArray) : Bool := pOk s 14 && decide (1 ≤ s.size ∧ s.size ≤ 14 ∧ (s.size = 1 ∨ byt s (s.size - 1) ≠ 48))
def thV (s : ByteArray) : Int := if thOk s = true then pvI s 14 else 0
def thE (s : ByteArray) : Int := if thOk s = true then 0 else 3
def rvOk (s : ByteArray) : Bool := pOk s 14 && decide (s.size = 14)
def rvV (s : ByteArray) : Int := if rvOk s = true then pvI s 14 else 0
def rvE (s : ByteArray) : Int := if rvOk s = true then 0 else 3
end Go.Proofs.YtmlkhiffmkkmdaaDoor
