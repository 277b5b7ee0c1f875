/- Contracts of package hexa: the texts of numbers. -/
import Derived.Test.YtdfghgeccannnaaDoorBase
import Derived.Test.YtdfghgeccannnaaDoorMem
import Derived.WalkSpells
import Derived.Deep.QuietTactic
import Derived.BigQuiet
import Derived.WalkSmall
namespace Go.Proofs.YtdfghgeccannnaaDoor
open Go.ChangeShapes Go.WideShapes Go.ChangeAt Go.RowKit
set_option maxRecDepth 20000

/-- Digit j of the fourteen, as a number and as a byte. -/
def hn (n : Nat) (j : Nat) : Nat := n / 16 ^ (13 - j) % 16
def hc (d : Nat) : UInt8 := if d < 10 then UInt8.ofNat (48 + d) else UInt8.ofNat (87 + d)
def hd (n j : Nat) : UInt8 := hc (hn n j)
def hexB (n m : Nat) : ByteArray := ⟨(tab (hd n) m).toArray⟩

theorem slice_hex : ∀ (d : Nat) (_ : d < 16) (w : World), (Instr.slice 9 (Value.string { data := #[48, 49, 50, 51, 52, 53, 54, 55, 56, 57, 97, 98, 99, 100, 101, 102] }) (some (Value.int .i64 (d : Int))) (some (Value.int .i64 ((d : Int) + 1))) none).run Tryd.prog w = .ok (.string ⟨#[hc d]⟩) w
  | 0, _, _ => by kernel_rfl
  | 1, _, _ => by kernel_rfl
  | 2, _, _ => by kernel_rfl
  | 3, _, _ => by kernel_rfl
  | 4, _, _ => by kernel_rfl
  | 5, _, _ => by kernel_rfl
  | 6, _, _ => by kernel_rfl
  | 7, _, _ => by kernel_rfl
  | 8, _, _ => by kernel_rfl
  | 9, _, _ => by kernel_rfl
  | 10, _, _ => by kernel_rfl
  | 11, _, _ => by kernel_rfl
  | 12, _, _ => by kernel_rfl
  | 13, _, _ => by kernel_rfl
  | 14, _, _ => by kernel_rfl
  | 15, _, _ => by kernel_rfl
  | d + 16, h, _ => by omega
theorem hexB_size (n m : Nat) : (hexB n m).size = m := by simp [hexB, ByteArray.size, tab_len]
theorem cat_hex (n j : Nat) (hj : j < 14) (w : World) : (Op.stringOp .add (hexB n j) ⟨#[hc (hn n j)]⟩).run Tryd.prog w = .ok (.string (hexB n (j + 1))) w := by
  have h := run_string_add_lists (P := Tryd.prog) w (tab (hd n) j) [hc (hn n j)] (by rw [tab_len]; omega) (by simp)
  rw [show tab (hd n) j ++ [hc (hn n j)] = tab (hd n) (j + 1) from (tab_snoc _ _).symm] at h
  exact h
theorem i64_and15 (n : Int) : bits .and .i64 n 15 = n % 16 := by
  have h15 : (BitVec.ofInt 64 15).toNat = 2 ^ 4 - 1 := by decide
  have key : (BitVec.ofInt 64 n &&& BitVec.ofInt 64 15).toNat = (n % ((2 ^ 64 : Nat) : Int)).toNat % 2 ^ 4 := by
    rw [BitVec.toNat_and, BitVec.toNat_ofInt, h15, Nat.and_two_pow_sub_one_eq_mod]
  show IntKind.i64.wrap ((BitVec.ofInt 64 n &&& BitVec.ofInt 64 15).toNat : Nat) = n % 16
  rw [key, IntKind.wrap_i64]
  omega
theorem and_15 (n j : Nat) (hj : j < 14) : bits BinOp.and IntKind.i64 ((n : Int) / 2 ^ (52 - 4 * (j : Int)).toNat) 15 = ((hn n j : Nat) : Int) := by
  rw [i64_and15, show (52 - 4 * (j : Int)).toNat = 4 * (13 - j) from by omega]
  unfold hn
  rw [Int.natCast_emod, Int.natCast_ediv, Int.natCast_pow, Int.pow_mul]
  rfl
theorem extract_hex (n m k : Nat) (h : k ≤ m) : (hexB n m).extract 0 k = hexB n k := by
  apply ByteArray.ext
  rw [ByteArray.data_extract]
  show (tab (hd n) m).toArray.extract 0 k = (tab (hd n) k).toArray
  apply Array.ext'
  simp only [Array.toList_extract, List.extract_eq_take_drop]
  apply List.ext_getElem?
  intro i
  by_cases hi : i < k
  · rw [tab_get _ _ _ hi]
    simp [hi, tab_get _ _ _ (show i < m by omega)]
  · rw [List.getElem?_eq_none (by simp; omega), List.getElem?_eq_none (by rw [tab_len]; omega)]
theorem hn_lt (n j : Nat) : hn n j < 16 := Nat.mod_lt _ (by omega)

theorem digits_c (n : Nat) (w : World) :
    Calls Tryd.prog 53 #[.int .i64 n] w fun e w' => e = .returned (.string (hexB n 14)) ∧ Below w.heap.size w w' := by
  go_enter Tryd.func53, Tryd.ntmps53
  go_wp2
  go_loopw [3, 4] (fun s i wr => ∃ j : Nat, j ≤ 14 ∧ i = .int .i64 (52 - 4 * (j : Int)) ∧ s = .string (hexB n j) ∧ Below w.heap.size w wr) (fun _ i _ => (intOf i + 4).toNat)
  case atStart => exact ⟨0, by omega, by simp, rfl, Below.refl _ _⟩
  case round =>
    obtain ⟨j, hj, rfl, rfl, hbl⟩ := hrel
    by_cases hj14 : j < 14
    · have hA := and_15 n j hj14
      have hC := cat_hex n j hj14
      have hA1 := hn_lt n j
      have hS := slice_hex (hn n j) hA1
      have hW : IntKind.i64.wrap (((hn n j : Nat) : Int) + 1) = ((hn n j : Nat) : Int) + 1 := IntWalk.i64_in _ (by constructor <;> omega)
      go_wp2_with fail
      go_quiet (fail)
      go_wp2
      go_roundw
      case rel => exact ⟨j + 1, by omega, v_int (by omega), rfl, below_drewN hbl _⟩
      case measure => simp [intOf]; omega
    · obtain rfl : j = 14 := by omega
      go_wp2
      go_ret
      exact ⟨rfl, hbl⟩

/-- The length of a text in a slot. -/
def strSize : Value → Nat | .string b => b.size | _ => 0
theorem bt_hex (n m : Nat) (hm : 1 ≤ m) (w : World) : (Instr.index 9 (Value.string (hexB n m)) (Value.int .i64 ((m : Int) - 1))).run Tryd.prog w = .ok (.int .u8 ((hd n (m - 1)).toNat : Nat)) w := by
  have hs := hexB_size n m
  rw [run_index_string w _ _ _ _ Tryd.underlying9, dif_pos (by rw [hs]; constructor <;> omega)]
  have e : ((m : Int) - 1).toNat = m - 1 := by omega
  have h2 : (hexB n m)[((m : Int) - 1).toNat]'(by rw [hs]; omega) = hd n (m - 1) := by
    show ((tab (hd n) m).toArray)[((m : Int) - 1).toNat]'(by rw [List.size_toArray, tab_len]; omega) = hd n (m - 1)
    rw [List.getElem_toArray]
    have := tab_get (hd n) m (m - 1) (by omega)
    rw [List.getElem?_eq_getElem (by rw [tab_len]; omega)] at this
    simp only [e]
    exact Option.some.inj this
  rw [h2]
theorem cut_hex (n m : Nat) (hm : 1 ≤ m) (w : World) : (Instr.slice 9 (Value.string (hexB n m)) none (some (Value.int .i64 ((m : Int) - 1))) none).run Tryd.prog w = .ok (.string (hexB n (m - 1))) w := by
  have hs := hexB_size n m
  rw [run_slice_string_h w _ _ Tryd.underlying9 _ _ (by omega) (by rw [hs]; omega)]
  have e : ((m : Int) - 1).toNat = m - 1 := by omega
  rw [e, extract_hex n m (m - 1) (by omega)]

theorem th_c (n : Nat) (hlt : n < 72057594037927936) (w : World) :
    Calls Tryd.prog 39 #[.int .i64 n] w fun e w' => ∃ m, 1 ≤ m ∧ m ≤ 14 ∧ e = .returned (.tuple #[.string (hexB n m), .int .i64 0]) ∧ Hid ((∀ j, m ≤ j → j < 14 → hd n j = 48) ∧ (m = 1 ∨ hd n (m - 1) ≠ 48)) ∧ Below w.heap.size w w' := by
  have hl : (n : Int) < 72057594037927936 := by omega
  have D := hidp (digits_c n)
  clear hlt
  go_enter Tryd.func39, Tryd.ntmps39
  go_wp2_with (first | (go_at_call 38; go_in) | fail)
  refine (D.out _).mono ?_
  rintro e wa ⟨rfl, hba⟩
  go_wp2_with fail
  go_loopw [4] (fun s wr => ∃ m S, 1 ≤ m ∧ m ≤ 14 ∧ Hid (S = hexB n m) ∧ s = .string S ∧ Hid (∀ j, m ≤ j → j < 14 → hd n j = 48) ∧ Below w.heap.size w wr) (fun s _ => strSize s)
  case atStart => exact ⟨14, _, by omega, by omega, hidp rfl, rfl, fun j h1 h2 => by omega, hba⟩
  case round =>
    obtain ⟨m, S, hm1, hm2, hS, rfl, hz, hbl⟩ := hrel
    have hsz : S.size = m := by rw [hS.out]; exact hexB_size n m
    by_cases hgt : 1 < m
    · have hgt1 : (1 : Int) < (m : Int) := by omega
      have hI := bt_hex n m hm1
      have hC := cut_hex n m hm1
      rw [← hS.out] at hI hC
      obtain ⟨S', hS'⟩ : ∃ S', S' = hexB n (m - 1) := ⟨_, rfl⟩
      rw [← hS'] at hC
      have HS' := hidp hS'
      clear hS'
      by_cases h48 : hd n (m - 1) = 48
      · have h48' : (((hd n (m - 1)).toNat : Nat) : Int) = 48 := by rw [h48]; rfl
        rw [h48'] at hI
        have H48 := hidp h48
        clear h48 h48'
        go_wp2
        go_roundw
        case rel => exact ⟨m - 1, S', by omega, by omega, HS', rfl, fun j h1 h2 => by
          by_cases h : j = m - 1
          · rw [h]; exact H48.out
          · exact hz.out j (by omega) h2, hbl⟩
        case measure =>
          show S'.size < S.size
          rw [HS'.out, hexB_size, hS.out, hexB_size]; omega
      · have h48' : ((((hd n (m - 1)).toNat : Nat) : Int) == 48) = false := by
          rw [beq_eq_false_iff_ne]
          intro e
          apply h48
          have : (hd n (m - 1)).toNat = 48 := by omega
          exact UInt8.toNat_inj.1 (by rw [this]; rfl)
        have H48 := hidp h48
        clear h48
        go_wp2
        go_ret2
        exact ⟨m, hm1, hm2, by rw [← hS.out]; rfl, ⟨hz.out, .inr H48.out⟩, hbl⟩
    · obtain rfl : m = 1 := by omega
      go_wp2
      go_ret2
      exact ⟨1, by omega, by omega, by rw [← hS.out]; rfl, ⟨hz.out, .inl rfl⟩, hbl⟩

theorem rv_c (n : Nat) (hlt : n < 72057594037927936) (w : World) :
    Calls Tryd.prog 40 #[.int .i64 n] w fun e w' => e = .returned (.tuple #[.string (hexB n 14), .int .i64 0]) ∧ Below w.heap.size w w' := by
  have hl : (n : Int) < 72057594037927936 := by omega
  have D := hidp (digits_c n)
  clear hlt
  go_enter Tryd.func40, Tryd.ntmps40
  go_wp2_with (first | (go_at_call 38; go_in) | fail)
  refine (D.out _).mono ?_
  rintro e wa ⟨rfl, hba⟩
  go_wp2
  go_ret2
  exact ⟨rfl, hba⟩
end Go.Proofs.YtdfghgeccannnaaDoor
