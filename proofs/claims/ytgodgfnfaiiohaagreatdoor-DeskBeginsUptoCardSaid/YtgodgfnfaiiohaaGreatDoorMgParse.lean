/- Merged: Hexa, ParseMath, Parse. -/
import Derived.Test.YtgodgfnfaiiohaaGreatDoorBase
import Derived.Test.YtgodgfnfaiiohaaGreatDoorMem
import Derived.WalkSpells
import Derived.Deep.QuietTactic
import Derived.BigQuiet
import Derived.WalkSmall
/- Contracts of package hexa: the texts of numbers. -/
namespace Go.Proofs.YtgodgfnfaiiohaaGreatDoor
open Go.ChangeShapes Go.WideShapes Go.ChangeAt Go.RowKit
set_option maxRecDepth 20000

/-- Digit j of the fourteen, as a number and as a byte. -/
def hn (n : Nat) (j : Nat) : Nat := n / 16 ^ (13 - j) % 16
def hc (d : Nat) : UInt8 := if d < 10 then UInt8.ofNat (48 + d) else UInt8.ofNat (87 + d)
def hd (n j : Nat) : UInt8 := hc (hn n j)
def hexB (n m : Nat) : ByteArray := ⟨(tab (hd n) m).toArray⟩

theorem slice_hex : ∀ (d : Nat) (_ : d < 16) (w : World), (Instr.slice 9 (Value.string { data := #[48, 49, 50, 51, 52, 53, 54, 55, 56, 57, 97, 98, 99, 100, 101, 102] }) (some (Value.int .i64 (d : Int))) (some (Value.int .i64 ((d : Int) + 1))) none).run Tryz.prog w = .ok (.string ⟨#[hc d]⟩) w
  | 0, _, _ => by kernel_rfl
  | 1, _, _ => by kernel_rfl
  | 2, _, _ => by kernel_rfl
  | 3, _, _ => by kernel_rfl
  | 4, _, _ => by kernel_rfl
  | 5, _, _ => by kernel_rfl
  | 6, _, _ => by kernel_rfl
  | 7, _, _ => by kernel_rfl
  | 8, _, _ => by kernel_rfl
  | 9, _, _ => by kernel_rfl
  | 10, _, _ => by kernel_rfl
  | 11, _, _ => by kernel_rfl
  | 12, _, _ => by kernel_rfl
  | 13, _, _ => by kernel_rfl
  | 14, _, _ => by kernel_rfl
  | 15, _, _ => by kernel_rfl
  | d + 16, h, _ => by omega
theorem hexB_size (n m : Nat) : (hexB n m).size = m := by simp [hexB, ByteArray.size, tab_len]
theorem cat_hex (n j : Nat) (hj : j < 14) (w : World) : (Op.stringOp .add (hexB n j) ⟨#[hc (hn n j)]⟩).run Tryz.prog w = .ok (.string (hexB n (j + 1))) w := by
  have h := run_string_add_lists (P := Tryz.prog) w (tab (hd n) j) [hc (hn n j)] (by rw [tab_len]; omega) (by simp)
  rw [show tab (hd n) j ++ [hc (hn n j)] = tab (hd n) (j + 1) from (tab_snoc _ _).symm] at h
  exact h
theorem i64_and15 (n : Int) : bits .and .i64 n 15 = n % 16 := by
  have h15 : (BitVec.ofInt 64 15).toNat = 2 ^ 4 - 1 := by decide
  have key : (BitVec.ofInt 64 n &&& BitVec.ofInt 64 15).toNat = (n % ((2 ^ 64 : Nat) : Int)).toNat % 2 ^ 4 := by
    rw [BitVec.toNat_and, BitVec.toNat_ofInt, h15, Nat.and_two_pow_sub_one_eq_mod]
  show IntKind.i64.wrap ((BitVec.ofInt 64 n &&& BitVec.ofInt 64 15).toNat : Nat) = n % 16
  rw [key, IntKind.wrap_i64]
  omega
theorem and_15 (n j : Nat) (hj : j < 14) : bits BinOp.and IntKind.i64 ((n : Int) / 2 ^ (52 - 4 * (j : Int)).toNat) 15 = ((hn n j : Nat) : Int) := by
  rw [i64_and15, show (52 - 4 * (j : Int)).toNat = 4 * (13 - j) from by omega]
  unfold hn
  rw [Int.natCast_emod, Int.natCast_ediv, Int.natCast_pow, Int.pow_mul]
  rfl
theorem extract_hex (n m k : Nat) (h : k ≤ m) : (hexB n m).extract 0 k = hexB n k := by
  apply ByteArray.ext
  rw [ByteArray.data_extract]
  show (tab (hd n) m).toArray.extract 0 k = (tab (hd n) k).toArray
  apply Array.ext'
  simp only [Array.toList_extract, List.extract_eq_take_drop]
  apply List.ext_getElem?
  intro i
  by_cases hi : i < k
  · rw [tab_get _ _ _ hi]
    simp [hi, tab_get _ _ _ (show i < m by omega)]
  · rw [List.getElem?_eq_none (by simp; omega), List.getElem?_eq_none (by rw [tab_len]; omega)]
theorem hn_lt (n j : Nat) : hn n j < 16 := Nat.mod_lt _ (by omega)

theorem digits_c (n : Nat) (w : World) :
    Calls Tryz.prog 92 #[.int .i64 n] w fun e w' => e = .returned (.string (hexB n 14)) ∧ Below w.heap.size w w' := by
  go_enter Tryz.func92, Tryz.ntmps92
  go_wp2
  go_loopw [3, 4] (fun s i wr => ∃ j : Nat, j ≤ 14 ∧ i = .int .i64 (52 - 4 * (j : Int)) ∧ s = .string (hexB n j) ∧ Below w.heap.size w wr) (fun _ i _ => (intOf i + 4).toNat)
  case atStart => exact ⟨0, by omega, by simp, rfl, Below.refl _ _⟩
  case round =>
    obtain ⟨j, hj, rfl, rfl, hbl⟩ := hrel
    by_cases hj14 : j < 14
    · have hA := and_15 n j hj14
      have hC := cat_hex n j hj14
      have hA1 := hn_lt n j
      have hS := slice_hex (hn n j) hA1
      have hW : IntKind.i64.wrap (((hn n j : Nat) : Int) + 1) = ((hn n j : Nat) : Int) + 1 := IntWalk.i64_in _ (by constructor <;> omega)
      go_wp2_with fail
      go_quiet (fail)
      go_wp2
      go_roundw
      case rel => exact ⟨j + 1, by omega, v_int (by omega), rfl, below_drewN hbl _⟩
      case measure => simp [intOf]; omega
    · obtain rfl : j = 14 := by omega
      go_wp2
      go_ret
      exact ⟨rfl, hbl⟩

/-- The length of a text in a slot. -/
def strSize : Value → Nat | .string b => b.size | _ => 0
theorem bt_hex (n m : Nat) (hm : 1 ≤ m) (w : World) : (Instr.index 9 (Value.string (hexB n m)) (Value.int .i64 ((m : Int) - 1))).run Tryz.prog w = .ok (.int .u8 ((hd n (m - 1)).toNat : Nat)) w := by
  have hs := hexB_size n m
  rw [run_index_string w _ _ _ _ Tryz.underlying9, dif_pos (by rw [hs]; constructor <;> omega)]
  have e : ((m : Int) - 1).toNat = m - 1 := by omega
  have h2 : (hexB n m)[((m : Int) - 1).toNat]'(by rw [hs]; omega) = hd n (m - 1) := by
    show ((tab (hd n) m).toArray)[((m : Int) - 1).toNat]'(by rw [List.size_toArray, tab_len]; omega) = hd n (m - 1)
    rw [List.getElem_toArray]
    have := tab_get (hd n) m (m - 1) (by omega)
    rw [List.getElem?_eq_getElem (by rw [tab_len]; omega)] at this
    simp only [e]
    exact Option.some.inj this
  rw [h2]
theorem cut_hex (n m : Nat) (hm : 1 ≤ m) (w : World) : (Instr.slice 9 (Value.string (hexB n m)) none (some (Value.int .i64 ((m : Int) - 1))) none).run Tryz.prog w = .ok (.string (hexB n (m - 1))) w := by
  have hs := hexB_size n m
  rw [run_slice_string_h w _ _ Tryz.underlying9 _ _ (by omega) (by rw [hs]; omega)]
  have e : ((m : Int) - 1).toNat = m - 1 := by omega
  rw [e, extract_hex n m (m - 1) (by omega)]

theorem th_c (n : Nat) (hlt : n < 72057594037927936) (w : World) :
    Calls Tryz.prog 53 #[.int .i64 n] w fun e w' => ∃ m, 1 ≤ m ∧ m ≤ 14 ∧ e = .returned (.tuple #[.string (hexB n m), .int .i64 0]) ∧ Hid ((∀ j, m ≤ j → j < 14 → hd n j = 48) ∧ (m = 1 ∨ hd n (m - 1) ≠ 48)) ∧ Below w.heap.size w w' := by
  have hl : (n : Int) < 72057594037927936 := by omega
  have D := hidp (digits_c n)
  clear hlt
  go_enter Tryz.func53, Tryz.ntmps53
  go_wp2_with (first | (go_at_call 91; go_in) | fail)
  refine (D.out _).mono ?_
  rintro e wa ⟨rfl, hba⟩
  go_wp2_with fail
  go_loopw [4] (fun s wr => ∃ m S, 1 ≤ m ∧ m ≤ 14 ∧ Hid (S = hexB n m) ∧ s = .string S ∧ Hid (∀ j, m ≤ j → j < 14 → hd n j = 48) ∧ Below w.heap.size w wr) (fun s _ => strSize s)
  case atStart => exact ⟨14, _, by omega, by omega, hidp rfl, rfl, fun j h1 h2 => by omega, hba⟩
  case round =>
    obtain ⟨m, S, hm1, hm2, hS, rfl, hz, hbl⟩ := hrel
    have hsz : S.size = m := by rw [hS.out]; exact hexB_size n m
    by_cases hgt : 1 < m
    · have hgt1 : (1 : Int) < (m : Int) := by omega
      have hI := bt_hex n m hm1
      have hC := cut_hex n m hm1
      rw [← hS.out] at hI hC
      obtain ⟨S', hS'⟩ : ∃ S', S' = hexB n (m - 1) := ⟨_, rfl⟩
      rw [← hS'] at hC
      have HS' := hidp hS'
      clear hS'
      by_cases h48 : hd n (m - 1) = 48
      · have h48' : (((hd n (m - 1)).toNat : Nat) : Int) = 48 := by rw [h48]; rfl
        rw [h48'] at hI
        have H48 := hidp h48
        clear h48 h48'
        go_wp2
        go_roundw
        case rel => exact ⟨m - 1, S', by omega, by omega, HS', rfl, fun j h1 h2 => by
          by_cases h : j = m - 1
          · rw [h]; exact H48.out
          · exact hz.out j (by omega) h2, hbl⟩
        case measure =>
          show S'.size < S.size
          rw [HS'.out, hexB_size, hS.out, hexB_size]; omega
      · have h48' : ((((hd n (m - 1)).toNat : Nat) : Int) == 48) = false := by
          rw [beq_eq_false_iff_ne]
          intro e
          apply h48
          have : (hd n (m - 1)).toNat = 48 := by omega
          exact UInt8.toNat_inj.1 (by rw [this]; rfl)
        have H48 := hidp h48
        clear h48
        go_wp2
        go_ret2
        exact ⟨m, hm1, hm2, by rw [← hS.out]; rfl, ⟨hz.out, .inr H48.out⟩, hbl⟩
    · obtain rfl : m = 1 := by omega
      go_wp2
      go_ret2
      exact ⟨1, by omega, by omega, by rw [← hS.out]; rfl, ⟨hz.out, .inl rfl⟩, hbl⟩

theorem rv_c (n : Nat) (hlt : n < 72057594037927936) (w : World) :
    Calls Tryz.prog 98 #[.int .i64 n] w fun e w' => e = .returned (.tuple #[.string (hexB n 14), .int .i64 0]) ∧ Below w.heap.size w w' := by
  have hl : (n : Int) < 72057594037927936 := by omega
  have D := hidp (digits_c n)
  clear hlt
  go_enter Tryz.func98, Tryz.ntmps98
  go_wp2_with (first | (go_at_call 91; go_in) | fail)
  refine (D.out _).mono ?_
  rintro e wa ⟨rfl, hba⟩
  go_wp2
  go_ret2
  exact ⟨rfl, hba⟩
end Go.Proofs.YtgodgfnfaiiohaaGreatDoor

/- Reading hexadecimal digits, and the order of texts (plain Lean). -/
namespace Go.Proofs.YtgodgfnfaiiohaaGreatDoor

/-- Byte i of a text. -/
def byt (s : ByteArray) (i : Nat) : Nat := (s.data.toList.getD i 0).toNat
def dgOk (c : Nat) : Bool := decide ((48 ≤ c ∧ c ≤ 57) ∨ (97 ≤ c ∧ c ≤ 102))
def dgV (c : Nat) : Nat := if c ≤ 57 then c - 48 else c - 87
theorem dgV_lt (c : Nat) (h : dgOk c = true) : dgV c < 16 := by
  simp only [dgOk, decide_eq_true_eq] at h
  unfold dgV
  split <;> omega
/-- Digit k of a text, 0 behind its end. -/
def dgt (s : ByteArray) (k : Nat) : Nat := if k < s.size then dgV (byt s k) else 0
def pvD (d : Nat → Nat) : Nat → Nat
  | 0 => 0
  | k + 1 => pvD d k * 16 + d k
def pOk (s : ByteArray) : Nat → Bool
  | 0 => true
  | k + 1 => pOk s k && (decide (s.size ≤ k) || dgOk (byt s k))
theorem pOk_at (s : ByteArray) : ∀ n, pOk s n = true → ∀ k, k < n → k < s.size → dgOk (byt s k) = true
  | 0, _, k, hk, _ => by omega
  | n + 1, h, k, hk, hs => by
    simp only [pOk, Bool.and_eq_true, Bool.or_eq_true, decide_eq_true_eq] at h
    by_cases e : k = n
    · subst e
      rcases h.2 with h2 | h2
      · omega
      · exact h2
    · exact pOk_at s n h.1 k (by omega) hs
theorem pOk_of (s : ByteArray) : ∀ n, (∀ k, k < n → k < s.size → dgOk (byt s k) = true) → pOk s n = true
  | 0, _ => rfl
  | n + 1, h => by
    simp only [pOk, Bool.and_eq_true, Bool.or_eq_true, decide_eq_true_eq]
    refine ⟨pOk_of s n (fun k hk hs => h k (by omega) hs), ?_⟩
    by_cases e : s.size ≤ n
    · exact .inl e
    · exact .inr (h n (by omega) (by omega))
theorem dgt_lt (s : ByteArray) (n : Nat) (h : pOk s n = true) (k : Nat) (hk : k < n) : dgt s k < 16 := by
  unfold dgt
  split
  · exact dgV_lt _ (pOk_at s n h k hk (by assumption))
  · omega
theorem pvD_lt (d : Nat → Nat) : ∀ n, (∀ i, i < n → d i < 16) → pvD d n < 16 ^ n
  | 0, _ => by simp [pvD]
  | n + 1, h => by
    have a := pvD_lt d n (fun i hi => h i (by omega))
    have b := h n (by omega)
    simp only [pvD]
    rw [Nat.pow_succ]
    omega
theorem byt_lt (s : ByteArray) (i : Nat) : byt s i < 256 := UInt8.toNat_lt _
theorem trim_same (a m m' : Nat) (hm1 : 1 ≤ m) (hm1' : 1 ≤ m') (hm : m ≤ 14) (hm' : m' ≤ 14) (za : ∀ j, m ≤ j → j < 14 → hd a j = 48) (zb : ∀ j, m' ≤ j → j < 14 → hd a j = 48) (ta : m = 1 ∨ hd a (m - 1) ≠ 48) (tb : m' = 1 ∨ hd a (m' - 1) ≠ 48) : m = m' := by
  rcases Nat.lt_trichotomy m m' with h | h | h
  · rcases tb with tb | tb
    · omega
    · exact absurd (za (m' - 1) (by omega) (by omega)) tb
  · exact h
  · rcases ta with ta | ta
    · omega
    · exact absurd (zb (m - 1) (by omega) (by omega)) ta
end Go.Proofs.YtgodgfnfaiiohaaGreatDoor

/- Contracts of hexa.parse, ParseTh, ParseRv at every text. -/
namespace Go.Proofs.YtgodgfnfaiiohaaGreatDoor
open Go.ChangeShapes Go.WideShapes Go.ChangeAt Go.RowKit
set_option maxRecDepth 20000

theorem index_byt (s : ByteArray) (k : Nat) (h : k < s.size) (w : World) : (Instr.index 9 (Value.string s) (Value.int .i64 (k : Int))).run Tryz.prog w = .ok (.int .u8 (byt s k : Nat)) w := by
  rw [run_index_string w _ _ _ _ Tryz.underlying9, dif_pos (by constructor <;> omega)]
  have e : ((k : Int)).toNat = k := by omega
  have h2 : (s[((k : Int)).toNat]'(by omega)).toNat = byt s k := by
    simp only [e]
    unfold byt
    rw [List.getD_eq_getElem?_getD, List.getElem?_eq_getElem (by simpa using h)]
    rfl
  rw [h2]
def pvI (s : ByteArray) (k : Nat) : Int := (pvD (dgt s) k : Nat)
theorem pvI_step (s : ByteArray) (k : Nat) (h : k < s.size) : pvI s (k + 1) = pvI s k * 16 + (dgV (byt s k) : Nat) := by
  unfold pvI
  simp only [pvD]
  rw [show dgt s k = dgV (byt s k) by unfold dgt; rw [if_pos h]]
  omega
theorem pvI_skip (s : ByteArray) (k : Nat) (h : ¬ k < s.size) : pvI s (k + 1) = pvI s k * 16 := by
  unfold pvI
  simp only [pvD]
  rw [show dgt s k = 0 by unfold dgt; rw [if_neg h]]
  omega
theorem pvI_bd (s : ByteArray) (k : Nat) (hk : k ≤ 14) (h : pOk s k = true) : 0 ≤ pvI s k ∧ pvI s k ≤ 72057594037927936 := by
  have a := pvD_lt (dgt s) k (fun i hi => dgt_lt s k h i hi)
  have b : 16 ^ k ≤ 16 ^ 14 := Nat.pow_le_pow_right (by omega) hk
  have c : (16 : Nat) ^ 14 = 72057594037927936 := rfl
  unfold pvI
  omega
/-- What parse tells. -/
def prV (s : ByteArray) : Int := if pOk s 14 = true then pvI s 14 else 0
set_option maxHeartbeats 2000000 in
theorem parse_c (s : ByteArray) (w : World) :
    Calls Tryz.prog 137 #[.string s] w fun e w' => e = .returned (.tuple #[.int .i64 (prV s), .bool (pOk s 14)]) ∧ w = w' := by
  have IX := hidp (index_byt s)
  have S1 := hidp (pvI_step s)
  have S2 := hidp (pvI_skip s)
  have BD := hidp (pvI_bd s)
  have OKS := hidp (fun k => show pOk s (k + 1) = (pOk s k && (decide (s.size ≤ k) || dgOk (byt s k))) from rfl)
  go_enter Tryz.func137, Tryz.ntmps137
  go_wp2_with fail
  go_loop [4, 7] (fun n i => ∃ k : Nat, k ≤ 14 ∧ i = .int .i64 k ∧ n = .int .i64 (pvI s k) ∧ Hid (pOk s k = true)) (fun _ i => 14 - (intOf i).toNat)
  case atStart => exact ⟨0, by omega, rfl, rfl, rfl⟩
  case round =>
    obtain ⟨k, hk, rfl, rfl, ok⟩ := hrel
    obtain ⟨b1, b2⟩ := BD.out k hk ok.out
    by_cases hlt : k < 14
    · by_cases hks : k < s.size
      · have q := IX.out k hks
        have hc := byt_lt s k
        have E := hidp (S1.out k hks)
        have O := hidp (OKS.out k)
        have V := hidp (show dgV (byt s k) = if byt s k ≤ 57 then byt s k - 48 else byt s k - 87 from rfl)
        have KS := hidp hks
        have hks' : ¬ (s.size : Int) ≤ (k : Int) := by omega
        generalize byt s k = c at *
        by_cases h1 : 48 ≤ c ∧ c ≤ 57
        · obtain ⟨h1, h2⟩ := h1
          clear hks
          go_wp2_with fail
          go_round
          case rel => exact ⟨k + 1, by omega, by go_num, v_int (by rw [E.out, V.out, if_pos h2]; omega), hidp (by rw [O.out, ok.out, show dgOk c = true from decide_eq_true (.inl ⟨h1, h2⟩)]; simp)⟩
          case measure => simp [intOf]; omega
        · by_cases h2 : 97 ≤ c ∧ c ≤ 102
          · obtain ⟨h2, h3⟩ := h2
            have h4 : ¬ (c : Int) ≤ 57 := by omega
            clear hks h1
            go_wp2_with fail
            go_round
            case rel => exact ⟨k + 1, by omega, by go_num, v_int (by rw [E.out, V.out, if_neg (by omega)]; omega), hidp (by rw [O.out, ok.out, show dgOk c = true from decide_eq_true (.inr ⟨h2, h3⟩)]; simp)⟩
            case measure => simp [intOf]; omega
          · have hno : dgOk c = false := decide_eq_false (fun h => h.elim h1 h2)
            have NO := hidp (show pOk s 14 = false by
              cases hp : pOk s 14 with
              | false => rfl
              | true =>
                exfalso
                have a := pOk_at s 14 hp
                have := pOk_of s (k + 1) (fun j hj hs => a j (by omega) hs)
                rw [O.out, ok.out, hno, decide_eq_false (by have := KS.out; omega)] at this
                cases this)
            have PV := hidp (show prV s = 0 by unfold prV; rw [NO.out]; rfl)
            clear hno hks
            by_cases g1 : 48 ≤ c
            · have g2 : ¬ (c : Int) ≤ 57 := by omega
              by_cases g3 : 97 ≤ c
              · have g4 : ¬ (c : Int) ≤ 102 := by omega
                clear h1 h2
                go_wp2_with fail
                go_ret2
                exact ⟨by rw [PV.out, NO.out] <;> rfl, rfl⟩
              · have g3' : ¬ (97 : Int) ≤ (c : Int) := by omega
                clear h1 h2 g3
                go_wp2_with fail
                go_ret2
                exact ⟨by rw [PV.out, NO.out] <;> rfl, rfl⟩
            · have g1' : ¬ (48 : Int) ≤ (c : Int) := by omega
              have g3' : ¬ (97 : Int) ≤ (c : Int) := by omega
              clear h1 h2 g1
              go_wp2_with fail
              go_ret2
              exact ⟨by rw [PV.out, NO.out] <;> rfl, rfl⟩
      · have E := hidp (S2.out k hks)
        have O := hidp (OKS.out k)
        have hks' : (s.size : Int) ≤ (k : Int) := by omega
        have KS := hidp hks
        clear hks
        go_wp2_with fail
        go_round
        case rel => exact ⟨k + 1, by omega, by go_num, v_int (by rw [E.out]), hidp (by rw [O.out, ok.out, decide_eq_true (by omega)]; simp)⟩
        case measure => simp [intOf]; omega
    · obtain rfl : k = 14 := by omega
      have PV := hidp (show prV s = pvI s 14 by unfold prV; rw [if_pos ok.out])
      go_wp2_with fail
      go_ret2
      exact ⟨by rw [PV.out, ok.out] <;> rfl, rfl⟩
/-- Is it the text of a threshold? -/
def thOk (s : ByteArray) : Bool := pOk s 14 && decide (1 ≤ s.size ∧ s.size ≤ 14 ∧ (s.size = 1 ∨ byt s (s.size - 1) ≠ 48))
def thV (s : ByteArray) : Int := if thOk s = true then pvI s 14 else 0
def thE (s : ByteArray) : Int := if thOk s = true then 0 else 3
def rvOk (s : ByteArray) : Bool := pOk s 14 && decide (s.size = 14)
def rvV (s : ByteArray) : Int := if rvOk s = true then pvI s 14 else 0
def rvE (s : ByteArray) : Int := if rvOk s = true then 0 else 3
theorem parseRv_c (s : ByteArray) (w : World) :
    Calls Tryz.prog 97 #[.string s] w fun e w' => e = .returned (.tuple #[.int .i64 (rvV s), .int .i64 (rvE s)]) ∧ w = w' := by
  have C := hidp (parse_c s)
  have P1 := hidp (show pOk s 14 = true → prV s = pvI s 14 from fun h => by unfold prV; rw [if_pos h])
  have R := hidp (show rvOk s = (pOk s 14 && decide (s.size = 14)) from rfl)
  have R1 := hidp (show rvOk s = true → rvV s = pvI s 14 ∧ rvE s = 0 from fun h => by unfold rvV rvE; rw [if_pos h, if_pos h]; exact ⟨rfl, rfl⟩)
  have R0 := hidp (show rvOk s = false → rvV s = 0 ∧ rvE s = 3 from fun h => by unfold rvV rvE; rw [h]; exact ⟨rfl, rfl⟩)
  go_enter Tryz.func97, Tryz.ntmps97
  go_wp2_with fail
  refine (C.out _).mono ?_; rintro e w' ⟨rfl, rfl⟩
  cases hp : pOk s 14 with
  | false =>
    have H := hidp (R0.out (by rw [R.out, hp]; rfl))
    clear hp
    go_wp2_with fail
    go_ret2
    exact ⟨by rw [H.out.1, H.out.2] <;> rfl, rfl⟩
  | true =>
    by_cases h14 : s.size = 14
    · have H := hidp (R1.out (by rw [R.out, hp, decide_eq_true h14]; rfl))
      have PV := hidp (P1.out hp)
      have hne : (((s.size : Nat) : Int) != 14) = false := by rw [h14]; rfl
      clear hp h14
      go_wp2_with fail
      go_ret2
      exact ⟨by rw [H.out.1, H.out.2, PV.out] <;> rfl, rfl⟩
    · have H := hidp (R0.out (by rw [R.out, hp, decide_eq_false h14]; rfl))
      have hne : (((s.size : Nat) : Int) != 14) = true := by rw [bne_iff_ne]; omega
      clear hp h14
      go_wp2_with fail
      go_ret2
      exact ⟨by rw [H.out.1, H.out.2] <;> rfl, rfl⟩
end Go.Proofs.YtgodgfnfaiiohaaGreatDoor
