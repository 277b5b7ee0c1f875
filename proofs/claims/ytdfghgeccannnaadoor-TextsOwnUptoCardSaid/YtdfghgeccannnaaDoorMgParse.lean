/- Merged: ParseMath, Parse. -/
import Derived.Test.YtdfghgeccannnaaDoorHexa
/- Reading hexadecimal digits, and the order of texts (plain Lean). -/
namespace Go.Proofs.YtdfghgeccannnaaDoor

/-- Byte i of a text. -/
def byt (s : ByteArray) (i : Nat) : Nat := (s.data.toList.getD i 0).toNat
def dgOk (c : Nat) : Bool := decide ((48 ≤ c ∧ c ≤ 57) ∨ (97 ≤ c ∧ c ≤ 102))
def dgV (c : Nat) : Nat := if c ≤ 57 then c - 48 else c - 87
theorem dgV_lt (c : Nat) (h : dgOk c = true) : dgV c < 16 := by
  simp only [dgOk, decide_eq_true_eq] at h
  unfold dgV
  split <;> omega
theorem hc_ok : ∀ d, d < 16 → dgOk (hc d).toNat = true ∧ dgV (hc d).toNat = d := by decide +kernel
theorem hc_mono : ∀ d, d < 16 → ∀ e, e < 16 → d < e → hc d < hc e := by decide +kernel
theorem hc_48 : ∀ d, d < 16 → (hc d = 48 ↔ d = 0) := by decide +kernel
theorem hc_dgV : ∀ c, c < 256 → dgOk c = true → (hc (dgV c)).toNat = c := by decide +kernel
/-- Digit k of a text, 0 behind its end. -/
def dgt (s : ByteArray) (k : Nat) : Nat := if k < s.size then dgV (byt s k) else 0
def pvD (d : Nat → Nat) : Nat → Nat
  | 0 => 0
  | k + 1 => pvD d k * 16 + d k
def pOk (s : ByteArray) : Nat → Bool
  | 0 => true
  | k + 1 => pOk s k && (decide (s.size ≤ k) || dgOk (byt s k))
theorem pOk_at (s : ByteArray) : ∀ n, pOk s n = true → ∀ k, k < n → k < s.size → dgOk (byt s k) = true
  | 0, _, k, hk, _ => by omega
  | n + 1, h, k, hk, hs => by
    simp only [pOk, Bool.and_eq_true, Bool.or_eq_true, decide_eq_true_eq] at h
    by_cases e : k = n
    · subst e
      rcases h.2 with h2 | h2
      · omega
      · exact h2
    · exact pOk_at s n h.1 k (by omega) hs
theorem pOk_of (s : ByteArray) : ∀ n, (∀ k, k < n → k < s.size → dgOk (byt s k) = true) → pOk s n = true
  | 0, _ => rfl
  | n + 1, h => by
    simp only [pOk, Bool.and_eq_true, Bool.or_eq_true, decide_eq_true_eq]
    refine ⟨pOk_of s n (fun k hk hs => h k (by omega) hs), ?_⟩
    by_cases e : s.size ≤ n
    · exact .inl e
    · exact .inr (h n (by omega) (by omega))
theorem dgt_lt (s : ByteArray) (n : Nat) (h : pOk s n = true) (k : Nat) (hk : k < n) : dgt s k < 16 := by
  unfold dgt
  split
  · exact dgV_lt _ (pOk_at s n h k hk (by assumption))
  · omega
theorem pvD_lt (d : Nat → Nat) : ∀ n, (∀ i, i < n → d i < 16) → pvD d n < 16 ^ n
  | 0, _ => by simp [pvD]
  | n + 1, h => by
    have a := pvD_lt d n (fun i hi => h i (by omega))
    have b := h n (by omega)
    simp only [pvD]
    rw [Nat.pow_succ]
    omega
theorem pvD_div (d : Nat → Nat) (j : Nat) : ∀ e, (∀ i, i < j + e → d i < 16) → pvD d (j + e) / 16 ^ e = pvD d j
  | 0, _ => by simp
  | e + 1, h => by
    have a := pvD_div d j e (fun i hi => h i (by omega))
    have b := h (j + e) (by omega)
    rw [show j + (e + 1) = (j + e) + 1 by omega, Nat.pow_succ, Nat.mul_comm, ← Nat.div_div_eq_div_mul]
    simp only [pvD]
    rw [show (pvD d (j + e) * 16 + d (j + e)) / 16 = pvD d (j + e) by omega, a]
theorem hn_pv (d : Nat → Nat) (h : ∀ i, i < 14 → d i < 16) (j : Nat) (hj : j < 14) : hn (pvD d 14) j = d j := by
  have a := pvD_div d (j + 1) (13 - j) (fun i hi => h i (by omega))
  rw [show j + 1 + (13 - j) = 14 by omega] at a
  have b := h j hj
  unfold hn
  rw [a]
  simp only [pvD]
  omega
theorem div_step (n k : Nat) (hk : k < 14) : n / 16 ^ (14 - k) = n / 16 ^ (13 - k) / 16 := by
  rw [show 14 - k = (13 - k) + 1 by omega, Nat.pow_succ, Nat.div_div_eq_div_mul]
theorem pv_hn (n : Nat) (h : n < 72057594037927936) (d : Nat → Nat) (hd : ∀ j, j < 14 → d j = hn n j) : ∀ k, k ≤ 14 → pvD d k = n / 16 ^ (14 - k)
  | 0, _ => by
    rw [show 16 ^ (14 - 0) = 72057594037927936 from rfl, Nat.div_eq_of_lt h]; rfl
  | k + 1, hk => by
    have a := pv_hn n h d hd k (by omega)
    rw [div_step n k (by omega)] at a
    simp only [pvD]
    rw [a, hd k (by omega), show 14 - (k + 1) = 13 - k by omega]
    unfold hn
    omega
theorem pv_all (n : Nat) (h : n < 72057594037927936) (d : Nat → Nat) (hd : ∀ j, j < 14 → d j = hn n j) : pvD d 14 = n := by
  rw [pv_hn n h d hd 14 (Nat.le_refl _)]; simp
/-- The digits of a text that was written. -/
theorem byt_hex (n m k : Nat) (h : k < m) : byt (hexB n m) k = (hd n k).toNat := by
  unfold byt hexB
  rw [List.getD_eq_getElem?_getD]
  show ((tab (hd n) m)[k]?.getD 0).toNat = _
  rw [tab_get _ _ _ h]; rfl
theorem hd_0 (n j : Nat) : hd n j = 48 ↔ hn n j = 0 := hc_48 _ (hn_lt n j)
theorem hex_ok (n m : Nat) : pOk (hexB n m) 14 = true := pOk_of _ _ (fun k _ hs => by
  rw [hexB_size] at hs
  rw [byt_hex n m k hs]
  exact (hc_ok _ (hn_lt n k)).1)
theorem hex_read (n m : Nat) (h : n < 72057594037927936) (hz : ∀ j, m ≤ j → j < 14 → hd n j = 48) : pvD (dgt (hexB n m)) 14 = n := pv_all n h _ (fun j hj => by
  unfold dgt
  rw [hexB_size]
  by_cases e : j < m
  · rw [if_pos e, byt_hex n m j e]
    exact (hc_ok _ (hn_lt n j)).2
  · rw [if_neg e]
    exact ((hd_0 n j).1 (hz j (by omega) hj)).symm)
theorem byt_lt (s : ByteArray) (i : Nat) : byt s i < 256 := UInt8.toNat_lt _
theorem text_ext (s : ByteArray) (n m : Nat) (hs : s.size = m) (h : ∀ j, j < m → byt s j = (hd n j).toNat) : hexB n m = s := by
  apply ByteArray.ext
  apply Array.ext'
  show tab (hd n) m = s.data.toList
  have hl : s.data.toList.length = m := hs
  apply List.ext_getElem?
  intro i
  by_cases hi : i < m
  · rw [tab_get _ _ _ hi, List.getElem?_eq_getElem (by omega)]
    have := h i hi
    unfold byt at this
    rw [List.getD_eq_getElem?_getD, List.getElem?_eq_getElem (by omega)] at this
    exact congrArg some (UInt8.toNat_inj.1 this).symm
  · rw [List.getElem?_eq_none (by rw [tab_len]; omega), List.getElem?_eq_none (by omega)]
/-- The digits of a number that was read. -/
theorem hd_read (s : ByteArray) (h : pOk s 14 = true) (j : Nat) (hj : j < 14) : (hd (pvD (dgt s) 14) j).toNat = if j < s.size then byt s j else 48 := by
  unfold hd
  rw [hn_pv _ (fun i hi => dgt_lt s 14 h i hi) j hj]
  unfold dgt
  by_cases e : j < s.size
  · rw [if_pos e, if_pos e]
    exact hc_dgV _ (byt_lt s j) (pOk_at s 14 h j hj e)
  · rw [if_neg e, if_neg e]; rfl
theorem read_lt (s : ByteArray) (h : pOk s 14 = true) : pvD (dgt s) 14 < 72057594037927936 := pvD_lt _ 14 (fun i hi => dgt_lt s 14 h i hi)
/-- Written again, a full text is the same. -/
theorem back_rv (s : ByteArray) (h : pOk s 14 = true) (hs : s.size = 14) : hexB (pvD (dgt s) 14) 14 = s := text_ext s _ 14 hs (fun j hj => by
  rw [hd_read s h j hj, if_pos (by omega)])
theorem back_th (s : ByteArray) (h : pOk s 14 = true) (h1 : 1 ≤ s.size) (h14 : s.size ≤ 14) (hl : s.size = 1 ∨ byt s (s.size - 1) ≠ 48) (m : Nat) (hm1 : 1 ≤ m) (hm2 : m ≤ 14)
    (hz : ∀ j, m ≤ j → j < 14 → hd (pvD (dgt s) 14) j = 48) (hm : m = 1 ∨ hd (pvD (dgt s) 14) (m - 1) ≠ 48) : hexB (pvD (dgt s) 14) m = s := by
  have e : m = s.size := by
    rcases Nat.lt_trichotomy m s.size with hlt | heq | hgt
    · exfalso
      rcases hl with hl | hl
      · omega
      · have := hd_read s h (s.size - 1) (by omega)
        rw [hz _ (by omega) (by omega), if_pos (by omega)] at this
        exact hl this.symm
    · exact heq
    · exfalso
      rcases hm with hm | hm
      · omega
      · have := hd_read s h (m - 1) (by omega)
        rw [if_neg (by omega)] at this
        exact hm (UInt8.toNat_inj.1 (by rw [this]; rfl))
  exact text_ext s _ m e.symm (fun j hj => by rw [hd_read s h j (by omega), if_pos (by omega)])

/-- Of two texts the one with the lesser byte, where they first differ, or that ends first, is less. -/
theorem less_of : ∀ (x y : List UInt8) (j : Nat), (∀ i, i < j → x[i]? = y[i]?) → ((x.length = j ∧ j < y.length) ∨ ∃ u v, x[j]? = some u ∧ y[j]? = some v ∧ u < v) → Op.bytesLess x y = true
  | [], [], j, _, h => by
    rcases h with ⟨_, h⟩ | ⟨u, v, h, _⟩
    · simp at h
    · simp at h
  | [], _ :: _, _, _, _ => rfl
  | a :: x, [], j, hp, h => by
    rcases h with ⟨_, h⟩ | ⟨u, v, _, h, _⟩
    · simp at h
    · simp at h
  | a :: x, b :: y, 0, hp, h => by
    rcases h with ⟨h, _⟩ | ⟨u, v, h1, h2, h3⟩
    · simp at h
    · simp at h1 h2
      subst h1 h2
      simp [Op.bytesLess, h3]
  | a :: x, b :: y, j + 1, hp, h => by
    have h0 := hp 0 (by omega)
    simp at h0
    subst h0
    have ih := less_of x y j (fun i hi => by simpa using hp (i + 1) (by omega)) (by
      rcases h with ⟨h1, h2⟩ | ⟨u, v, h1, h2, h3⟩
      · exact .inl ⟨by simpa using h1, by simpa using h2⟩
      · exact .inr ⟨u, v, by simpa using h1, by simpa using h2, h3⟩)
    simp [Op.bytesLess, ih]
theorem less_irrefl : ∀ x : List UInt8, Op.bytesLess x x = false
  | [] => rfl
  | a :: x => by simp [Op.bytesLess, less_irrefl x]
theorem less_asymm : ∀ x y : List UInt8, Op.bytesLess x y = true → Op.bytesLess y x = false
  | [], [], h => by simp [Op.bytesLess] at h
  | [], _ :: _, _ => rfl
  | _ :: _, [], h => by simp [Op.bytesLess] at h
  | a :: x, b :: y, h => by
    simp only [Op.bytesLess, Bool.or_eq_true, Bool.and_eq_true, decide_eq_true_eq, beq_iff_eq] at h
    rw [Op.bytesLess, Bool.or_eq_false_iff]
    rcases h with h | ⟨rfl, h⟩
    · refine ⟨decide_eq_false (fun h2 => ?_), ?_⟩
      · exact absurd (UInt8.lt_trans h h2) (UInt8.lt_irrefl _)
      · rw [Bool.and_eq_false_iff]
        left
        rw [beq_eq_false_iff_ne]
        rintro rfl
        exact UInt8.lt_irrefl _ h
    · refine ⟨decide_eq_false (UInt8.lt_irrefl _), ?_⟩
      rw [less_asymm x y h]; simp
theorem first_diff (a b : Nat) (hab : a ≤ b) (hb : b < 72057594037927936) : ∀ k, k ≤ 14 → ((∀ i, i < k → hn a i = hn b i) ∧ a / 16 ^ (14 - k) = b / 16 ^ (14 - k)) ∨ ∃ j, j < k ∧ (∀ i, i < j → hn a i = hn b i) ∧ hn a j < hn b j
  | 0, _ => .inl ⟨fun i hi => by omega, by
      rw [show 16 ^ (14 - 0) = 72057594037927936 from rfl, Nat.div_eq_of_lt (by omega), Nat.div_eq_of_lt hb]⟩
  | k + 1, hk => by
    rcases first_diff a b hab hb k (by omega) with ⟨h1, h2⟩ | ⟨j, h1, h2, h3⟩
    · rw [div_step a k (by omega), div_step b k (by omega)] at h2
      have hle : a / 16 ^ (13 - k) ≤ b / 16 ^ (13 - k) := Nat.div_le_div_right hab
      by_cases e : hn a k = hn b k
      · refine .inl ⟨fun i hi => ?_, ?_⟩
        · by_cases ei : i = k
          · rw [ei]; exact e
          · exact h1 i (by omega)
        · unfold hn at e
          rw [show 14 - (k + 1) = 13 - k by omega]
          omega
      · refine .inr ⟨k, by omega, h1, ?_⟩
        unfold hn at e ⊢
        omega
    · exact .inr ⟨j, by omega, h2, h3⟩
theorem less_hex (a b m m' : Nat) (hab : a < b) (hb : b < 72057594037927936) (zb : ∀ j, m' ≤ j → j < 14 → hd b j = 48) : Op.bytesLess (tab (hd a) m) (tab (hd b) m') = true := by
  obtain ⟨j, hj, hp, hlt⟩ : ∃ j, j < 14 ∧ (∀ i, i < j → hn a i = hn b i) ∧ hn a j < hn b j := by
    rcases first_diff a b (by omega) hb 14 (Nat.le_refl _) with ⟨_, h2⟩ | h
    · simp at h2; omega
    · exact h
  have hjm : j < m' := by
    rcases Nat.lt_or_ge j m' with h | h
    · exact h
    · have := (hd_0 b j).1 (zb j h hj)
      omega
  have hpd : ∀ i, i < j → hd a i = hd b i := fun i hi => by unfold hd; rw [hp i hi]
  rcases Nat.lt_or_ge j m with h | h
  · refine less_of _ _ j (fun i hi => ?_) (.inr ⟨hd a j, hd b j, tab_get _ _ _ h, tab_get _ _ _ hjm, hc_mono _ (hn_lt a j) _ (hn_lt b j) hlt⟩)
    rw [tab_get _ _ _ (by omega), tab_get _ _ _ (by omega), hpd i hi]
  · refine less_of _ _ m (fun i hi => ?_) (.inl ⟨tab_len _ _, by rw [tab_len]; omega⟩)
    rw [tab_get _ _ _ (by omega), tab_get _ _ _ (by omega), hpd i (by omega)]
/-- The texts are in the order of the numbers. -/
theorem order_hex (a b m m' : Nat) (ha : a < 72057594037927936) (hb : b < 72057594037927936) (hm : m ≤ 14) (hm' : m' ≤ 14) (za : ∀ j, m ≤ j → j < 14 → hd a j = 48) (zb : ∀ j, m' ≤ j → j < 14 → hd b j = 48) (hab : a = b → m = m') :
    Op.bytesLess (tab (hd a) m) (tab (hd b) m') = decide ((a : Int) < (b : Int)) := by
  rcases Nat.lt_trichotomy a b with h | h | h
  · rw [less_hex a b m m' h hb zb, decide_eq_true (by omega)]
  · have e := hab h
    subst h e
    rw [less_irrefl, decide_eq_false (by omega)]
  · rw [less_asymm _ _ (less_hex b a m' m h ha za), decide_eq_false (by omega)]
theorem trim_same (a m m' : Nat) (hm1 : 1 ≤ m) (hm1' : 1 ≤ m') (hm : m ≤ 14) (hm' : m' ≤ 14) (za : ∀ j, m ≤ j → j < 14 → hd a j = 48) (zb : ∀ j, m' ≤ j → j < 14 → hd a j = 48) (ta : m = 1 ∨ hd a (m - 1) ≠ 48) (tb : m' = 1 ∨ hd a (m' - 1) ≠ 48) : m = m' := by
  rcases Nat.lt_trichotomy m m' with h | h | h
  · rcases tb with tb | tb
    · omega
    · exact absurd (za (m' - 1) (by omega) (by omega)) tb
  · exact h
  · rcases ta with ta | ta
    · omega
    · exact absurd (zb (m - 1) (by omega) (by omega)) ta
end Go.Proofs.YtdfghgeccannnaaDoor

/- Contracts of hexa.parse, ParseTh, ParseRv at every text. -/
namespace Go.Proofs.YtdfghgeccannnaaDoor
open Go.ChangeShapes Go.WideShapes Go.ChangeAt Go.RowKit
set_option maxRecDepth 20000

theorem index_byt (s : ByteArray) (k : Nat) (h : k < s.size) (w : World) : (Instr.index 9 (Value.string s) (Value.int .i64 (k : Int))).run Tryd.prog w = .ok (.int .u8 (byt s k : Nat)) w := by
  rw [run_index_string w _ _ _ _ Tryd.underlying9, dif_pos (by constructor <;> omega)]
  have e : ((k : Int)).toNat = k := by omega
  have h2 : (s[((k : Int)).toNat]'(by omega)).toNat = byt s k := by
    simp only [e]
    unfold byt
    rw [List.getD_eq_getElem?_getD, List.getElem?_eq_getElem (by simpa using h)]
    rfl
  rw [h2]
def pvI (s : ByteArray) (k : Nat) : Int := (pvD (dgt s) k : Nat)
theorem pvI_step (s : ByteArray) (k : Nat) (h : k < s.size) : pvI s (k + 1) = pvI s k * 16 + (dgV (byt s k) : Nat) := by
  unfold pvI
  simp only [pvD]
  rw [show dgt s k = dgV (byt s k) by unfold dgt; rw [if_pos h]]
  omega
theorem pvI_skip (s : ByteArray) (k : Nat) (h : ¬ k < s.size) : pvI s (k + 1) = pvI s k * 16 := by
  unfold pvI
  simp only [pvD]
  rw [show dgt s k = 0 by unfold dgt; rw [if_neg h]]
  omega
theorem pvI_bd (s : ByteArray) (k : Nat) (hk : k ≤ 14) (h : pOk s k = true) : 0 ≤ pvI s k ∧ pvI s k ≤ 72057594037927936 := by
  have a := pvD_lt (dgt s) k (fun i hi => dgt_lt s k h i hi)
  have b : 16 ^ k ≤ 16 ^ 14 := Nat.pow_le_pow_right (by omega) hk
  have c : (16 : Nat) ^ 14 = 72057594037927936 := rfl
  unfold pvI
  omega
/-- What parse tells. -/
def prV (s : ByteArray) : Int := if pOk s 14 = true then pvI s 14 else 0
/-- Is it the text of a threshold? -/
def thOk (s : ByteArray) : Bool := pOk s 14 && decide (1 ≤ s.size ∧ s.size ≤ 14 ∧ (s.size = 1 ∨ byt s (s.size - 1) ≠ 48))
def thV (s : ByteArray) : Int := if thOk s = true then pvI s 14 else 0
def thE (s : ByteArray) : Int := if thOk s = true then 0 else 3
def rvOk (s : ByteArray) : Bool := pOk s 14 && decide (s.size = 14)
def rvV (s : ByteArray) : Int := if rvOk s = true then pvI s 14 else 0
def rvE (s : ByteArray) : Int := if rvOk s = true then 0 else 3
end Go.Proofs.YtdfghgeccannnaaDoor
