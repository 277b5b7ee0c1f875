/- Plain: texts cut at a byte and joined again. -/
import Derived.Lib.SplitLaws
import Derived.Lib.Join
namespace Go.Proofs.YtgodgfnfaiiohaaGreatDoor
open Go.Lib
set_option maxRecDepth 20000
theorem ix_none (c : UInt8) : ∀ l : List UInt8, c ∉ l → index l [c] = -1
  | [], _ => by simp [index]
  | b :: l, h => by
    have hb : b ≠ c := fun e => h (by simp [e])
    have hl : c ∉ l := fun e => h (List.mem_cons_of_mem _ e)
    have hp : ([c] : List UInt8).isPrefixOf (b :: l) = false := by simp [List.isPrefixOf, Ne.symm hb]
    rw [index, hp, ix_none c l hl]
    simp
theorem ix_at (c : UInt8) (r : List UInt8) : ∀ l : List UInt8, c ∉ l → index (l ++ c :: r) [c] = (l.length : Nat)
  | [], _ => by
    show index (c :: r) [c] = _
    rw [index]; simp [List.isPrefixOf]
  | b :: l, h => by
    have hb : b ≠ c := fun e => h (by simp [e])
    have hl : c ∉ l := fun e => h (List.mem_cons_of_mem _ e)
    have hp : ([c] : List UInt8).isPrefixOf (b :: (l ++ c :: r)) = false := by simp [List.isPrefixOf, Ne.symm hb]
    show index (b :: (l ++ c :: r)) [c] = _
    rw [index, hp, ix_at c r l hl]
    rw [if_neg (by simp), if_neg (by simp only [beq_iff_eq]; omega), List.length_cons]
    omega
/-- A list with a byte in it, parted at the first. -/
theorem ix_part (c : UInt8) : ∀ l : List UInt8, c ∈ l → ∃ x y, l = x ++ c :: y ∧ c ∉ x
  | [], h => by cases h
  | b :: l, h => by
    by_cases hb : b = c
    · exact ⟨[], l, by rw [hb]; rfl, by simp⟩
    · obtain ⟨x, y, h1, h2⟩ := ix_part c l ((List.mem_cons.1 h).resolve_left (Ne.symm hb))
      exact ⟨b :: x, y, by rw [h1]; rfl, fun e => (List.mem_cons.1 e).elim (fun e => hb e.symm) h2⟩
theorem cut_none (c : UInt8) (l : List UInt8) (h : c ∉ l) : cut l [c] = (l, [], false) := by
  unfold cut
  rw [ix_none c l h]; rfl
theorem cut_at (c : UInt8) (x y : List UInt8) (h : c ∉ x) : cut (x ++ c :: y) [c] = (x, y, true) := by
  unfold cut
  rw [ix_at c y x h, if_pos (by omega)]
  simp
theorem join_two (c : UInt8) (w v : List UInt8) (r : List (List UInt8)) : join (w :: v :: r) [c] = w ++ c :: join (v :: r) [c] := by
  rw [join_cons, join_cons]
  simp [joinTail]
theorem split_cons (c : UInt8) (x y : List UInt8) (h : c ∉ x) (k : Nat) : splitK [c] 0 (k + 1) (x ++ c :: y) = x :: splitK [c] 0 k y := by
  rw [splitK, ix_at c y x h, if_neg (by simp only [beq_iff_eq]; omega)]
  congr 1 <;> simp
theorem split_ne (c : UInt8) : ∀ (k : Nat) (s : List UInt8), splitK [c] 0 k s ≠ []
  | 0, s => by simp [splitK]
  | k + 1, s => by unfold splitK; split <;> simp
/-- Cut and joined again. -/
theorem join_split (c : UInt8) : ∀ (k : Nat) (s : List UInt8), s.count c = k → join (splitK [c] 0 k s) [c] = s ∧ (splitK [c] 0 k s).length = k + 1 ∧ ∀ w ∈ splitK [c] 0 k s, c ∉ w
  | 0, s, h => by
    refine ⟨join_one s [c], rfl, fun w hw => ?_⟩
    have : w = s := by simpa [splitK] using hw
    rw [this]
    exact List.count_eq_zero.1 h
  | k + 1, s, h => by
    obtain ⟨x, y, rfl, hx⟩ := ix_part c s (List.count_pos_iff.1 (by omega))
    have hy : y.count c = k := by
      rw [List.count_append, List.count_eq_zero.2 hx, List.count_cons_self] at h
      omega
    obtain ⟨h1, h2, h3⟩ := join_split c k y hy
    rw [split_cons c x y hx]
    cases hs : splitK [c] 0 k y with
    | nil => exact absurd hs (split_ne c k y)
    | cons v r =>
      rw [hs] at h1 h2 h3
      refine ⟨by rw [join_two, h1], by simpa using h2, fun w hw => ?_⟩
      rcases List.mem_cons.1 hw with rfl | hw
      · exact hx
      · exact h3 w hw
/-- The word of a pair, as letters. -/
def wdL (p : ByteArray × ByteArray) : List UInt8 := p.1.data.toList ++ 61 :: p.2.data.toList
def wd (p : ByteArray × ByteArray) : ByteArray := ⟨(wdL p).toArray⟩
def txtL (L : List (ByteArray × ByteArray)) : List UInt8 := join (L.map wdL) [44]
def txt (L : List (ByteArray × ByteArray)) : ByteArray := ⟨(txtL L).toArray⟩
/-- What a word is read as. -/
def rdK (w : List UInt8) : ByteArray := ⟨(cut w [61]).1.toArray⟩
def rdV (w : List UInt8) : ByteArray := ⟨(cut w [61]).2.1.toArray⟩
def rdOk (w : List UInt8) : Bool := (cut w [61]).2.2
def rdP (w : List UInt8) : ByteArray × ByteArray := (rdK w, rdV w)
def pcs (s : ByteArray) : List (List UInt8) := splitK [44] 0 (s.data.toList.count 44) s.data.toList
theorem pcs_len (s : ByteArray) : (pcs s).length = s.data.toList.count 44 + 1 := (join_split 44 _ s.data.toList rfl).2.1
theorem ba_eq (s : ByteArray) : (⟨s.data.toList.toArray⟩ : ByteArray) = s := by cases s; rfl
theorem split_size (c : UInt8) : ∀ (k : Nat) (s : List UInt8), s.count c = k → ∀ w ∈ splitK [c] 0 k s, w.length ≤ s.length
  | 0, s, h, w, hw => by
    have : w = s := by simpa [splitK] using hw
    rw [this]; exact Nat.le_refl _
  | k + 1, s, h, w, hw => by
    obtain ⟨x, y, rfl, hx⟩ := ix_part c s (List.count_pos_iff.1 (by omega))
    have hy : y.count c = k := by
      rw [List.count_append, List.count_eq_zero.2 hx, List.count_cons_self] at h
      omega
    rw [split_cons c x y hx] at hw
    rw [List.length_append, List.length_cons]
    rcases List.mem_cons.1 hw with rfl | hw
    · omega
    · have := split_size c k y hy w hw; omega
theorem pcs_size (s : ByteArray) : ∀ w ∈ pcs s, w.length ≤ s.size := fun w hw => by
  have := split_size 44 _ s.data.toList rfl w hw
  rwa [Array.length_toList] at this
theorem cut_len (w : List UInt8) : (cut w [61]).1.length ≤ w.length ∧ (cut w [61]).2.1.length ≤ w.length := by
  by_cases hc : (61 : UInt8) ∈ w
  · obtain ⟨x, y, rfl, hx⟩ := ix_part 61 w hc
    rw [cut_at 61 x y hx, List.length_append, List.length_cons]
    show x.length ≤ _ ∧ y.length ≤ _
    exact ⟨by omega, by omega⟩
  · rw [cut_none 61 w hc]; exact ⟨Nat.le_refl _, Nat.zero_le _⟩
theorem rdP_size (s : ByteArray) (p : ByteArray × ByteArray) (hp : p ∈ (pcs s).map rdP) : p.1.size ≤ s.size ∧ p.2.size ≤ s.size := by
  obtain ⟨w, hw, rfl⟩ := List.mem_map.1 hp
  have h1 := pcs_size s w hw
  have h2 := cut_len w
  refine ⟨?_, ?_⟩
  · show (cut w [61]).1.toArray.size ≤ _
    rw [List.size_toArray]; omega
  · show (cut w [61]).2.1.toArray.size ≤ _
    rw [List.size_toArray]; omega
def mkB (l : List UInt8) : ByteArray := ⟨l.toArray⟩
/-- What strings.Split makes of a text at commas. -/
theorem split_pcs (s : ByteArray) : splitB ⟨#[44]⟩ 0 (countB s ⟨#[44]⟩) s = (pcs s).map mkB ∧ countB s ⟨#[44]⟩ + 1 = (pcs s).length := by
  have hc : countB s ⟨#[44]⟩ = s.data.toList.count 44 := count_one 44 s.data.toList
  have hd := splitB_data ⟨#[44]⟩ 0 (countB s ⟨#[44]⟩) s
  refine ⟨?_, by rw [hc, pcs_len]⟩
  have h2 : (splitB ⟨#[44]⟩ 0 (countB s ⟨#[44]⟩) s).map (fun x => x.data.toList) = pcs s := by
    rw [hd, hc]; rfl
  rw [← h2, List.map_map]
  exact (List.map_id' _).symm.trans (List.map_congr_left (fun x _ => (ba_eq x).symm))
/-- What Read gives. -/
def rL (s : ByteArray) : List (ByteArray × ByteArray) := if s.size = 0 then [] else (pcs s).map rdP
/-- The piece at a place. -/
def pc (P : List (List UInt8)) (k : Nat) : List UInt8 := P.getD k []
theorem pc_get (P : List (List UInt8)) (k : Nat) (h : k < P.length) : P[k]? = some (pc P k) := by
  unfold pc; rw [List.getD_eq_getElem?_getD, List.getElem?_eq_getElem h]; rfl
theorem pc_take (P : List (List UInt8)) (k : Nat) (h : k < P.length) : P.take (k + 1) = P.take k ++ [pc P k] := by
  rw [List.take_add_one, pc_get P k h]; rfl
end Go.Proofs.YtgodgfnfaiiohaaGreatDoor
