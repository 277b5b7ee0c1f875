/- The plain law of marks: what Check and Mark tell does not hang on where a pair stands. -/
import Derived.Test.YtdfghgeccannnaaDoorMgMark
namespace Go.Proofs.YtdfghgeccannnaaDoor
/-- Pairs that may be. -/
def POk (L : List (ByteArray × ByteArray)) : Prop := L.length ≤ 40 ∧ (∀ p ∈ L, keyB p.1 = true ∧ valB p.2 = true) ∧ (L.map Prod.fst).Nodup
theorem pkey_get (L : List (ByteArray × ByteArray)) (k : Nat) (h : k < L.length) : (L.map Prod.fst)[k]'(by simpa using h) = pk L k := by
  rw [List.getElem_map]
  unfold pk
  rw [List.getD_eq_getElem?_getD, List.getElem?_eq_getElem h]; rfl
theorem keyS_iff (L : List (ByteArray × ByteArray)) (z : ByteArray) : ∀ k, keyS L k z.data.toList = true ↔ ∃ i, i < k ∧ pk L i = z
  | 0 => ⟨fun h => (by cases h), fun ⟨i, hi, _⟩ => absurd hi (Nat.not_lt_zero _)⟩
  | k + 1 => by
    simp only [keyS]
    by_cases e : z.data.toList = (pk L k).data.toList
    · rw [if_pos e]
      exact ⟨fun _ => ⟨k, by omega, (data_inj e).symm⟩, fun _ => rfl⟩
    · rw [if_neg e, keyS_iff L z k]
      refine ⟨fun ⟨i, hi, h⟩ => ⟨i, by omega, h⟩, fun ⟨i, hi, h⟩ => ?_⟩
      rcases Nat.lt_or_ge i k with h2 | h2
      · exact ⟨i, h2, h⟩
      · exact absurd (by rw [show i = k by omega] at h; rw [h]) e
theorem chk1_zero (L : List (ByteArray × ByteArray)) (k : Nat) : chk1 L k = 0 ↔ keyB (pk L k) = true ∧ valB (pv L k) = true ∧ ∀ i, i < k → pk L i ≠ pk L k := by
  unfold chk1
  cases h1 : keyB (pk L k) <;> cases h2 : valB (pv L k) <;> simp
  cases h3 : keyS L k (pk L k).data.toList with
  | true =>
    obtain ⟨i, hi, e⟩ := (keyS_iff L (pk L k) k).1 h3
    simp
    exact ⟨i, hi, e⟩
  | false =>
    simp
    intro i hi e
    have := (keyS_iff L (pk L k) k).2 ⟨i, hi, e⟩
    rw [h3] at this; cases this
theorem chkF_zero (L : List (ByteArray × ByteArray)) : ∀ n, chkF L n = 0 ↔ ∀ k, k < n → chk1 L k = 0
  | 0 => ⟨fun _ k hk => absurd hk (Nat.not_lt_zero _), fun _ => rfl⟩
  | n + 1 => by
    simp only [chkF]
    by_cases e : chkF L n = 0
    · rw [if_pos e]
      have ih := (chkF_zero L n).1 e
      refine ⟨fun h k hk => ?_, fun h => h n (by omega)⟩
      rcases Nat.lt_or_ge k n with h2 | h2
      · exact ih k h2
      · rw [show k = n by omega]; exact h
    · rw [if_neg e]
      refine ⟨fun h => absurd h e, fun h => absurd ((chkF_zero L n).2 (fun k hk => h k (by omega))) e⟩
theorem chkE_zero (L : List (ByteArray × ByteArray)) : chkE L = 0 ↔ POk L := by
  unfold chkE POk
  by_cases h40 : 40 < L.length
  · rw [if_pos h40]
    exact ⟨fun h => by omega, fun h => by omega⟩
  · rw [if_neg h40, chkF_zero]
    constructor
    · intro h
      refine ⟨by omega, fun p hp => ?_, ?_⟩
      · obtain ⟨i, hi, e⟩ := List.getElem_of_mem hp
        obtain ⟨h1, h2, _⟩ := (chk1_zero L i).1 (h i hi)
        have e2 := pget L i hi
        rw [List.getElem?_eq_getElem hi, e] at e2
        rw [Option.some.inj e2]
        exact ⟨h1, h2⟩
      · rw [List.nodup_iff_pairwise_ne, List.pairwise_iff_getElem]
        intro i j hi hj hij
        have hi' : i < L.length := by simpa using hi
        have hj' : j < L.length := by simpa using hj
        rw [pkey_get L i hi', pkey_get L j hj']
        exact ((chk1_zero L j).1 (h j hj')).2.2 i hij
    · rintro ⟨_, h2, h3⟩ k hk
      refine (chk1_zero L k).2 ⟨(h2 _ (pmem L k hk)).1, (h2 _ (pmem L k hk)).2, fun i hi => ?_⟩
      rw [List.nodup_iff_pairwise_ne, List.pairwise_iff_getElem] at h3
      have := h3 i k (by simp; omega) (by simpa using hk) hi
      rwa [pkey_get L i (by omega), pkey_get L k hk] at this
/-- Of a key that stands once, what stands there. -/
theorem one_key {L : List (ByteArray × ByteArray)} (h : (L.map Prod.fst).Nodup) {i j : Nat} (hi : i < L.length) (hj : j < L.length) (e : pk L i = pk L j) : i = j := by
  rw [List.nodup_iff_pairwise_ne, List.pairwise_iff_getElem] at h
  rcases Nat.lt_trichotomy i j with h1 | h1 | h1
  · have := h i j (by simpa using hi) (by simpa using hj) h1
    rw [pkey_get L i hi, pkey_get L j hj] at this
    exact absurd e this
  · exact h1
  · have := h j i (by simpa using hj) (by simpa using hi) h1
    rw [pkey_get L i hi, pkey_get L j hj] at this
    exact absurd e.symm this
theorem gTh_none (L : List (ByteArray × ByteArray)) : ∀ n, (∀ k, k < n → pk L k ≠ txtTh) → gTh L n = 0 ∧ hTh L n = false
  | 0, _ => ⟨rfl, rfl⟩
  | n + 1, h => by
    simp only [gTh, hTh]
    rw [if_neg (h n (by omega)), if_neg (h n (by omega))]
    exact gTh_none L n (fun k hk => h k (by omega))
theorem gTh_at (L : List (ByteArray × ByteArray)) (j : Nat) (hj : pk L j = txtTh) : ∀ n, j < n → (∀ k, k < n → k ≠ j → pk L k ≠ txtTh) → gTh L n = thV (pv L j) ∧ hTh L n = true
  | 0, h, _ => absurd h (Nat.not_lt_zero _)
  | n + 1, h, hu => by
    simp only [gTh, hTh]
    by_cases e : n = j
    · rw [e, if_pos hj, if_pos hj]; exact ⟨rfl, rfl⟩
    · rw [if_neg (hu n (by omega) e), if_neg (hu n (by omega) e)]
      exact gTh_at L j hj n (by omega) (fun k hk => hu k (by omega))
theorem gRv_none (L : List (ByteArray × ByteArray)) : ∀ n, (∀ k, k < n → pk L k ≠ txtRv) → gRv L n = 0 ∧ hRv L n = false
  | 0, _ => ⟨rfl, rfl⟩
  | n + 1, h => by
    simp only [gRv, hRv]
    rw [if_neg (h n (by omega)), if_neg (h n (by omega))]
    exact gRv_none L n (fun k hk => h k (by omega))
theorem gRv_at (L : List (ByteArray × ByteArray)) (j : Nat) (hj : pk L j = txtRv) : ∀ n, j < n → (∀ k, k < n → k ≠ j → pk L k ≠ txtRv) → gRv L n = rvV (pv L j) ∧ hRv L n = true
  | 0, h, _ => absurd h (Nat.not_lt_zero _)
  | n + 1, h, hu => by
    simp only [gRv, hRv]
    by_cases e : n = j
    · rw [e, if_pos hj, if_pos hj]; exact ⟨rfl, rfl⟩
    · rw [if_neg (hu n (by omega) e), if_neg (hu n (by omega) e)]
      exact gRv_at L j hj n (by omega) (fun k hk => hu k (by omega))
/-- The value at a key, by membership. -/
theorem gTh_mem {L : List (ByteArray × ByteArray)} (h : (L.map Prod.fst).Nodup) (v : ByteArray) (hv : (txtTh, v) ∈ L) : gTh L L.length = thV v ∧ hTh L L.length = true := by
  obtain ⟨j, hj, e⟩ := List.getElem_of_mem hv
  have e2 := pget L j hj
  rw [List.getElem?_eq_getElem hj, e] at e2
  have e3 := Prod.mk.inj (Option.some.inj e2)
  have := gTh_at L j e3.1.symm L.length hj (fun k hk hne e4 => hne (one_key h hk hj (e4.trans e3.1)))
  rw [e3.2]; exact this
theorem gRv_mem {L : List (ByteArray × ByteArray)} (h : (L.map Prod.fst).Nodup) (v : ByteArray) (hv : (txtRv, v) ∈ L) : gRv L L.length = rvV v ∧ hRv L L.length = true := by
  obtain ⟨j, hj, e⟩ := List.getElem_of_mem hv
  have e2 := pget L j hj
  rw [List.getElem?_eq_getElem hj, e] at e2
  have e3 := Prod.mk.inj (Option.some.inj e2)
  have := gRv_at L j e3.1.symm L.length hj (fun k hk hne e4 => hne (one_key h hk hj (e4.trans e3.1)))
  rw [e3.2]; exact this
theorem gTh_no {L : List (ByteArray × ByteArray)} (h : ∀ v, (txtTh, v) ∉ L) : gTh L L.length = 0 ∧ hTh L L.length = false :=
  gTh_none L L.length (fun k hk e => h (pv L k) (by have := pmem L k hk; rwa [e] at this))
theorem gRv_no {L : List (ByteArray × ByteArray)} (h : ∀ v, (txtRv, v) ∉ L) : gRv L L.length = 0 ∧ hRv L L.length = false :=
  gRv_none L L.length (fun k hk e => h (pv L k) (by have := pmem L k hk; rwa [e] at this))
theorem mE_cases (L : List (ByteArray × ByteArray)) (k : Nat) : mE L k = 0 ∨ mE L k = 3 := by
  unfold mE thE rvE
  split
  · split <;> simp
  · split
    · split <;> simp
    · simp
theorem mkE_all (L : List (ByteArray × ByteArray)) : ∀ n, (mkE L n = 0 ∧ ∀ k, k < n → mE L k = 0) ∨ (mkE L n = 3 ∧ ∃ k, k < n ∧ mE L k = 3)
  | 0 => .inl ⟨rfl, fun k hk => absurd hk (Nat.not_lt_zero _)⟩
  | n + 1 => by
    simp only [mkE]
    rcases mkE_all L n with ⟨h1, h2⟩ | ⟨h1, k, hk, h2⟩
    · rw [if_pos h1]
      rcases mE_cases L n with h3 | h3
      · exact .inl ⟨h3, fun k hk => by
          rcases Nat.lt_or_ge k n with h | h
          · exact h2 k h
          · rw [show k = n by omega]; exact h3⟩
      · exact .inr ⟨h3, n, by omega, h3⟩
    · rw [if_neg (by omega)]
      exact .inr ⟨h1, k, by omega, h2⟩
/-- The error at a pair, by the pair. -/
def mEp (p : ByteArray × ByteArray) : Int := if p.1 = txtTh then thE p.2 else if p.1 = txtRv then rvE p.2 else 0
theorem mkE_mem (L : List (ByteArray × ByteArray)) : mkE L L.length = if ∀ p ∈ L, mEp p = 0 then 0 else 3 := by
  have e : ∀ k, k < L.length → mE L k = mEp (pk L k, pv L k) := fun k _ => rfl
  rcases mkE_all L L.length with ⟨h1, h2⟩ | ⟨h1, k, hk, h2⟩
  · rw [h1, if_pos]
    intro p hp
    obtain ⟨i, hi, e1⟩ := List.getElem_of_mem hp
    have e2 := pget L i hi
    rw [List.getElem?_eq_getElem hi, e1] at e2
    rw [Option.some.inj e2, ← e i hi, h2 i hi]
  · rw [h1, if_neg]
    intro h
    have := h _ (pmem L k hk)
    rw [← e k hk, h2] at this
    omega
theorem mark_eq {L M : List (ByteArray × ByteArray)} (hp : L.Perm M) (h : POk L) : mErr L = mErr M ∧ mTh L = mTh M ∧ mRv L = mRv M ∧ mHT L = mHT M ∧ mHR L = mHR M := by
  have hM : POk M := ⟨by rw [← hp.length_eq]; exact h.1, fun p hm => h.2.1 p (hp.mem_iff.2 hm), (hp.map Prod.fst).nodup_iff.1 h.2.2⟩
  have c1 := (chkE_zero L).2 h
  have c2 := (chkE_zero M).2 hM
  have e : mErr L = mErr M := by
    unfold mErr
    rw [if_pos c1, if_pos c2, mkE_mem, mkE_mem]
    have : (∀ p ∈ L, mEp p = 0) ↔ (∀ p ∈ M, mEp p = 0) := ⟨fun h p hm => h p (hp.mem_iff.2 hm), fun h p hm => h p (hp.mem_iff.1 hm)⟩
    by_cases hh : ∀ p ∈ L, mEp p = 0
    · rw [if_pos hh, if_pos (this.1 hh)]
    · rw [if_neg hh, if_neg (fun h => hh (this.2 h))]
  have g1 : gTh L L.length = gTh M M.length ∧ hTh L L.length = hTh M M.length := by
    by_cases hv : ∃ v, (txtTh, v) ∈ L
    · obtain ⟨v, hv⟩ := hv
      obtain ⟨a, b⟩ := gTh_mem h.2.2 v hv
      obtain ⟨c, d⟩ := gTh_mem hM.2.2 v (hp.mem_iff.1 hv)
      rw [a, b, c, d]; exact ⟨rfl, rfl⟩
    · obtain ⟨a, b⟩ := gTh_no (L := L) (fun v hm => hv ⟨v, hm⟩)
      obtain ⟨c, d⟩ := gTh_no (L := M) (fun v hm => hv ⟨v, hp.mem_iff.2 hm⟩)
      rw [a, b, c, d]; exact ⟨rfl, rfl⟩
  have g2 : gRv L L.length = gRv M M.length ∧ hRv L L.length = hRv M M.length := by
    by_cases hv : ∃ v, (txtRv, v) ∈ L
    · obtain ⟨v, hv⟩ := hv
      obtain ⟨a, b⟩ := gRv_mem h.2.2 v hv
      obtain ⟨c, d⟩ := gRv_mem hM.2.2 v (hp.mem_iff.1 hv)
      rw [a, b, c, d]; exact ⟨rfl, rfl⟩
    · obtain ⟨a, b⟩ := gRv_no (L := L) (fun v hm => hv ⟨v, hm⟩)
      obtain ⟨c, d⟩ := gRv_no (L := M) (fun v hm => hv ⟨v, hp.mem_iff.2 hm⟩)
      rw [a, b, c, d]; exact ⟨rfl, rfl⟩
  refine ⟨e, ?_, ?_, ?_, ?_⟩
  · unfold mTh; rw [e, g1.1]
  · unfold mRv; rw [e, g2.1]
  · unfold mHT; rw [e, g1.2]
  · unfold mHR; rw [e, g2.2]
theorem turn_perm {α : Type} (L : List α) (T : Nat) : L.Perm (L.drop T ++ L.take T) := by
  have := (List.perm_append_comm : (L.take T ++ L.drop T).Perm (L.drop T ++ L.take T))
  rwa [List.take_append_drop] at this
theorem mark_bad {L : List (ByteArray × ByteArray)} (h : chkE L ≠ 0) : mErr L = chkE L ∧ mTh L = 0 ∧ mRv L = 0 ∧ mHT L = false ∧ mHR L = false := by
  have e : mErr L = chkE L := by unfold mErr; rw [if_neg h]
  unfold mTh mRv mHT mHR
  rw [e, if_neg h, if_neg h, if_neg h, if_neg h]
  exact ⟨rfl, rfl, rfl, rfl, rfl⟩
end Go.Proofs.YtdfghgeccannnaaDoor
