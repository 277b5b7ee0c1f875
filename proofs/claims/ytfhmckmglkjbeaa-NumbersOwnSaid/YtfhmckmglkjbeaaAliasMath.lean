/- The columns of Walker's method: what each round keeps, and what that says at the end (plain Lean). -/
import Derived.Test.YtfhmckmglkjbeaaBase
namespace Go.Proofs.Ytfhmckmglkjbeaa.Wk

def upd {α : Type} (f : Nat → α) (i : Nat) (v : α) : Nat → α := fun j => if j = i then v else f j
theorem upd_at {α : Type} (f : Nat → α) (i : Nat) (v : α) : upd f i v i = v := by unfold upd; rw [if_pos rfl]
theorem upd_ne {α : Type} (f : Nat → α) (i : Nat) (v : α) (j : Nat) (h : j ≠ i) : upd f i v j = f j := by unfold upd; rw [if_neg h]
def sumT (f : Nat → Int) : Nat → Int
  | 0 => 0
  | k + 1 => sumT f k + f k
theorem sumT_congr (f g : Nat → Int) : ∀ n, (∀ j, j < n → f j = g j) → sumT f n = sumT g n
  | 0, _ => rfl
  | n + 1, h => by simp only [sumT]; rw [sumT_congr f g n (fun j hj => h j (by omega)), h n (by omega)]
theorem sumT_upd (f g : Nat → Int) (i : Nat) : ∀ n, i < n → (∀ j, j ≠ i → g j = f j) → sumT g n = sumT f n + (g i - f i)
  | 0, h, _ => by omega
  | n + 1, h, hg => by
    simp only [sumT]
    by_cases e : i = n
    · subst e
      rw [sumT_congr g f i (fun j hj => hg j (by omega))]
      omega
    · rw [sumT_upd f g i n (by omega) hg, hg n (by omega)]
      omega
theorem sumT_nonneg (f : Nat → Int) : ∀ n, (∀ j, j < n → 0 ≤ f j) → 0 ≤ sumT f n
  | 0, _ => by simp [sumT]
  | n + 1, h => by
    have := sumT_nonneg f n (fun j hj => h j (by omega))
    have := h n (by omega)
    simp only [sumT]; omega
theorem sumT_zero (f : Nat → Int) (n : Nat) (h : ∀ j, j < n → f j = 0) : sumT f n = 0 := by
  rw [sumT_congr f (fun _ => 0) n h]
  induction n with
  | zero => rfl
  | succ n ih => simp only [sumT]; rw [ih (fun j hj => h j (by omega))]; rfl
def sL (f : Nat → Int) : List Nat → Int
  | [] => 0
  | a :: l => f a + sL f l
theorem sL_snoc (f : Nat → Int) (x : Nat) : ∀ l, sL f (l ++ [x]) = sL f l + f x
  | [] => by simp [sL]
  | a :: l => by simp only [List.cons_append, sL]; rw [sL_snoc f x l]; omega
theorem sL_congr (f g : Nat → Int) : ∀ l, (∀ i ∈ l, f i = g i) → sL f l = sL g l
  | [], _ => rfl
  | a :: l, h => by simp only [sL]; rw [h a (by simp), sL_congr f g l (fun i hi => h i (by simp [hi]))]
theorem sL_lt (f : Nat → Int) (A : Int) : ∀ l : List Nat, l ≠ [] → (∀ i ∈ l, f i < A) → sL f l < l.length * A
  | [], h, _ => absurd rfl h
  | [a], _, h => by have := h a (by simp); simp [sL]; omega
  | a :: b :: l, _, h => by
    have ih := sL_lt f A (b :: l) (by simp) (fun i hi => h i (by simp at hi ⊢; exact .inr hi))
    have := h a (by simp)
    simp only [sL, List.length_cons, Int.natCast_add, Int.add_mul] at ih ⊢
    simp at ih ⊢
    omega
theorem sL_ge (f : Nat → Int) (A : Int) : ∀ l : List Nat, (∀ i ∈ l, A ≤ f i) → l.length * A ≤ sL f l
  | [], _ => by simp [sL]
  | a :: l, h => by
    have ih := sL_ge f A l (fun i hi => h i (by simp [hi]))
    have := h a (by simp)
    simp only [sL, List.length_cons, Int.natCast_add, Int.add_mul]
    simp
    omega
theorem sL_eq (f : Nat → Int) (A : Int) : ∀ l : List Nat, (∀ i ∈ l, A ≤ f i) → sL f l = l.length * A → ∀ i ∈ l, f i = A
  | [], _, _, i, hi => by simp at hi
  | a :: l, h, hs, i, hi => by
    have g := sL_ge f A l (fun i hi => h i (by simp [hi]))
    have ha := h a (by simp)
    simp only [sL, List.length_cons, Int.natCast_add, Int.add_mul] at hs
    simp at hs
    have h1 : f a = A := by omega
    have h2 : sL f l = l.length * A := by omega
    rcases List.mem_cons.1 hi with rfl | hi
    · exact h1
    · exact sL_eq f A l (fun i hi => h i (by simp [hi])) h2 i hi

/-- What holds at the head of each round. -/
structure Inv (n : Nat) (A : Int) (W own left : Nat → Int) (rest : Nat → Nat) (low high : List Nat) : Prop where
  nd : (low ++ high).Nodup
  lt : ∀ i ∈ low ++ high, i < n
  lo : ∀ i ∈ low, 0 ≤ left i ∧ left i < A ∧ own i = A ∧ rest i = i
  hi : ∀ i ∈ high, A ≤ left i ∧ own i = A ∧ rest i = i ∧ A ≤ W i
  dn : ∀ i, i < n → i ∉ low → i ∉ high → 0 ≤ own i ∧ own i < A ∧ rest i ≠ i ∧ rest i < n ∧ (W i < A → own i = W i)
  lw : ∀ i ∈ low, W i < A → left i = W i
  sm : sL left low + sL left high = (low.length + high.length : Nat) * A
  sh : ∀ j, j < n → (if j ∈ low ∨ j ∈ high then left j else own j) + sumT (fun i => if rest i = j then A - own i else 0) n = W j

theorem Inv.own_le {n : Nat} {A : Int} {W own left : Nat → Int} {rest : Nat → Nat} {low high : List Nat} (h : Inv n A W own left rest low high) (i : Nat) (hi : i < n) : own i ≤ A := by
  by_cases h1 : i ∈ low
  · have := (h.lo i h1).2.2.1; omega
  · by_cases h2 : i ∈ high
    · have := (h.hi i h2).2.1; omega
    · have := (h.dn i hi h1 h2).2.1; omega
theorem Inv.cur_le {n : Nat} {A : Int} {W own left : Nat → Int} {rest : Nat → Nat} {low high : List Nat} (h : Inv n A W own left rest low high) (i : Nat) (hi : i ∈ low ∨ i ∈ high) : left i ≤ W i := by
  have hn : i < n := h.lt i (List.mem_append.2 hi)
  have e := h.sh i hn
  rw [if_pos hi] at e
  have := sumT_nonneg (fun j => if rest j = i then A - own j else 0) n (fun j hj => by
    show 0 ≤ if rest j = i then A - own j else 0
    have := h.own_le j hj
    split <;> omega)
  omega
/-- Where there is a column below the sum there is one that is not. -/
theorem Inv.high_ne {n : Nat} {A : Int} {W own left : Nat → Int} {rest : Nat → Nat} {low high : List Nat} (h : Inv n A W own left rest low high) (hl : low ≠ []) : high ≠ [] := by
  rintro rfl
  have a := sL_lt left A low hl (fun i hi => (h.lo i hi).2.1)
  have b := h.sm
  simp [sL] at b
  omega
theorem Inv.step {n : Nat} {A : Int} {W own left : Nat → Int} {rest : Nat → Nat} {L H : List Nat} {i k : Nat} (h : Inv n A W own left rest (L ++ [i]) (H ++ [k])) :
    (left k - (A - left i) < A → Inv n A W (upd own i (left i)) (upd left k (left k - (A - left i))) (upd rest i k) (L ++ [k]) H) ∧
    (¬ left k - (A - left i) < A → Inv n A W (upd own i (left i)) (upd left k (left k - (A - left i))) (upd rest i k) L (H ++ [k])) := by
  have nd := h.nd
  have hik : i ≠ k := by
    intro e; subst e
    rw [List.nodup_append] at nd
    exact nd.2.2 i (by simp) i (by simp) rfl
  have iL : i ∉ L := by
    rw [List.nodup_append] at nd
    have := nd.1
    rw [List.nodup_append] at this
    exact fun hi => this.2.2 i hi i (by simp) rfl
  have iH : i ∉ H := by
    rw [List.nodup_append] at nd
    exact fun hi => nd.2.2 i (by simp) i (by simp [hi]) rfl
  have kL : k ∉ L := by
    rw [List.nodup_append] at nd
    exact fun hi => nd.2.2 k (by simp [hi]) k (by simp) rfl
  have kH : k ∉ H := by
    rw [List.nodup_append] at nd
    have := nd.2.1
    rw [List.nodup_append] at this
    exact fun hi => this.2.2 k hi k (by simp) rfl
  have ndLH : (L ++ H).Nodup := by
    rw [List.nodup_append] at nd ⊢
    have n1 := nd.1
    have n2 := nd.2.1
    rw [List.nodup_append] at n1 n2
    exact ⟨n1.1, n2.1, fun a ha b hb => nd.2.2 a (by simp [ha]) b (by simp [hb])⟩
  have hin : i < n := h.lt i (by simp)
  have hkn : k < n := h.lt k (by simp)
  obtain ⟨i1, i2, i3, i4⟩ := h.lo i (by simp)
  obtain ⟨k1, k2, k3, k4⟩ := h.hi k (by simp)
  have hlow : ∀ j ∈ L, 0 ≤ upd left k (left k - (A - left i)) j ∧ upd left k (left k - (A - left i)) j < A ∧ upd own i (left i) j = A ∧ upd rest i k j = j := fun j hj => by
    have e1 : j ≠ i := fun e => iL (e ▸ hj)
    have e2 : j ≠ k := fun e => kL (e ▸ hj)
    rw [upd_ne _ _ _ _ e2, upd_ne _ _ _ _ e1, upd_ne _ _ _ _ e1]
    exact h.lo j (by simp [hj])
  have hhigh : ∀ j ∈ H, A ≤ upd left k (left k - (A - left i)) j ∧ upd own i (left i) j = A ∧ upd rest i k j = j ∧ A ≤ W j := fun j hj => by
    have e1 : j ≠ i := fun e => iH (e ▸ hj)
    have e2 : j ≠ k := fun e => kH (e ▸ hj)
    rw [upd_ne _ _ _ _ e2, upd_ne _ _ _ _ e1, upd_ne _ _ _ _ e1]
    exact h.hi j (by simp [hj])
  have hdn : ∀ j, j < n → j ∉ L → j ∉ H → j ≠ k → 0 ≤ upd own i (left i) j ∧ upd own i (left i) j < A ∧ upd rest i k j ≠ j ∧ upd rest i k j < n ∧ (W j < A → upd own i (left i) j = W j) := fun j hj h1 h2 h3 => by
    by_cases e : j = i
    · subst e
      rw [upd_at, upd_at]
      exact ⟨i1, i2, fun e => hik e.symm, hkn, fun hw => h.lw j (by simp) hw⟩
    · rw [upd_ne _ _ _ _ e, upd_ne _ _ _ _ e]
      exact h.dn j hj (by simp [h1, e]) (by simp [h2, h3])
  have hlw : ∀ j ∈ L, W j < A → upd left k (left k - (A - left i)) j = W j := fun j hj hw => by
    rw [upd_ne _ _ _ _ (fun e : j = k => kL (e ▸ hj))]
    exact h.lw j (by simp [hj]) hw
  have s1 : sL (upd left k (left k - (A - left i))) L = sL left L := sL_congr _ _ L (fun j hj => upd_ne _ _ _ _ (fun e => kL (e ▸ hj)))
  have s2 : sL (upd left k (left k - (A - left i))) H = sL left H := sL_congr _ _ H (fun j hj => upd_ne _ _ _ _ (fun e => kH (e ▸ hj)))
  have s0 := h.sm
  rw [sL_snoc, sL_snoc] at s0
  simp only [List.length_append, List.length_cons, List.length_nil] at s0
  have s3 : ((L.length + (0 + 1) + (H.length + (0 + 1)) : Nat) : Int) * A = ((L.length + H.length + 1 : Nat) : Int) * A + A := by
    rw [show L.length + (0 + 1) + (H.length + (0 + 1)) = L.length + H.length + 1 + 1 by omega, Int.natCast_add (L.length + H.length + 1) 1, Int.add_mul]
    simp
  have hsh : ∀ j, j < n → (if j ∈ L ∨ j ∈ H ∨ j = k then upd left k (left k - (A - left i)) j else upd own i (left i) j) + sumT (fun u => if upd rest i k u = j then A - upd own i (left i) u else 0) n = W j := fun j hj => by
    have e := h.sh j hj
    have hs := sumT_upd (fun u => if rest u = j then A - own u else 0) (fun u => if upd rest i k u = j then A - upd own i (left i) u else 0) i n hin (fun u hu => by
      show (if upd rest i k u = j then A - upd own i (left i) u else 0) = if rest u = j then A - own u else 0
      rw [upd_ne _ _ _ _ hu, upd_ne _ _ _ _ hu])
    rw [hs]
    simp only [upd_at, i3, i4]
    by_cases ek : j = k
    · subst ek
      rw [if_pos (.inr (.inr rfl)), upd_at, if_pos rfl, if_neg hik]
      rw [if_pos (by simp)] at e
      omega
    · rw [if_neg (show ¬ k = j from fun e => ek e.symm)]
      by_cases ei : j = i
      · subst ei
        rw [if_neg (by simp [iL, iH, hik]), upd_at, if_pos rfl]
        rw [if_pos (by simp)] at e
        omega
      · rw [if_neg (show ¬ i = j from fun e => ei e.symm)]
        by_cases hm : j ∈ L ∨ j ∈ H
        · rw [if_pos (by rcases hm with hm | hm <;> simp [hm]), upd_ne _ _ _ _ ek]
          rw [if_pos (by rcases hm with hm | hm <;> simp [hm])] at e
          omega
        · rw [if_neg (by simp at hm ⊢; exact ⟨hm.1, hm.2, ek⟩), upd_ne _ _ _ _ ei]
          rw [if_neg (by simp at hm ⊢; exact ⟨⟨hm.1, ei⟩, hm.2, ek⟩)] at e
          omega
  constructor
  · intro hv
    refine ⟨?_, ?_, ?_, hhigh, ?_, ?_, ?_, ?_⟩
    · rw [List.append_assoc, List.singleton_append, List.nodup_append]
      rw [List.nodup_append] at ndLH
      refine ⟨ndLH.1, List.nodup_cons.2 ⟨kH, ndLH.2.1⟩, fun a ha b hb => ?_⟩
      rcases List.mem_cons.1 hb with rfl | hb
      · exact fun e => kL (e ▸ ha)
      · exact ndLH.2.2 a ha b hb
    · intro j hj
      apply h.lt
      simp at hj ⊢
      rcases hj with hj | hj | hj
      · exact .inl hj
      · exact .inr (.inr (.inr hj))
      · exact .inr (.inr (.inl hj))
    · intro j hj
      rcases List.mem_append.1 hj with hj | hj
      · exact hlow j hj
      · simp at hj
        subst hj
        rw [upd_at, upd_ne _ _ _ _ hik.symm, upd_ne _ _ _ _ hik.symm]
        exact ⟨by omega, hv, k2, k3⟩
    · intro j hj h1 h2
      simp at h1
      exact hdn j hj h1.1 h2 h1.2
    · intro j hj hw
      rcases List.mem_append.1 hj with hj | hj
      · exact hlw j hj hw
      · simp at hj
        subst hj
        omega
    · rw [sL_snoc, s1, s2, upd_at]
      simp only [List.length_append, List.length_cons, List.length_nil]
      rw [show L.length + (0 + 1) + H.length = L.length + H.length + 1 by omega]
      rw [s3] at s0
      omega
    · intro j hj
      rw [← hsh j hj]
      congr 1
      by_cases hm : j ∈ L ∨ j ∈ H ∨ j = k
      · rw [if_pos hm, if_pos (by simp; rcases hm with hm | hm | hm <;> simp [hm])]
      · rw [if_neg hm, if_neg (by simp at hm ⊢; exact ⟨⟨hm.1, hm.2.2⟩, hm.2.1⟩)]
  · intro hv
    refine ⟨?_, ?_, hlow, ?_, ?_, hlw, ?_, ?_⟩
    · rw [← List.append_assoc, List.nodup_append]
      refine ⟨ndLH, by simp, fun a ha b hb => ?_⟩
      simp at hb
      subst hb
      rcases List.mem_append.1 ha with ha | ha
      · exact fun e => kL (e ▸ ha)
      · exact fun e => kH (e ▸ ha)
    · intro j hj
      apply h.lt
      simp at hj ⊢
      rcases hj with hj | hj | hj
      · exact .inl hj
      · exact .inr (.inr (.inl hj))
      · exact .inr (.inr (.inr hj))
    · intro j hj
      rcases List.mem_append.1 hj with hj | hj
      · exact hhigh j hj
      · simp at hj
        subst hj
        rw [upd_at, upd_ne _ _ _ _ hik.symm, upd_ne _ _ _ _ hik.symm]
        exact ⟨by omega, k2, k3, k4⟩
    · intro j hj h1 h2
      simp at h2
      exact hdn j hj h1 h2.1 h2.2
    · rw [sL_snoc, s1, s2, upd_at]
      simp only [List.length_append, List.length_cons, List.length_nil]
      rw [show L.length + (H.length + (0 + 1)) = L.length + H.length + 1 by omega]
      rw [s3] at s0
      omega
    · intro j hj
      rw [← hsh j hj]
      congr 1
      by_cases hm : j ∈ L ∨ j ∈ H ∨ j = k
      · rw [if_pos hm, if_pos (by simp; rcases hm with hm | hm | hm <;> simp [hm])]
      · rw [if_neg hm, if_neg (by simp at hm ⊢; exact hm)]
/-- What is made. -/
structure Fin (n : Nat) (A : Int) (W own : Nat → Int) (rest : Nat → Nat) : Prop where
  bd : ∀ i, i < n → 0 ≤ own i ∧ own i ≤ A
  rt : ∀ i, i < n → rest i < n
  fl : ∀ i, i < n → (own i = A ↔ rest i = i)
  lw : ∀ i, i < n → W i < A → own i = W i ∧ rest i ≠ i
  sh : ∀ j, j < n → own j + sumT (fun i => if rest i = j then A - own i else 0) n = W j
theorem Inv.fin {n : Nat} {A : Int} {W own left : Nat → Int} {rest : Nat → Nat} {high : List Nat} (hA : 0 < A) (h : Inv n A W own left rest [] high) : Fin n A W own rest := by
  have he := sL_eq left A high (fun i hi => (h.hi i hi).1) (by have := h.sm; simpa [sL] using this)
  refine ⟨fun i hi => ?_, fun i hi => ?_, fun i hi => ?_, fun i hi hw => ?_, fun j hj => ?_⟩
  · by_cases hm : i ∈ high
    · have := (h.hi i hm).2.1; omega
    · have := h.dn i hi (by simp) hm; omega
  · by_cases hm : i ∈ high
    · rw [(h.hi i hm).2.2.1]; exact hi
    · exact (h.dn i hi (by simp) hm).2.2.2.1
  · by_cases hm : i ∈ high
    · exact ⟨fun _ => (h.hi i hm).2.2.1, fun _ => (h.hi i hm).2.1⟩
    · have a := h.dn i hi (by simp) hm
      exact ⟨fun e => by omega, fun e => absurd e a.2.2.1⟩
  · by_cases hm : i ∈ high
    · have := (h.hi i hm).2.2.2; omega
    · have a := h.dn i hi (by simp) hm
      exact ⟨a.2.2.2.2 hw, a.2.2.1⟩
  · have e := h.sh j hj
    by_cases hm : j ∈ high
    · rw [if_pos (.inr hm), he j hm] at e
      rw [(h.hi j hm).2.1]; exact e
    · rw [if_neg (by simp [hm])] at e
      exact e
/-- At first: those below the sum, and the others. -/
def loF (A : Int) (W : Nat → Int) (k : Nat) : List Nat := (List.range k).filter (fun i => decide (W i < A))
def hiF (A : Int) (W : Nat → Int) (k : Nat) : List Nat := (List.range k).filter (fun i => !decide (W i < A))
theorem loF_step (A : Int) (W : Nat → Int) (k : Nat) (h : W k < A) : loF A W (k + 1) = loF A W k ++ [k] ∧ hiF A W (k + 1) = hiF A W k := by
  unfold loF hiF
  rw [List.range_succ, List.filter_append, List.filter_append]
  simp [h]
theorem hiF_step (A : Int) (W : Nat → Int) (k : Nat) (h : ¬ W k < A) : loF A W (k + 1) = loF A W k ∧ hiF A W (k + 1) = hiF A W k ++ [k] := by
  unfold loF hiF
  rw [List.range_succ, List.filter_append, List.filter_append]
  simp [h]
theorem F_len (A : Int) (W : Nat → Int) : ∀ k, (loF A W k).length + (hiF A W k).length = k
  | 0 => rfl
  | k + 1 => by
    have ih := F_len A W k
    by_cases h : W k < A
    · obtain ⟨e1, e2⟩ := loF_step A W k h
      rw [e1, e2, List.length_append]; simp; omega
    · obtain ⟨e1, e2⟩ := hiF_step A W k h
      rw [e1, e2, List.length_append]; simp; omega
theorem F_sum (A : Int) (W : Nat → Int) : ∀ k, sL W (loF A W k) + sL W (hiF A W k) = sumT W k
  | 0 => rfl
  | k + 1 => by
    have ih := F_sum A W k
    simp only [sumT]
    by_cases h : W k < A
    · obtain ⟨e1, e2⟩ := loF_step A W k h
      rw [e1, e2, sL_snoc]; omega
    · obtain ⟨e1, e2⟩ := hiF_step A W k h
      rw [e1, e2, sL_snoc]; omega
theorem Inv.init (n : Nat) (A : Int) (W : Nat → Int) (hW : ∀ i, i < n → 0 ≤ W i) (hs : sumT W n = n * A) : Inv n A W (fun _ => A) W (fun i => i) (loF A W n) (hiF A W n) := by
  have ml : ∀ i, i ∈ loF A W n ↔ i < n ∧ W i < A := fun i => by unfold loF; simp
  have mh : ∀ i, i ∈ hiF A W n ↔ i < n ∧ ¬ W i < A := fun i => by unfold hiF; simp
  refine ⟨?_, ?_, ?_, ?_, ?_, ?_, ?_, ?_⟩
  · rw [List.nodup_append]
    refine ⟨List.nodup_range.filter _, List.nodup_range.filter _, fun a ha b hb e => ?_⟩
    subst e
    exact ((mh a).1 hb).2 ((ml a).1 ha).2
  · intro i hi
    rcases List.mem_append.1 hi with hi | hi
    · exact ((ml i).1 hi).1
    · exact ((mh i).1 hi).1
  · intro i hi
    have := (ml i).1 hi
    exact ⟨hW i this.1, this.2, rfl, rfl⟩
  · intro i hi
    have := ((mh i).1 hi).2
    exact ⟨by omega, rfl, rfl, by omega⟩
  · intro i hi h1 h2
    rw [ml] at h1
    rw [mh] at h2
    exact absurd ⟨hi, fun hw => h1 ⟨hi, hw⟩⟩ h2
  · intro i _ _; rfl
  · rw [F_sum, F_len, hs]
  · intro j hj
    have : j ∈ loF A W n ∨ j ∈ hiF A W n := by
      rw [ml, mh]
      by_cases h : W j < A
      · exact .inl ⟨hj, h⟩
      · exact .inr ⟨hj, h⟩
    rw [if_pos this, sumT_zero _ n (fun i _ => by show (if i = j then A - A else 0) = 0; split <;> omega)]
    omega
end Go.Proofs.Ytfhmckmglkjbeaa.Wk
