/- Merged: AliasMath, Alias, AliasUse. -/
import Derived.Test.YtgodgfnfaiiohaaGreatDoorBase
import Derived.Test.YtgodgfnfaiiohaaGreatDoorMgWts
import Derived.Test.YtgodgfnfaiiohaaGreatDoorKit
import Derived.Deep.OwnRows
import Derived.Deep.RegionHeld3
import Derived.Deep.DeepCutAuto
import Derived.Deep.LoopGhost
import Derived.StillTailTactics
import Derived.Deep.QuietTactic
import Derived.BigQuiet
import Derived.WalkSmall
/- The columns of Walker's method: what each round keeps, and what that says at the end (plain Lean). -/
namespace Go.Proofs.YtgodgfnfaiiohaaGreatDoor.Wk

def upd {α : Type} (f : Nat → α) (i : Nat) (v : α) : Nat → α := fun j => if j = i then v else f j
theorem upd_at {α : Type} (f : Nat → α) (i : Nat) (v : α) : upd f i v i = v := by unfold upd; rw [if_pos rfl]
theorem upd_ne {α : Type} (f : Nat → α) (i : Nat) (v : α) (j : Nat) (h : j ≠ i) : upd f i v j = f j := by unfold upd; rw [if_neg h]
def sumT (f : Nat → Int) : Nat → Int
  | 0 => 0
  | k + 1 => sumT f k + f k
theorem sumT_congr (f g : Nat → Int) : ∀ n, (∀ j, j < n → f j = g j) → sumT f n = sumT g n
  | 0, _ => rfl
  | n + 1, h => by simp only [sumT]; rw [sumT_congr f g n (fun j hj => h j (by omega)), h n (by omega)]
theorem sumT_upd (f g : Nat → Int) (i : Nat) : ∀ n, i < n → (∀ j, j ≠ i → g j = f j) → sumT g n = sumT f n + (g i - f i)
  | 0, h, _ => by omega
  | n + 1, h, hg => by
    simp only [sumT]
    by_cases e : i = n
    · subst e
      rw [sumT_congr g f i (fun j hj => hg j (by omega))]
      omega
    · rw [sumT_upd f g i n (by omega) hg, hg n (by omega)]
      omega
theorem sumT_nonneg (f : Nat → Int) : ∀ n, (∀ j, j < n → 0 ≤ f j) → 0 ≤ sumT f n
  | 0, _ => by simp [sumT]
  | n + 1, h => by
    have := sumT_nonneg f n (fun j hj => h j (by omega))
    have := h n (by omega)
    simp only [sumT]; omega
theorem sumT_zero (f : Nat → Int) (n : Nat) (h : ∀ j, j < n → f j = 0) : sumT f n = 0 := by
  rw [sumT_congr f (fun _ => 0) n h]
  induction n with
  | zero => rfl
  | succ n ih => simp only [sumT]; rw [ih (fun j hj => h j (by omega))]; rfl
def sL (f : Nat → Int) : List Nat → Int
  | [] => 0
  | a :: l => f a + sL f l
theorem sL_snoc (f : Nat → Int) (x : Nat) : ∀ l, sL f (l ++ [x]) = sL f l + f x
  | [] => by simp [sL]
  | a :: l => by simp only [List.cons_append, sL]; rw [sL_snoc f x l]; omega
theorem sL_congr (f g : Nat → Int) : ∀ l, (∀ i ∈ l, f i = g i) → sL f l = sL g l
  | [], _ => rfl
  | a :: l, h => by simp only [sL]; rw [h a (by simp), sL_congr f g l (fun i hi => h i (by simp [hi]))]
theorem sL_lt (f : Nat → Int) (A : Int) : ∀ l : List Nat, l ≠ [] → (∀ i ∈ l, f i < A) → sL f l < l.length * A
  | [], h, _ => absurd rfl h
  | [a], _, h => by have := h a (by simp); simp [sL]; omega
  | a :: b :: l, _, h => by
    have ih := sL_lt f A (b :: l) (by simp) (fun i hi => h i (by simp at hi ⊢; exact .inr hi))
    have := h a (by simp)
    simp only [sL, List.length_cons, Int.natCast_add, Int.add_mul] at ih ⊢
    simp at ih ⊢
    omega
theorem sL_ge (f : Nat → Int) (A : Int) : ∀ l : List Nat, (∀ i ∈ l, A ≤ f i) → l.length * A ≤ sL f l
  | [], _ => by simp [sL]
  | a :: l, h => by
    have ih := sL_ge f A l (fun i hi => h i (by simp [hi]))
    have := h a (by simp)
    simp only [sL, List.length_cons, Int.natCast_add, Int.add_mul]
    simp
    omega
theorem sL_eq (f : Nat → Int) (A : Int) : ∀ l : List Nat, (∀ i ∈ l, A ≤ f i) → sL f l = l.length * A → ∀ i ∈ l, f i = A
  | [], _, _, i, hi => by simp at hi
  | a :: l, h, hs, i, hi => by
    have g := sL_ge f A l (fun i hi => h i (by simp [hi]))
    have ha := h a (by simp)
    simp only [sL, List.length_cons, Int.natCast_add, Int.add_mul] at hs
    simp at hs
    have h1 : f a = A := by omega
    have h2 : sL f l = l.length * A := by omega
    rcases List.mem_cons.1 hi with rfl | hi
    · exact h1
    · exact sL_eq f A l (fun i hi => h i (by simp [hi])) h2 i hi

/-- What holds at the head of each round. -/
structure Inv (n : Nat) (A : Int) (W own left : Nat → Int) (rest : Nat → Nat) (low high : List Nat) : Prop where
  nd : (low ++ high).Nodup
  lt : ∀ i ∈ low ++ high, i < n
  lo : ∀ i ∈ low, 0 ≤ left i ∧ left i < A ∧ own i = A ∧ rest i = i
  hi : ∀ i ∈ high, A ≤ left i ∧ own i = A ∧ rest i = i ∧ A ≤ W i
  dn : ∀ i, i < n → i ∉ low → i ∉ high → 0 ≤ own i ∧ own i < A ∧ rest i ≠ i ∧ rest i < n ∧ (W i < A → own i = W i)
  lw : ∀ i ∈ low, W i < A → left i = W i
  sm : sL left low + sL left high = (low.length + high.length : Nat) * A
  sh : ∀ j, j < n → (if j ∈ low ∨ j ∈ high then left j else own j) + sumT (fun i => if rest i = j then A - own i else 0) n = W j

theorem Inv.own_le {n : Nat} {A : Int} {W own left : Nat → Int} {rest : Nat → Nat} {low high : List Nat} (h : Inv n A W own left rest low high) (i : Nat) (hi : i < n) : own i ≤ A := by
  by_cases h1 : i ∈ low
  · have := (h.lo i h1).2.2.1; omega
  · by_cases h2 : i ∈ high
    · have := (h.hi i h2).2.1; omega
    · have := (h.dn i hi h1 h2).2.1; omega
theorem Inv.cur_le {n : Nat} {A : Int} {W own left : Nat → Int} {rest : Nat → Nat} {low high : List Nat} (h : Inv n A W own left rest low high) (i : Nat) (hi : i ∈ low ∨ i ∈ high) : left i ≤ W i := by
  have hn : i < n := h.lt i (List.mem_append.2 hi)
  have e := h.sh i hn
  rw [if_pos hi] at e
  have := sumT_nonneg (fun j => if rest j = i then A - own j else 0) n (fun j hj => by
    show 0 ≤ if rest j = i then A - own j else 0
    have := h.own_le j hj
    split <;> omega)
  omega
/-- Where there is a column below the sum there is one that is not. -/
theorem Inv.high_ne {n : Nat} {A : Int} {W own left : Nat → Int} {rest : Nat → Nat} {low high : List Nat} (h : Inv n A W own left rest low high) (hl : low ≠ []) : high ≠ [] := by
  rintro rfl
  have a := sL_lt left A low hl (fun i hi => (h.lo i hi).2.1)
  have b := h.sm
  simp [sL] at b
  omega
theorem Inv.step {n : Nat} {A : Int} {W own left : Nat → Int} {rest : Nat → Nat} {L H : List Nat} {i k : Nat} (h : Inv n A W own left rest (L ++ [i]) (H ++ [k])) :
    (left k - (A - left i) < A → Inv n A W (upd own i (left i)) (upd left k (left k - (A - left i))) (upd rest i k) (L ++ [k]) H) ∧
    (¬ left k - (A - left i) < A → Inv n A W (upd own i (left i)) (upd left k (left k - (A - left i))) (upd rest i k) L (H ++ [k])) := by
  have nd := h.nd
  have hik : i ≠ k := by
    intro e; subst e
    rw [List.nodup_append] at nd
    exact nd.2.2 i (by simp) i (by simp) rfl
  have iL : i ∉ L := by
    rw [List.nodup_append] at nd
    have := nd.1
    rw [List.nodup_append] at this
    exact fun hi => this.2.2 i hi i (by simp) rfl
  have iH : i ∉ H := by
    rw [List.nodup_append] at nd
    exact fun hi => nd.2.2 i (by simp) i (by simp [hi]) rfl
  have kL : k ∉ L := by
    rw [List.nodup_append] at nd
    exact fun hi => nd.2.2 k (by simp [hi]) k (by simp) rfl
  have kH : k ∉ H := by
    rw [List.nodup_append] at nd
    have := nd.2.1
    rw [List.nodup_append] at this
    exact fun hi => this.2.2 k hi k (by simp) rfl
  have ndLH : (L ++ H).Nodup := by
    rw [List.nodup_append] at nd ⊢
    have n1 := nd.1
    have n2 := nd.2.1
    rw [List.nodup_append] at n1 n2
    exact ⟨n1.1, n2.1, fun a ha b hb => nd.2.2 a (by simp [ha]) b (by simp [hb])⟩
  have hin : i < n := h.lt i (by simp)
  have hkn : k < n := h.lt k (by simp)
  obtain ⟨i1, i2, i3, i4⟩ := h.lo i (by simp)
  obtain ⟨k1, k2, k3, k4⟩ := h.hi k (by simp)
  have hlow : ∀ j ∈ L, 0 ≤ upd left k (left k - (A - left i)) j ∧ upd left k (left k - (A - left i)) j < A ∧ upd own i (left i) j = A ∧ upd rest i k j = j := fun j hj => by
    have e1 : j ≠ i := fun e => iL (e ▸ hj)
    have e2 : j ≠ k := fun e => kL (e ▸ hj)
    rw [upd_ne _ _ _ _ e2, upd_ne _ _ _ _ e1, upd_ne _ _ _ _ e1]
    exact h.lo j (by simp [hj])
  have hhigh : ∀ j ∈ H, A ≤ upd left k (left k - (A - left i)) j ∧ upd own i (left i) j = A ∧ upd rest i k j = j ∧ A ≤ W j := fun j hj => by
    have e1 : j ≠ i := fun e => iH (e ▸ hj)
    have e2 : j ≠ k := fun e => kH (e ▸ hj)
    rw [upd_ne _ _ _ _ e2, upd_ne _ _ _ _ e1, upd_ne _ _ _ _ e1]
    exact h.hi j (by simp [hj])
  have hdn : ∀ j, j < n → j ∉ L → j ∉ H → j ≠ k → 0 ≤ upd own i (left i) j ∧ upd own i (left i) j < A ∧ upd rest i k j ≠ j ∧ upd rest i k j < n ∧ (W j < A → upd own i (left i) j = W j) := fun j hj h1 h2 h3 => by
    by_cases e : j = i
    · subst e
      rw [upd_at, upd_at]
      exact ⟨i1, i2, fun e => hik e.symm, hkn, fun hw => h.lw j (by simp) hw⟩
    · rw [upd_ne _ _ _ _ e, upd_ne _ _ _ _ e]
      exact h.dn j hj (by simp [h1, e]) (by simp [h2, h3])
  have hlw : ∀ j ∈ L, W j < A → upd left k (left k - (A - left i)) j = W j := fun j hj hw => by
    rw [upd_ne _ _ _ _ (fun e : j = k => kL (e ▸ hj))]
    exact h.lw j (by simp [hj]) hw
  have s1 : sL (upd left k (left k - (A - left i))) L = sL left L := sL_congr _ _ L (fun j hj => upd_ne _ _ _ _ (fun e => kL (e ▸ hj)))
  have s2 : sL (upd left k (left k - (A - left i))) H = sL left H := sL_congr _ _ H (fun j hj => upd_ne _ _ _ _ (fun e => kH (e ▸ hj)))
  have s0 := h.sm
  rw [sL_snoc, sL_snoc] at s0
  simp only [List.length_append, List.length_cons, List.length_nil] at s0
  have s3 : ((L.length + (0 + 1) + (H.length + (0 + 1)) : Nat) : Int) * A = ((L.length + H.length + 1 : Nat) : Int) * A + A := by
    rw [show L.length + (0 + 1) + (H.length + (0 + 1)) = L.length + H.length + 1 + 1 by omega, Int.natCast_add (L.length + H.length + 1) 1, Int.add_mul]
    simp
  have hsh : ∀ j, j < n → (if j ∈ L ∨ j ∈ H ∨ j = k then upd left k (left k - (A - left i)) j else upd own i (left i) j) + sumT (fun u => if upd rest i k u = j then A - upd own i (left i) u else 0) n = W j := fun j hj => by
    have e := h.sh j hj
    have hs := sumT_upd (fun u => if rest u = j then A - own u else 0) (fun u => if upd rest i k u = j then A - upd own i (left i) u else 0) i n hin (fun u hu => by
      show (if upd rest i k u = j then A - upd own i (left i) u else 0) = if rest u = j then A - own u else 0
      rw [upd_ne _ _ _ _ hu, upd_ne _ _ _ _ hu])
    rw [hs]
    simp only [upd_at, i3, i4]
    by_cases ek : j = k
    · subst ek
      rw [if_pos (.inr (.inr rfl)), upd_at, if_pos rfl, if_neg hik]
      rw [if_pos (by simp)] at e
      omega
    · rw [if_neg (show ¬ k = j from fun e => ek e.symm)]
      by_cases ei : j = i
      · subst ei
        rw [if_neg (by simp [iL, iH, hik]), upd_at, if_pos rfl]
        rw [if_pos (by simp)] at e
        omega
      · rw [if_neg (show ¬ i = j from fun e => ei e.symm)]
        by_cases hm : j ∈ L ∨ j ∈ H
        · rw [if_pos (by rcases hm with hm | hm <;> simp [hm]), upd_ne _ _ _ _ ek]
          rw [if_pos (by rcases hm with hm | hm <;> simp [hm])] at e
          omega
        · rw [if_neg (by simp at hm ⊢; exact ⟨hm.1, hm.2, ek⟩), upd_ne _ _ _ _ ei]
          rw [if_neg (by simp at hm ⊢; exact ⟨⟨hm.1, ei⟩, hm.2, ek⟩)] at e
          omega
  constructor
  · intro hv
    refine ⟨?_, ?_, ?_, hhigh, ?_, ?_, ?_, ?_⟩
    · rw [List.append_assoc, List.singleton_append, List.nodup_append]
      rw [List.nodup_append] at ndLH
      refine ⟨ndLH.1, List.nodup_cons.2 ⟨kH, ndLH.2.1⟩, fun a ha b hb => ?_⟩
      rcases List.mem_cons.1 hb with rfl | hb
      · exact fun e => kL (e ▸ ha)
      · exact ndLH.2.2 a ha b hb
    · intro j hj
      apply h.lt
      simp at hj ⊢
      rcases hj with hj | hj | hj
      · exact .inl hj
      · exact .inr (.inr (.inr hj))
      · exact .inr (.inr (.inl hj))
    · intro j hj
      rcases List.mem_append.1 hj with hj | hj
      · exact hlow j hj
      · simp at hj
        subst hj
        rw [upd_at, upd_ne _ _ _ _ hik.symm, upd_ne _ _ _ _ hik.symm]
        exact ⟨by omega, hv, k2, k3⟩
    · intro j hj h1 h2
      simp at h1
      exact hdn j hj h1.1 h2 h1.2
    · intro j hj hw
      rcases List.mem_append.1 hj with hj | hj
      · exact hlw j hj hw
      · simp at hj
        subst hj
        omega
    · rw [sL_snoc, s1, s2, upd_at]
      simp only [List.length_append, List.length_cons, List.length_nil]
      rw [show L.length + (0 + 1) + H.length = L.length + H.length + 1 by omega]
      rw [s3] at s0
      omega
    · intro j hj
      rw [← hsh j hj]
      congr 1
      by_cases hm : j ∈ L ∨ j ∈ H ∨ j = k
      · rw [if_pos hm, if_pos (by simp; rcases hm with hm | hm | hm <;> simp [hm])]
      · rw [if_neg hm, if_neg (by simp at hm ⊢; exact ⟨⟨hm.1, hm.2.2⟩, hm.2.1⟩)]
  · intro hv
    refine ⟨?_, ?_, hlow, ?_, ?_, hlw, ?_, ?_⟩
    · rw [← List.append_assoc, List.nodup_append]
      refine ⟨ndLH, by simp, fun a ha b hb => ?_⟩
      simp at hb
      subst hb
      rcases List.mem_append.1 ha with ha | ha
      · exact fun e => kL (e ▸ ha)
      · exact fun e => kH (e ▸ ha)
    · intro j hj
      apply h.lt
      simp at hj ⊢
      rcases hj with hj | hj | hj
      · exact .inl hj
      · exact .inr (.inr (.inl hj))
      · exact .inr (.inr (.inr hj))
    · intro j hj
      rcases List.mem_append.1 hj with hj | hj
      · exact hhigh j hj
      · simp at hj
        subst hj
        rw [upd_at, upd_ne _ _ _ _ hik.symm, upd_ne _ _ _ _ hik.symm]
        exact ⟨by omega, k2, k3, k4⟩
    · intro j hj h1 h2
      simp at h2
      exact hdn j hj h1 h2.1 h2.2
    · rw [sL_snoc, s1, s2, upd_at]
      simp only [List.length_append, List.length_cons, List.length_nil]
      rw [show L.length + (H.length + (0 + 1)) = L.length + H.length + 1 by omega]
      rw [s3] at s0
      omega
    · intro j hj
      rw [← hsh j hj]
      congr 1
      by_cases hm : j ∈ L ∨ j ∈ H ∨ j = k
      · rw [if_pos hm, if_pos (by simp; rcases hm with hm | hm | hm <;> simp [hm])]
      · rw [if_neg hm, if_neg (by simp at hm ⊢; exact hm)]
/-- What is made. -/
structure Fin (n : Nat) (A : Int) (W own : Nat → Int) (rest : Nat → Nat) : Prop where
  bd : ∀ i, i < n → 0 ≤ own i ∧ own i ≤ A
  rt : ∀ i, i < n → rest i < n
  fl : ∀ i, i < n → (own i = A ↔ rest i = i)
  lw : ∀ i, i < n → W i < A → own i = W i ∧ rest i ≠ i
  sh : ∀ j, j < n → own j + sumT (fun i => if rest i = j then A - own i else 0) n = W j
theorem Inv.fin {n : Nat} {A : Int} {W own left : Nat → Int} {rest : Nat → Nat} {high : List Nat} (hA : 0 < A) (h : Inv n A W own left rest [] high) : Fin n A W own rest := by
  have he := sL_eq left A high (fun i hi => (h.hi i hi).1) (by have := h.sm; simpa [sL] using this)
  refine ⟨fun i hi => ?_, fun i hi => ?_, fun i hi => ?_, fun i hi hw => ?_, fun j hj => ?_⟩
  · by_cases hm : i ∈ high
    · have := (h.hi i hm).2.1; omega
    · have := h.dn i hi (by simp) hm; omega
  · by_cases hm : i ∈ high
    · rw [(h.hi i hm).2.2.1]; exact hi
    · exact (h.dn i hi (by simp) hm).2.2.2.1
  · by_cases hm : i ∈ high
    · exact ⟨fun _ => (h.hi i hm).2.2.1, fun _ => (h.hi i hm).2.1⟩
    · have a := h.dn i hi (by simp) hm
      exact ⟨fun e => by omega, fun e => absurd e a.2.2.1⟩
  · by_cases hm : i ∈ high
    · have := (h.hi i hm).2.2.2; omega
    · have a := h.dn i hi (by simp) hm
      exact ⟨a.2.2.2.2 hw, a.2.2.1⟩
  · have e := h.sh j hj
    by_cases hm : j ∈ high
    · rw [if_pos (.inr hm), he j hm] at e
      rw [(h.hi j hm).2.1]; exact e
    · rw [if_neg (by simp [hm])] at e
      exact e
/-- At first: those below the sum, and the others. -/
def loF (A : Int) (W : Nat → Int) (k : Nat) : List Nat := (List.range k).filter (fun i => decide (W i < A))
def hiF (A : Int) (W : Nat → Int) (k : Nat) : List Nat := (List.range k).filter (fun i => !decide (W i < A))
theorem loF_step (A : Int) (W : Nat → Int) (k : Nat) (h : W k < A) : loF A W (k + 1) = loF A W k ++ [k] ∧ hiF A W (k + 1) = hiF A W k := by
  unfold loF hiF
  rw [List.range_succ, List.filter_append, List.filter_append]
  simp [h]
theorem hiF_step (A : Int) (W : Nat → Int) (k : Nat) (h : ¬ W k < A) : loF A W (k + 1) = loF A W k ∧ hiF A W (k + 1) = hiF A W k ++ [k] := by
  unfold loF hiF
  rw [List.range_succ, List.filter_append, List.filter_append]
  simp [h]
theorem F_len (A : Int) (W : Nat → Int) : ∀ k, (loF A W k).length + (hiF A W k).length = k
  | 0 => rfl
  | k + 1 => by
    have ih := F_len A W k
    by_cases h : W k < A
    · obtain ⟨e1, e2⟩ := loF_step A W k h
      rw [e1, e2, List.length_append]; simp; omega
    · obtain ⟨e1, e2⟩ := hiF_step A W k h
      rw [e1, e2, List.length_append]; simp; omega
theorem F_sum (A : Int) (W : Nat → Int) : ∀ k, sL W (loF A W k) + sL W (hiF A W k) = sumT W k
  | 0 => rfl
  | k + 1 => by
    have ih := F_sum A W k
    simp only [sumT]
    by_cases h : W k < A
    · obtain ⟨e1, e2⟩ := loF_step A W k h
      rw [e1, e2, sL_snoc]; omega
    · obtain ⟨e1, e2⟩ := hiF_step A W k h
      rw [e1, e2, sL_snoc]; omega
theorem Inv.init (n : Nat) (A : Int) (W : Nat → Int) (hW : ∀ i, i < n → 0 ≤ W i) (hs : sumT W n = n * A) : Inv n A W (fun _ => A) W (fun i => i) (loF A W n) (hiF A W n) := by
  have ml : ∀ i, i ∈ loF A W n ↔ i < n ∧ W i < A := fun i => by unfold loF; simp
  have mh : ∀ i, i ∈ hiF A W n ↔ i < n ∧ ¬ W i < A := fun i => by unfold hiF; simp
  refine ⟨?_, ?_, ?_, ?_, ?_, ?_, ?_, ?_⟩
  · rw [List.nodup_append]
    refine ⟨List.nodup_range.filter _, List.nodup_range.filter _, fun a ha b hb e => ?_⟩
    subst e
    exact ((mh a).1 hb).2 ((ml a).1 ha).2
  · intro i hi
    rcases List.mem_append.1 hi with hi | hi
    · exact ((ml i).1 hi).1
    · exact ((mh i).1 hi).1
  · intro i hi
    have := (ml i).1 hi
    exact ⟨hW i this.1, this.2, rfl, rfl⟩
  · intro i hi
    have := ((mh i).1 hi).2
    exact ⟨by omega, rfl, rfl, by omega⟩
  · intro i hi h1 h2
    rw [ml] at h1
    rw [mh] at h2
    exact absurd ⟨hi, fun hw => h1 ⟨hi, hw⟩⟩ h2
  · intro i _ _; rfl
  · rw [F_sum, F_len, hs]
  · intro j hj
    have : j ∈ loF A W n ∨ j ∈ hiF A W n := by
      rw [ml, mh]
      by_cases h : W j < A
      · exact .inl ⟨hj, h⟩
      · exact .inr ⟨hj, h⟩
    rw [if_pos this, sumT_zero _ n (fun i _ => by show (if i = j then A - A else 0) = 0; split <;> omega)]
    omega
end Go.Proofs.YtgodgfnfaiiohaaGreatDoor.Wk

/- Contract of alias.Make: Walker's columns. -/
namespace Go.Proofs.YtgodgfnfaiiohaaGreatDoor
open Go.ChangeShapes Go.WideShapes Go.ChangeAt Go.RowKit
set_option maxRecDepth 20000

theorem own_made (w : World) (B H : Nat) (z : Value) (n : Nat) (e : TypeId) (hH : w.heap.size = H) (hB : B ≤ H) (hn : n ≤ 1000) : (w.alloc (.cells (madeCells #[z] n) e)).ownsRow B e 1 (.slice (some ⟨H, 0, none⟩) n n) n (tab (fun _ => z) n) := by
  subst hH
  refine ⟨by rw [tab_len, Nat.mul_one], .inr ⟨w.heap.size, n, madeCells #[z] n, rfl, hB, heap_alloc_new w _, Nat.le_refl _, by unfold maxLen; omega, by rw [size_madeCells]; simp, ?_⟩⟩
  have h := made_tab z n
  rw [Nat.mul_one] at h
  rw [h, List.take_of_length_le (by rw [tab_len]; omega)]
/-- The weights, each times how many there are. -/
def ws (xs : List Int) (n : Nat) (i : Nat) : Int := gi xs i * n
/-- A list of places as values. -/
def vn (l : List Nat) : List Value := l.map (fun i => Value.int .i64 (i : Nat))
def row (f : Nat → Int) (n : Nat) : List Value := tab (fun j => Value.int .i64 (f j)) n
/-- What stands in memory while the columns are made. -/
structure Mk (B p g1 g2 g3 n : Nat) (A : Int) (own left : Nat → Int) (rest : Nat → Nat) (W : World) : Prop where
  c0 : W.cell? ⟨p, 0, none⟩ = some (.int .i64 A)
  c1 : W.cell? ⟨p, 1, none⟩ = some (.slice (some ⟨g1, 0, none⟩) n n)
  c2 : W.cell? ⟨p, 2, none⟩ = some (.slice (some ⟨g2, 0, none⟩) n n)
  o1 : W.ownsRow B 3 1 (.slice (some ⟨g1, 0, none⟩) n n) n (row own n)
  o2 : W.ownsRow B 3 1 (.slice (some ⟨g2, 0, none⟩) n n) n (row (fun j => (rest j : Nat)) n)
  o3 : W.ownsRow B 3 1 (.slice (some ⟨g3, 0, none⟩) n n) n (row left n)
  d1 : p ≠ g1
  d2 : p ≠ g2
  d3 : p ≠ g3
  d4 : g1 ≠ g2
  d5 : g1 ≠ g3
  d6 : g2 ≠ g3
theorem row_upd (f : Nat → Int) (n k : Nat) (v : Int) : row (Wk.upd f k v) n = tab (fun j => if j = k then Value.int .i64 v else Value.int .i64 (f j)) n := by
  unfold row
  exact tab_congr _ _ _ (fun j _ => by unfold Wk.upd; split <;> rfl)
theorem row_updN (f : Nat → Nat) (n k v : Nat) : row (fun j => ((Wk.upd f k v j : Nat) : Int)) n = tab (fun j => if j = k then Value.int .i64 (v : Nat) else Value.int .i64 (f j : Nat)) n := by
  unfold row
  exact tab_congr _ _ _ (fun j _ => by by_cases e : j = k <;> simp [Wk.upd, e])
theorem cell_far {W : World} {p g : Nat} {i k : Nat} {v u : Value} (h : W.cell? ⟨p, i, none⟩ = some v) (hne : p ≠ g) : (W.setCell ⟨g, k, none⟩ u).cell? ⟨p, i, none⟩ = some v := by
  rw [World.cell?_setCell_far _ _ _ _ (fun e => hne e.symm)]; exact h
theorem ob_ne {g g' n m : Nat} (h : g ≠ g') : (Value.slice (some ⟨g, 0, none⟩) n m).ownBlock ≠ some g' := fun e => h (by simpa [Value.ownBlock] using e)
theorem Mk.store1 {B p g1 g2 g3 n : Nat} {A : Int} {own left : Nat → Int} {rest : Nat → Nat} {W : World} (h : Mk B p g1 g2 g3 n A own left rest W) (k : Nat) (v : Int) : Mk B p g1 g2 g3 n A (Wk.upd own k v) left rest (W.setCell ⟨g1, k, none⟩ (.int .i64 v)) :=
  ⟨cell_far h.c0 h.d1, cell_far h.c1 h.d1, cell_far h.c2 h.d1, by rw [row_upd]; exact own_store_tab h.o1 k _, ownsRow_setCell_other h.o2 (ob_ne (Ne.symm h.d4)) _, ownsRow_setCell_other h.o3 (ob_ne (Ne.symm h.d5)) _, h.d1, h.d2, h.d3, h.d4, h.d5, h.d6⟩
theorem Mk.store2 {B p g1 g2 g3 n : Nat} {A : Int} {own left : Nat → Int} {rest : Nat → Nat} {W : World} (h : Mk B p g1 g2 g3 n A own left rest W) (k v : Nat) : Mk B p g1 g2 g3 n A own left (Wk.upd rest k v) (W.setCell ⟨g2, k, none⟩ (.int .i64 (v : Nat))) :=
  ⟨cell_far h.c0 h.d2, cell_far h.c1 h.d2, cell_far h.c2 h.d2, ownsRow_setCell_other h.o1 (ob_ne h.d4) _, by rw [row_updN]; exact own_store_tab h.o2 k _, ownsRow_setCell_other h.o3 (ob_ne (Ne.symm h.d6)) _, h.d1, h.d2, h.d3, h.d4, h.d5, h.d6⟩
theorem Mk.store3 {B p g1 g2 g3 n : Nat} {A : Int} {own left : Nat → Int} {rest : Nat → Nat} {W : World} (h : Mk B p g1 g2 g3 n A own left rest W) (k : Nat) (v : Int) : Mk B p g1 g2 g3 n A own (Wk.upd left k v) rest (W.setCell ⟨g3, k, none⟩ (.int .i64 v)) :=
  ⟨cell_far h.c0 h.d3, cell_far h.c1 h.d3, cell_far h.c2 h.d3, ownsRow_setCell_other h.o1 (ob_ne h.d5) _, ownsRow_setCell_other h.o2 (ob_ne h.d6) _, by rw [row_upd]; exact own_store_tab h.o3 k _, h.d1, h.d2, h.d3, h.d4, h.d5, h.d6⟩
theorem Mk.grown {B p g1 g2 g3 n : Nat} {A : Int} {own left : Nat → Int} {rest : Nat → Nat} {W W' : World} {r : Option Nat} (h : Mk B p g1 g2 g3 n A own left rest W) (hg : W.grownBy W' r) (n0 : r ≠ some p) (n1 : r ≠ some g1) (n2 : r ≠ some g2) (n3 : r ≠ some g3) : Mk B p g1 g2 g3 n A own left rest W' :=
  ⟨gk hg h.c0 n0, gk hg h.c1 n0, gk hg h.c2 n0, h.o1.kept hg (.inr (Ne.symm n1)), h.o2.kept hg (.inr (Ne.symm n2)), h.o3.kept hg (.inr (Ne.symm n3)), h.d1, h.d2, h.d3, h.d4, h.d5, h.d6⟩
theorem prod_bd (x : Int) (n : Nat) (hn : n ≤ 40) (h0 : 0 ≤ x) (h1 : x ≤ 1000000000000) : 0 ≤ x * (n : Int) ∧ x * (n : Int) ≤ 40000000000000 := by
  refine ⟨Int.mul_nonneg h0 (by omega), ?_⟩
  have := Int.mul_le_mul h1 (show (n : Int) ≤ 40 by omega) (by omega) (by omega)
  omega
theorem Mk.drew {B p g1 g2 g3 n : Nat} {A : Int} {own left : Nat → Int} {rest : Nat → Nat} {W : World} (h : Mk B p g1 g2 g3 n A own left rest W) : Mk B p g1 g2 g3 n A own left rest W.drew := ⟨h.c0, h.c1, h.c2, h.o1, h.o2, h.o3, h.d1, h.d2, h.d3, h.d4, h.d5, h.d6⟩
theorem Mk.congr {B p g1 g2 g3 n : Nat} {A : Int} {own left own' left' : Nat → Int} {rest rest' : Nat → Nat} {W : World} (h : Mk B p g1 g2 g3 n A own left rest W) (h1 : ∀ j, j < n → own j = own' j) (h2 : ∀ j, j < n → left j = left' j) (h3 : ∀ j, j < n → rest j = rest' j) : Mk B p g1 g2 g3 n A own' left' rest' W := by
  have e1 : row own' n = row own n := tab_congr _ _ _ (fun j hj => by rw [h1 j hj])
  have e2 : row left' n = row left n := tab_congr _ _ _ (fun j hj => by rw [h2 j hj])
  have e3 : row (fun j => (rest' j : Nat)) n = row (fun j => (rest j : Nat)) n := tab_congr _ _ _ (fun j hj => by show Value.int .i64 ((rest' j : Nat) : Int) = Value.int .i64 ((rest j : Nat) : Int); rw [h3 j hj])
  exact ⟨h.c0, h.c1, h.c2, by rw [e1]; exact h.o1, by rw [e3]; exact h.o2, by rw [e2]; exact h.o3, h.d1, h.d2, h.d3, h.d4, h.d5, h.d6⟩
theorem sumT_ws (xs : List Int) (n : Nat) : ∀ k, Wk.sumT (ws xs n) k = n * sumK xs k
  | 0 => by simp [Wk.sumT, sumK]
  | k + 1 => by
    simp only [Wk.sumT, sumK]
    rw [sumT_ws xs n k, Int.mul_add]
    unfold ws
    rw [Int.mul_comm (gi xs k)]
theorem own_pop {W : World} {B g m cap : Nat} {e : TypeId} {xs : List Value} {x : Value} (h : W.ownsRow B e 1 (.slice (some ⟨g, 0, none⟩) (m + 1) cap) (m + 1) (xs ++ [x])) : W.ownsRow B e 1 (.slice (some ⟨g, 0, none⟩) m cap) m xs := by
  obtain ⟨h1, h2⟩ := h
  rw [List.length_append, List.length_singleton] at h1
  refine ⟨by omega, ?_⟩
  rcases h2 with ⟨h2, _⟩ | ⟨g', cap', cur, hv, hB, hh, hn, hm, hs, ht⟩
  · cases h2
  · simp only [Value.slice.injEq, Option.some.injEq, Addr.mk.injEq] at hv
    obtain ⟨⟨rfl, _, _⟩, _, rfl⟩ := hv
    refine .inr ⟨g, cap, cur, rfl, hB, hh, by omega, hm, hs, ?_⟩
    have : (cur.toList.take ((m + 1) * 1)).take (m * 1) = (xs ++ [x]).take (m * 1) := by rw [ht]
    rw [List.take_take, show min (m * 1) ((m + 1) * 1) = m * 1 by omega] at this
    rw [this, List.take_left' (by omega)]

theorem vn_snoc (l : List Nat) (i : Nat) : vn (l ++ [i]) = vn l ++ [Value.int .i64 (i : Nat)] := by unfold vn; rw [List.map_append]; rfl
theorem hidp2 {p : Prop} (h : Hid p) : p ∧ Hid p := ⟨h, h⟩
end Go.Proofs.YtgodgfnfaiiohaaGreatDoor

/- Contracts of alias.Make at lists that are no weights, and of alias.Check, Pick and Shares at what was made. -/
namespace Go.Proofs.YtgodgfnfaiiohaaGreatDoor
open Go.ChangeShapes Go.WideShapes Go.ChangeAt Go.RowKit
set_option maxRecDepth 20000

/-- Columns that lie in memory. -/
structure AliasAt (W : World) (g1 g2 n : Nat) (A : Int) (own : Nat → Int) (rest : Nat → Nat) : Prop where
  y1 : ∀ i, i < n → W.cell? ⟨g1, i, none⟩ = some (.int .i64 (own i))
  y2 : ∀ i, i < n → W.cell? ⟨g2, i, none⟩ = some (.int .i64 (rest i : Nat))
  n1 : 1 ≤ n ∧ n ≤ 40
  bA : 1 ≤ A ∧ A ≤ 40000000000000
  bd : ∀ i, i < n → 0 ≤ own i ∧ own i ≤ A
  rt : ∀ i, i < n → rest i < n
theorem AliasAt.below {W W' : World} {g1 g2 n : Nat} {A : Int} {own : Nat → Int} {rest : Nat → Nat} (h : AliasAt W g1 g2 n A own rest) (hb : Below W.heap.size W W') : AliasAt W' g1 g2 n A own rest :=
  ⟨fun i hi => ck hb (h.y1 i hi), fun i hi => ck hb (h.y2 i hi), h.n1, h.bA, h.bd, h.rt⟩
theorem AliasAt.of {W : World} {B B' g1 g2 n : Nat} {A : Int} {own : Nat → Int} {rest : Nat → Nat} {V : Nat → Int} (hF : Wk.Fin n A V own rest) (o1 : W.ownsRow B 3 1 (.slice (some ⟨g1, 0, none⟩) n n) n (row own n)) (o2 : W.ownsRow B' 3 1 (.slice (some ⟨g2, 0, none⟩) n n) n (row (fun j => (rest j : Nat)) n)) (n1 : 1 ≤ n ∧ n ≤ 40) (bA : 1 ≤ A ∧ A ≤ 40000000000000) : AliasAt W g1 g2 n A own rest :=
  ⟨fun i hi => by have := o1.cellAt i (by omega); unfold row at this; rw [tab_get _ _ _ hi] at this; exact this,
   fun i hi => by have := o2.cellAt i (by omega); unfold row at this; rw [tab_get _ _ _ hi] at this; exact this, n1, bA, hF.bd, hF.rt⟩
set_option maxHeartbeats 2000000 in
theorem make_bad (a : Option Addr) (n c : Nat) (xs : List Int) (w : World) (h : IntsAt w a n c xs) (hE : ¬ wtsE xs n = 0) :
    Calls Tryz.prog 40 #[.slice a n c] w fun e w' => e = .returned (.tuple #[.agg #[.int .i64 0, .slice none 0 0, .slice none 0 0], .int .i64 (wtsE xs n)]) ∧ Below w.heap.size w w' := by
  have CW := hidp (fun W hB => weights_c a n c xs W (h.below (w' := W) hB))
  have mm := h.max
  have ee := h.le
  have hE1 : (wtsE xs n == 0) = false := by rw [beq_eq_false_iff_ne]; exact hE
  clear hE h
  go_enter Tryz.func40, Tryz.ntmps40
  go_wp2_with fail
  refine (CW.out _ (bal (Below.refl _ _) _)).mono ?_
  rintro e w' ⟨rfl, rfl⟩
  go_wp2_with fail
  exact bodyPost_ret (v := .tuple #[.agg #[.int .i64 0, .slice none 0 0, .slice none 0 0], .int .i64 (wtsE xs n)]) (by simp [results, Tryz.results40, go_sem]) rfl ⟨rfl, bal (Below.refl _ _) _⟩

end Go.Proofs.YtgodgfnfaiiohaaGreatDoor
