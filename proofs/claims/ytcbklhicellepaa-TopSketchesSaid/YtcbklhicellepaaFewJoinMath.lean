/- Which number is taken of all where two fews are joined: plain law. -/
import Derived.Test.YtcbklhicellepaaFewMath2
import Derived.Test.YtcbklhicellepaaMem
namespace Go.Proofs.Ytcbklhicellepaa
set_option maxRecDepth 20000
def srtI (xs : List Int) : List Int := xs.mergeSort (fun x y => decide (x ≤ y))
theorem srtI_le (xs : List Int) : (srtI xs).Pairwise (· ≤ ·) := by
  have h := List.pairwise_mergeSort (le := fun (x y : Int) => decide (x ≤ y)) (fun a b c h1 h2 => by simp at h1 h2 ⊢; omega) (fun a b => by simp; omega) xs
  exact h.imp (fun h => by simpa using h)
theorem srtI_perm (xs : List Int) : (srtI xs).Perm xs := List.mergeSort_perm _ _
theorem srtI_len (xs : List Int) : (srtI xs).length = xs.length := List.length_mergeSort _
/-- How much all lose who are too many. -/
def dj (K : Nat) (A : List (Int × Int)) : Int := gi (srtI (A.map (·.2))) (A.length - 1 - K)
theorem gi_getE (xs : List Int) (i : Nat) (h : i < xs.length) : gi xs i = xs[i] := by
  unfold gi; rw [List.getD_eq_getElem?_getD, List.getElem?_eq_getElem h]; rfl
theorem cnt_map (q : Int → Bool) (A : List (Int × Int)) : A.countP (fun p => q p.2) = (srtI (A.map (·.2))).countP q := by
  rw [(srtI_perm _).countP_eq, List.countP_map]; rfl
theorem dj_props (K : Nat) (A : List (Int × Int)) (B : Int) (h : K < A.length) (pos : ∀ p ∈ A, 1 ≤ p.2 ∧ p.2 ≤ B) : (1 ≤ dj K A ∧ dj K A ≤ B) ∧ K + 1 ≤ A.countP (fun p => decide (dj K A ≤ p.2)) ∧ A.countP (fun p => decide (dj K A < p.2)) ≤ K := by
  have hl : (srtI (A.map (·.2))).length = A.length := by rw [srtI_len, List.length_map]
  have hs := srtI_le (A.map (·.2))
  have hm : ∀ x ∈ srtI (A.map (·.2)), 1 ≤ x ∧ x ≤ B := fun x hx => by
    obtain ⟨p, hp, rfl⟩ := List.mem_map.1 ((srtI_perm _).mem_iff.1 hx)
    exact pos p hp
  have c1 := cnt_map (fun x => decide (dj K A ≤ x)) A
  have c2 := cnt_map (fun x => decide (dj K A < x)) A
  rw [c1, c2]
  have hd : dj K A = gi (srtI (A.map (·.2))) (A.length - 1 - K) := rfl
  generalize srtI (A.map (·.2)) = S at *
  clear c1 c2
  obtain ⟨i, hi⟩ : ∃ i, i = A.length - 1 - K := ⟨_, rfl⟩
  rw [← hi] at hd
  have hiS : i < S.length := by omega
  rw [gi_getE S i hiS] at hd
  rw [List.pairwise_iff_getElem] at hs
  refine ⟨by rw [hd]; exact hm _ (List.getElem_mem hiS), ?_, ?_⟩
  · have e : S.countP (fun x => decide (dj K A ≤ x)) = (S.take i).countP (fun x => decide (dj K A ≤ x)) + (S.drop i).countP (fun x => decide (dj K A ≤ x)) := by
      rw [← List.countP_append, List.take_append_drop]
    have e2 : (S.drop i).countP (fun x => decide (dj K A ≤ x)) = (S.drop i).length := by
      rw [List.countP_eq_length]
      intro x hx
      obtain ⟨j, hj, rfl⟩ := List.getElem_of_mem hx
      rw [List.length_drop] at hj
      rw [List.getElem_drop, hd]
      by_cases e0 : j = 0
      · subst e0; simp
      · have := hs i (i + j) hiS (by omega) (by omega)
        simp; omega
    rw [List.length_drop] at e2
    omega
  · have e : S.countP (fun x => decide (dj K A < x)) = (S.take (i + 1)).countP (fun x => decide (dj K A < x)) + (S.drop (i + 1)).countP (fun x => decide (dj K A < x)) := by
      rw [← List.countP_append, List.take_append_drop]
    have e1 : (S.take (i + 1)).countP (fun x => decide (dj K A < x)) = 0 := by
      rw [List.countP_eq_zero]
      intro x hx
      obtain ⟨j, hj, rfl⟩ := List.getElem_of_mem hx
      rw [List.length_take] at hj
      rw [List.getElem_take, hd]
      by_cases e0 : j = i
      · subst e0; simp
      · have := hs j i (by omega) hiS (by omega)
        simp; omega
    have e2 : (S.drop (i + 1)).countP (fun x => decide (dj K A < x)) ≤ (S.drop (i + 1)).length := List.countP_le_length
    rw [List.length_drop] at e2
    omega
/-- What Join gives. -/
def fjoinR (K : Nat) (s t : Int × List (Int × Int)) : Int × List (Int × Int) := fjoin K (dj K (kjoin s.2 t.2)) s t
theorem fjoinR_is (K : Nat) (C D : List (Int × Int)) (s t : Int × List (Int × Int)) (hs : FewIs K C s) (ht : FewIs K D t) : FewIs K (C ++ D) (fjoinR K s t) :=
  fjoin_is K _ C D s t hs ht (fun h => by
    have hp := kjoin_pos t.2 s.2 ht.pos hs.pos
    have := dj_props K (kjoin s.2 t.2) (csum (kjoin s.2 t.2)) h (fun p hp' => ⟨hp p hp', mem_csum _ (fun q hq => by have := hp q hq; omega) p hp'⟩)
    exact ⟨this.1.1, this.2⟩)
theorem fjoinR_comm (K : Nat) (C D : List (Int × Int)) (s t : Int × List (Int × Int)) (hs : FewIs K C s) (ht : FewIs K D t) : fjoinR K s t = fjoinR K t s := by
  unfold fjoinR fjoin
  rw [kjoin_comm s.2 t.2 hs.ris ht.ris hs.pos ht.pos, Int.add_comm s.1 t.1]
end Go.Proofs.Ytcbklhicellepaa
