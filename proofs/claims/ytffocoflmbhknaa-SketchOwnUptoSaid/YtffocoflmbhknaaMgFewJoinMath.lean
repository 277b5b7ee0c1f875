/- Merged: FewMath2, FewJoinMath. -/
import Derived.Test.YtffocoflmbhknaaFewMath
import Derived.Test.YtffocoflmbhknaaMem
/- Few counters: plain law of the join, and of the most frequent one (Boyer, Moore). -/
namespace Go.Proofs.Ytffocoflmbhknaa
set_option maxRecDepth 20000
/-- Two rising rows of counters that tell the same are the same. -/
theorem krise_ext : ∀ (L M : List (Int × Int)), KRise L → KRise M → (∀ p ∈ L, 1 ≤ p.2) → (∀ p ∈ M, 1 ≤ p.2) → (∀ z, occ L z = occ M z) → L = M
  | [], [], _, _, _, _, _ => rfl
  | [], q :: m, _, hM, _, pM, h => by
    have a := h q.1
    have b := pM q (by simp)
    have c := krise_zero q m hM q.1 (Int.le_refl _)
    simp only [occ, if_true] at a
    omega
  | p :: l, [], hL, _, pL, _, h => by
    have a := h p.1
    have b := pL p (by simp)
    have c := krise_zero p l hL p.1 (Int.le_refl _)
    simp only [occ, if_true] at a
    omega
  | p :: l, q :: m, hL, hM, pL, pM, h => by
    have p1 := pL p (by simp)
    have q1 := pM q (by simp)
    have a1 := krise_zero p l hL
    have b1 := krise_zero q m hM
    have e : p.1 = q.1 := by
      have u := h p.1
      have v := h q.1
      simp only [occ, if_true] at u v
      have u1 := a1 p.1 (Int.le_refl _)
      have v1 := b1 q.1 (Int.le_refl _)
      by_cases h1 : p.1 < q.1
      · have := b1 p.1 (by omega)
        rw [if_neg (by omega)] at u
        omega
      · by_cases h2 : q.1 < p.1
        · have := a1 q.1 (by omega)
          rw [if_neg (by omega)] at v
          omega
        · omega
    have e2 : p.2 = q.2 := by
      have u := h p.1
      have u1 := a1 p.1 (Int.le_refl _)
      have v1 := b1 p.1 (by omega)
      simp only [occ, if_true] at u
      rw [if_pos e] at u
      omega
    have e3 : p = q := Prod.ext e e2
    subst e3
    rw [krise_ext l m (List.pairwise_cons.1 hL).2 (List.pairwise_cons.1 hM).2 (fun r hr => pL r (by simp [hr])) (fun r hr => pM r (by simp [hr])) (fun z => by
      have := h z
      simp only [occ] at this
      omega)]
/-- All of one row of counters to another one. -/
def kjoin (L M : List (Int × Int)) : List (Int × Int) := M.foldl (fun s p => kadd s p.1 p.2) L
theorem kjoin_occ (z : Int) : ∀ (M L : List (Int × Int)), occ (kjoin L M) z = occ L z + occ M z
  | [], L => by simp [kjoin, occ]
  | p :: M, L => by
    show occ (kjoin (kadd L p.1 p.2) M) z = _
    rw [kjoin_occ z M, kadd_occ]
    simp only [occ]; omega
theorem kjoin_csum : ∀ (M L : List (Int × Int)), csum (kjoin L M) = csum L + csum M
  | [], L => by simp [kjoin, csum]
  | p :: M, L => by
    show csum (kjoin (kadd L p.1 p.2) M) = _
    rw [kjoin_csum M, kadd_csum]
    simp only [csum]; omega
theorem kjoin_rise : ∀ (M L : List (Int × Int)), KRise L → KRise (kjoin L M)
  | [], _, h => h
  | p :: M, L, h => kjoin_rise M _ (kadd_rise p.1 p.2 L h)
theorem kjoin_pos : ∀ (M L : List (Int × Int)), (∀ p ∈ M, 1 ≤ p.2) → (∀ p ∈ L, 1 ≤ p.2) → ∀ p ∈ kjoin L M, 1 ≤ p.2
  | [], _, _, h => h
  | q :: M, L, hM, h => kjoin_pos M _ (fun p hp => hM p (by simp [hp])) (kadd_pos q.1 q.2 (hM q (by simp)) L h)
theorem kjoin_len : ∀ (M L : List (Int × Int)), (kjoin L M).length ≤ L.length + M.length
  | [], L => by simp [kjoin]
  | p :: M, L => by
    have := kjoin_len M (kadd L p.1 p.2)
    have := kadd_len p.1 p.2 L
    show (kjoin (kadd L p.1 p.2) M).length ≤ _
    simp only [List.length_cons]; omega
theorem kjoin_snoc (L M : List (Int × Int)) (k n : Int) : kjoin L (M ++ [(k, n)]) = kadd (kjoin L M) k n := by unfold kjoin; rw [List.foldl_append]; rfl
theorem kjoin_comm (L M : List (Int × Int)) (hL : KRise L) (hM : KRise M) (pL : ∀ p ∈ L, 1 ≤ p.2) (pM : ∀ p ∈ M, 1 ≤ p.2) : kjoin L M = kjoin M L :=
  krise_ext _ _ (kjoin_rise M L hL) (kjoin_rise L M hM) (kjoin_pos M L pM pL) (kjoin_pos L M pL pM) (fun z => by rw [kjoin_occ, kjoin_occ]; omega)
/-- Joined, d of all who are too many taken. -/
def fjoin (K : Nat) (d : Int) (s t : Int × List (Int × Int)) : Int × List (Int × Int) :=
  if K < (kjoin s.2 t.2).length then (s.1 + t.1 + d, kless d (kjoin s.2 t.2)) else (s.1 + t.1, kjoin s.2 t.2)
theorem fjoin_is (K : Nat) (d : Int) (C D : List (Int × Int)) (s t : Int × List (Int × Int)) (hs : FewIs K C s) (ht : FewIs K D t) (hd : K < (kjoin s.2 t.2).length → 1 ≤ d ∧ K + 1 ≤ (kjoin s.2 t.2).countP (fun p => decide (d ≤ p.2)) ∧ (kjoin s.2 t.2).countP (fun p => decide (d < p.2)) ≤ K) : FewIs K (C ++ D) (fjoin K d s t) := by
  have hr := kjoin_rise t.2 s.2 hs.ris
  have hp := kjoin_pos t.2 s.2 ht.pos hs.pos
  have hc := kjoin_csum t.2 s.2
  have ho := fun z => kjoin_occ z t.2 s.2
  have a1 := hs.all
  have a2 := ht.all
  have l1 := hs.l0
  have l2 := ht.l0
  have hca : csum (C ++ D) = csum C + csum D := csum_append D C
  have hoa : ∀ z, occ (C ++ D) z = occ C z + occ D z := fun z => occ_append D z C
  unfold fjoin
  by_cases h : K < (kjoin s.2 t.2).length
  · rw [if_pos h]
    obtain ⟨d1, d2, d3⟩ := hd h
    have e1 := kless_csum d (kjoin s.2 t.2)
    have e2 := kmin_ge d (by omega) (kjoin s.2 t.2) (fun p hp' => by have := hp p hp'; omega)
    have e3 : d * ((K : Int) + 1) ≤ d * (((kjoin s.2 t.2).countP (fun p => decide (d ≤ p.2)) : Nat) : Int) := Int.mul_le_mul_of_nonneg_left (by omega) (by omega)
    refine ⟨by show 0 ≤ s.1 + t.1 + d; omega, by show (kless _ _).length ≤ K; rw [kless_len]; exact d3, kless_rise _ _ hr, fun p hp' => ?_, ?_, fun z => ?_⟩
    · obtain ⟨q, _, _, f1, f2⟩ := kless_mem d _ p hp'
      omega
    · show (s.1 + t.1 + d) * ((K : Int) + 1) + csum (kless _ _) ≤ _
      rw [Int.add_mul, Int.add_mul]; omega
    · show occ (kless _ _) z ≤ _ ∧ _ ≤ occ (kless _ _) z + (s.1 + t.1 + d)
      have f := kless_occ d z (by omega) _ hr hp
      have g1 := hs.near z
      have g2 := ht.near z
      have g3 := ho z
      have g4 := hoa z
      omega
  · rw [if_neg h]
    refine ⟨by show 0 ≤ s.1 + t.1; omega, by show (kjoin _ _).length ≤ K; omega, hr, hp, ?_, fun z => ?_⟩
    · show (s.1 + t.1) * ((K : Int) + 1) + csum (kjoin _ _) ≤ _
      rw [Int.add_mul]; omega
    · show occ (kjoin _ _) z ≤ _ ∧ _ ≤ occ (kjoin _ _) z + (s.1 + t.1)
      have g1 := hs.near z
      have g2 := ht.near z
      have g3 := ho z
      have g4 := hoa z
      omega
/-- How many are x. -/
def cn (x : Int) (xs : List Int) : Nat := xs.countP (fun y => decide (y = x))
/-- Boyer, Moore. -/
def bmS (s : Int × Int) (x : Int) : Int × Int := if s.2 = 0 then (x, 1) else if x = s.1 then (s.1, s.2 + 1) else (s.1, s.2 - 1)
def bm (xs : List Int) : Int × Int := xs.foldl bmS (0, 0)
theorem bm_snoc (xs : List Int) (x : Int) : bm (xs ++ [x]) = bmS (bm xs) x := by unfold bm; rw [List.foldl_append]; rfl
theorem cn_snoc (x y : Int) (xs : List Int) : cn x (xs ++ [y]) = cn x xs + (if y = x then 1 else 0) := by
  unfold cn
  rw [List.countP_append]
  simp [List.countP_cons]
theorem bm_inv (xs : List Int) : 0 ≤ (bm xs).2 ∧ (bm xs).2 ≤ xs.length ∧ ∀ x, 2 * (cn x xs : Int) ≤ xs.length + (if x = (bm xs).1 then (bm xs).2 else - (bm xs).2) := by
  induction xs using snoc_ind with
  | h0 => exact ⟨by simp [bm], by simp [bm], fun x => by
      show 2 * ((0 : Nat) : Int) ≤ ((0 : Nat) : Int) + if x = 0 then (0 : Int) else -0
      by_cases e : x = 0
      · rw [if_pos e]; omega
      · rw [if_neg e]; omega⟩
  | h1 xs y ih =>
    obtain ⟨i1, i2, i3⟩ := ih
    rw [bm_snoc]
    generalize bm xs = s at *
    rw [List.length_append]
    refine ⟨?_, ?_, fun x => ?_⟩
    · unfold bmS
      split
      · show (0 : Int) ≤ 1; omega
      · split
        · show (0 : Int) ≤ s.2 + 1; omega
        · show (0 : Int) ≤ s.2 - 1; omega
    · unfold bmS
      simp only [List.length_singleton, Int.natCast_add]
      split
      · show (1 : Int) ≤ _; omega
      · split
        · show s.2 + 1 ≤ _; omega
        · show s.2 - 1 ≤ _; omega
    · have := i3 x
      rw [cn_snoc]
      unfold bmS
      simp only [List.length_singleton, Int.natCast_add]
      by_cases h1 : s.2 = 0
      · rw [if_pos h1]
        show _ ≤ _ + if x = y then (1 : Int) else -1
        by_cases e : x = y
        · rw [if_pos e, if_pos e.symm]; split at this <;> omega
        · rw [if_neg e, if_neg (fun h => e h.symm)]; split at this <;> omega
      · rw [if_neg h1]
        by_cases h2 : y = s.1
        · rw [if_pos h2]
          show _ ≤ _ + if x = s.1 then s.2 + 1 else -(s.2 + 1)
          by_cases e : x = s.1
          · rw [if_pos e] at this ⊢
            rw [if_pos (by rw [h2, e])]; omega
          · rw [if_neg e] at this ⊢
            rw [if_neg (by intro h; exact e (by rw [← h, h2]))]; omega
        · rw [if_neg h2]
          show _ ≤ _ + if x = s.1 then s.2 - 1 else -(s.2 - 1)
          by_cases e : x = s.1
          · rw [if_pos e] at this ⊢
            rw [if_neg (by intro h; exact h2 (by rw [h, e]))]; omega
          · rw [if_neg e] at this ⊢
            split <;> omega
/-- Who is more than half of all. -/
def mostR (xs : List Int) : Int × Bool := if xs.length < 2 * cn (bm xs).1 xs then ((bm xs).1, true) else (0, false)
theorem most_who (xs : List Int) (x : Int) (h : xs.length < 2 * cn x xs) : x = (bm xs).1 := by
  obtain ⟨i1, _, i3⟩ := bm_inv xs
  have := i3 x
  split at this
  · assumption
  · omega
theorem most_ext (xs ys : List Int) (hl : xs.length = ys.length) (h : ∀ x, cn x xs = cn x ys) : mostR xs = mostR ys := by
  unfold mostR
  by_cases h1 : xs.length < 2 * cn (bm xs).1 xs
  · have e := most_who ys (bm xs).1 (by rw [← hl, ← h]; exact h1)
    rw [if_pos h1, if_pos (by rw [← hl, ← h, ← e]; exact h1), e]
  · by_cases h2 : ys.length < 2 * cn (bm ys).1 ys
    · have e := most_who xs (bm ys).1 (by rw [hl, h]; exact h2)
      exact absurd (by rw [← e, hl, h]; exact h2) h1
    · rw [if_neg h1, if_neg h2]
theorem cn_append (x : Int) (xs ys : List Int) : cn x (xs ++ ys) = cn x xs + cn x ys := List.countP_append ..
theorem most_turn (xs : List Int) (t : Nat) : mostR (xs.drop t ++ xs.take t) = mostR xs := by
  refine most_ext _ _ ?_ (fun x => ?_)
  · rw [List.length_append, List.length_drop, List.length_take]; omega
  · rw [cn_append]
    have : cn x (xs.take t ++ xs.drop t) = cn x (xs.take t) + cn x (xs.drop t) := cn_append _ _ _
    rw [List.take_append_drop] at this; omega
/-- Ones: how often each came. -/
theorem ones_occ (x : Int) : ∀ xs : List Int, occ (xs.map (fun y => (y, (1 : Int)))) x = cn x xs
  | [] => rfl
  | y :: l => by
    have ih := ones_occ x l
    simp only [List.map_cons, occ, ih]
    unfold cn
    rw [List.countP_cons]
    by_cases e : x = y
    · rw [if_pos e, if_pos (by simp [e])]; push_cast; omega
    · rw [if_neg e, if_neg (by simp; exact fun h => e h.symm)]; simp
theorem ones_csum : ∀ xs : List Int, csum (xs.map (fun y => (y, (1 : Int)))) = xs.length
  | [] => rfl
  | y :: l => by
    have ih := ones_csum l
    simp only [List.map_cons, csum, ih, List.length_cons]; push_cast; omega
theorem occ_none (z : Int) : ∀ L : List (Int × Int), (∀ p ∈ L, p.1 ≠ z) → occ L z = 0
  | [], _ => rfl
  | p :: l, h => by
    have := h p (by simp)
    simp only [occ]
    rw [if_neg (fun e => this e.symm), occ_none z l (fun q hq => h q (by simp [hq]))]; rfl
/-- What came more often than all of it, divided by K and one, has a counter. -/
theorem few_often (K : Nat) (D : List (Int × Int)) (hD : ∀ p ∈ D, 1 ≤ p.2) (z : Int) (h : csum D < occ D z * ((K : Int) + 1)) : ∃ p ∈ (fewL K D).2, p.1 = z := by
  refine Classical.byContradiction fun hn => ?_
  have hI := fewL_is K D hD
  have h0 : occ (fewL K D).2 z = 0 := occ_none z _ (fun p hp e => hn ⟨p, hp, e⟩)
  have h1 := hI.near z
  have h2 := hI.all
  have h3 := csum_nn (fewL K D).2 (fun p hp => by have := hI.pos p hp; omega)
  have h4 : occ D z * ((K : Int) + 1) ≤ (fewL K D).1 * ((K : Int) + 1) := Int.mul_le_mul_of_nonneg_right (by omega) (by omega)
  omega
/-- More than half of all has the one counter. -/
theorem few_half (xs : List Int) (x : Int) (h : xs.length < 2 * cn x xs) : ∃ n, (fewL 1 (xs.map (fun y => (y, (1 : Int))))).2 = [(x, n)] := by
  have hp : ∀ p ∈ xs.map (fun y => (y, (1 : Int))), 1 ≤ p.2 := by
    intro p hp
    obtain ⟨y, _, rfl⟩ := List.mem_map.1 hp
    exact Int.le_refl _
  obtain ⟨p, hp1, hp2⟩ := few_often 1 _ hp x (by rw [ones_csum, ones_occ]; push_cast; omega)
  have hl := (fewL_is 1 _ hp).ln
  match hq : (fewL 1 (xs.map (fun y => (y, (1 : Int))))).2, hl, hp1 with
  | [], _, h => simp at h
  | [q], _, h => simp at h; subst h; exact ⟨p.2, by rw [← hp2]⟩
  | q :: r :: l, hl, _ => simp at hl
end Go.Proofs.Ytffocoflmbhknaa

/- Which number is taken of all where two fews are joined: plain law. -/
namespace Go.Proofs.Ytffocoflmbhknaa
set_option maxRecDepth 20000
def srtI (xs : List Int) : List Int := xs.mergeSort (fun x y => decide (x ≤ y))
theorem srtI_le (xs : List Int) : (srtI xs).Pairwise (· ≤ ·) := by
  have h := List.pairwise_mergeSort (le := fun (x y : Int) => decide (x ≤ y)) (fun a b c h1 h2 => by simp at h1 h2 ⊢; omega) (fun a b => by simp; omega) xs
  exact h.imp (fun h => by simpa using h)
theorem srtI_perm (xs : List Int) : (srtI xs).Perm xs := List.mergeSort_perm _ _
theorem srtI_len (xs : List Int) : (srtI xs).length = xs.length := List.length_mergeSort _
/-- How much all lose who are too many. -/
def dj (K : Nat) (A : List (Int × Int)) : Int := gi (srtI (A.map (·.2))) (A.length - 1 - K)
theorem gi_getE (xs : List Int) (i : Nat) (h : i < xs.length) : gi xs i = xs[i] := by
  unfold gi; rw [List.getD_eq_getElem?_getD, List.getElem?_eq_getElem h]; rfl
theorem cnt_map (q : Int → Bool) (A : List (Int × Int)) : A.countP (fun p => q p.2) = (srtI (A.map (·.2))).countP q := by
  rw [(srtI_perm _).countP_eq, List.countP_map]; rfl
theorem dj_props (K : Nat) (A : List (Int × Int)) (B : Int) (h : K < A.length) (pos : ∀ p ∈ A, 1 ≤ p.2 ∧ p.2 ≤ B) : (1 ≤ dj K A ∧ dj K A ≤ B) ∧ K + 1 ≤ A.countP (fun p => decide (dj K A ≤ p.2)) ∧ A.countP (fun p => decide (dj K A < p.2)) ≤ K := by
  have hl : (srtI (A.map (·.2))).length = A.length := by rw [srtI_len, List.length_map]
  have hs := srtI_le (A.map (·.2))
  have hm : ∀ x ∈ srtI (A.map (·.2)), 1 ≤ x ∧ x ≤ B := fun x hx => by
    obtain ⟨p, hp, rfl⟩ := List.mem_map.1 ((srtI_perm _).mem_iff.1 hx)
    exact pos p hp
  have c1 := cnt_map (fun x => decide (dj K A ≤ x)) A
  have c2 := cnt_map (fun x => decide (dj K A < x)) A
  rw [c1, c2]
  have hd : dj K A = gi (srtI (A.map (·.2))) (A.length - 1 - K) := rfl
  generalize srtI (A.map (·.2)) = S at *
  clear c1 c2
  obtain ⟨i, hi⟩ : ∃ i, i = A.length - 1 - K := ⟨_, rfl⟩
  rw [← hi] at hd
  have hiS : i < S.length := by omega
  rw [gi_getE S i hiS] at hd
  rw [List.pairwise_iff_getElem] at hs
  refine ⟨by rw [hd]; exact hm _ (List.getElem_mem hiS), ?_, ?_⟩
  · have e : S.countP (fun x => decide (dj K A ≤ x)) = (S.take i).countP (fun x => decide (dj K A ≤ x)) + (S.drop i).countP (fun x => decide (dj K A ≤ x)) := by
      rw [← List.countP_append, List.take_append_drop]
    have e2 : (S.drop i).countP (fun x => decide (dj K A ≤ x)) = (S.drop i).length := by
      rw [List.countP_eq_length]
      intro x hx
      obtain ⟨j, hj, rfl⟩ := List.getElem_of_mem hx
      rw [List.length_drop] at hj
      rw [List.getElem_drop, hd]
      by_cases e0 : j = 0
      · subst e0; simp
      · have := hs i (i + j) hiS (by omega) (by omega)
        simp; omega
    rw [List.length_drop] at e2
    omega
  · have e : S.countP (fun x => decide (dj K A < x)) = (S.take (i + 1)).countP (fun x => decide (dj K A < x)) + (S.drop (i + 1)).countP (fun x => decide (dj K A < x)) := by
      rw [← List.countP_append, List.take_append_drop]
    have e1 : (S.take (i + 1)).countP (fun x => decide (dj K A < x)) = 0 := by
      rw [List.countP_eq_zero]
      intro x hx
      obtain ⟨j, hj, rfl⟩ := List.getElem_of_mem hx
      rw [List.length_take] at hj
      rw [List.getElem_take, hd]
      by_cases e0 : j = i
      · subst e0; simp
      · have := hs j i (by omega) hiS (by omega)
        simp; omega
    have e2 : (S.drop (i + 1)).countP (fun x => decide (dj K A < x)) ≤ (S.drop (i + 1)).length := List.countP_le_length
    rw [List.length_drop] at e2
    omega
/-- What Join gives. -/
def fjoinR (K : Nat) (s t : Int × List (Int × Int)) : Int × List (Int × Int) := fjoin K (dj K (kjoin s.2 t.2)) s t
theorem fjoinR_is (K : Nat) (C D : List (Int × Int)) (s t : Int × List (Int × Int)) (hs : FewIs K C s) (ht : FewIs K D t) : FewIs K (C ++ D) (fjoinR K s t) :=
  fjoin_is K _ C D s t hs ht (fun h => by
    have hp := kjoin_pos t.2 s.2 ht.pos hs.pos
    have := dj_props K (kjoin s.2 t.2) (csum (kjoin s.2 t.2)) h (fun p hp' => ⟨hp p hp', mem_csum _ (fun q hq => by have := hp q hq; omega) p hp'⟩)
    exact ⟨this.1.1, this.2⟩)
theorem fjoinR_comm (K : Nat) (C D : List (Int × Int)) (s t : Int × List (Int × Int)) (hs : FewIs K C s) (ht : FewIs K D t) : fjoinR K s t = fjoinR K t s := by
  unfold fjoinR fjoin
  rw [kjoin_comm s.2 t.2 hs.ris ht.ris hs.pos ht.pos, Int.add_comm s.1 t.1]
end Go.Proofs.Ytffocoflmbhknaa
