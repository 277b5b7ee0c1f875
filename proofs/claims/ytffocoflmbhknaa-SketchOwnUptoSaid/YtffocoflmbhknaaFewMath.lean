/- Few counters (Misra, Gries): plain law. -/
import Derived.Test.YtffocoflmbhknaaMgCntMore
namespace Go.Proofs.Ytffocoflmbhknaa
set_option maxRecDepth 20000
/-- The keys rise. -/
def KRise (L : List (Int × Int)) : Prop := L.Pairwise (fun p q => p.1 < q.1)
/-- So much more to a key. -/
def kadd : List (Int × Int) → Int → Int → List (Int × Int)
  | [], k, n => [(k, n)]
  | p :: l, k, n => if k < p.1 then (k, n) :: p :: l else if k = p.1 then (p.1, p.2 + n) :: l else p :: kadd l k n
theorem kadd_occ (k n z : Int) : ∀ L, occ (kadd L k n) z = occ L z + (if z = k then n else 0)
  | [] => by simp [kadd, occ]
  | p :: l => by
    have ih := kadd_occ k n z l
    simp only [kadd]
    split
    · simp only [occ]; omega
    · split
      · rename_i h; subst h
        simp only [occ]
        split <;> omega
      · simp only [occ]; rw [ih]; omega
theorem kadd_csum (k n : Int) : ∀ L, csum (kadd L k n) = csum L + n
  | [] => by simp [kadd, csum]
  | p :: l => by
    have ih := kadd_csum k n l
    simp only [kadd]
    split
    · simp only [csum]; omega
    · split
      · simp only [csum]; omega
      · simp only [csum]; rw [ih]; omega
theorem kadd_key (k n : Int) : ∀ L, ∀ p ∈ kadd L k n, p.1 = k ∨ ∃ q ∈ L, q.1 = p.1
  | [], p, h => by simp [kadd] at h; exact .inl (by rw [h])
  | q :: l, p, h => by
    have ih := kadd_key k n l p
    simp only [kadd] at h
    split at h
    · simp only [List.mem_cons] at h
      rcases h with rfl | rfl | h
      · exact .inl rfl
      · exact .inr ⟨p, by simp, rfl⟩
      · exact .inr ⟨p, by simp [h], rfl⟩
    · split at h
      · simp only [List.mem_cons] at h
        rcases h with rfl | h
        · exact .inr ⟨q, by simp, rfl⟩
        · exact .inr ⟨p, by simp [h], rfl⟩
      · simp only [List.mem_cons] at h
        rcases h with rfl | h
        · exact .inr ⟨p, by simp, rfl⟩
        · rcases ih h with e | ⟨r, hr, e⟩
          · exact .inl e
          · exact .inr ⟨r, by simp [hr], e⟩
theorem kadd_rise (k n : Int) : ∀ L, KRise L → KRise (kadd L k n)
  | [], _ => by simp [kadd, KRise]
  | p :: l, h => by
    have h' := List.pairwise_cons.1 h
    have ih := kadd_rise k n l h'.2
    simp only [kadd]
    split
    · rename_i h1
      refine List.pairwise_cons.2 ⟨fun z hz => ?_, h⟩
      rcases List.mem_cons.1 hz with rfl | hz
      · exact h1
      · have := h'.1 z hz; show k < z.1; omega
    · split
      · exact List.pairwise_cons.2 ⟨h'.1, h'.2⟩
      · refine List.pairwise_cons.2 ⟨fun z hz => ?_, ih⟩
        rcases kadd_key k n l z hz with e | ⟨q, hq, e⟩
        · omega
        · have := h'.1 q hq; omega
theorem kadd_pos (k n : Int) (hn : 1 ≤ n) : ∀ L, (∀ p ∈ L, 1 ≤ p.2) → ∀ p ∈ kadd L k n, 1 ≤ p.2
  | [], _, p, hp => by simp [kadd] at hp; rw [hp]; exact hn
  | q :: l, h, p, hp => by
    have ih := kadd_pos k n hn l (fun p hp => h p (by simp [hp])) p
    have hq := h q (by simp)
    simp only [kadd] at hp
    split at hp
    · simp only [List.mem_cons] at hp
      rcases hp with rfl | rfl | hp
      · exact hn
      · exact hq
      · exact h p (by simp [hp])
    · split at hp
      · simp only [List.mem_cons] at hp
        rcases hp with rfl | hp
        · show 1 ≤ q.2 + n; omega
        · exact h p (by simp [hp])
      · simp only [List.mem_cons] at hp
        rcases hp with rfl | hp
        · exact hq
        · exact ih hp
theorem kadd_big (k n B : Int) : ∀ L : List (Int × Int), (∀ p ∈ L, p.2 ≤ B) → ∀ p ∈ kadd L k n, (0 ≤ n ∧ n ≤ B ∧ 0 ≤ B) → p.2 ≤ B + B
  | [], _, p, hp, hn => by simp [kadd] at hp; rw [hp]; show n ≤ _; omega
  | q :: l, h, p, hp, hn => by
    have ih := kadd_big k n B l (fun p hp => h p (by simp [hp])) p
    have hq := h q (by simp)
    simp only [kadd] at hp
    split at hp
    · simp only [List.mem_cons] at hp
      rcases hp with rfl | rfl | hp
      · show n ≤ _; omega
      · omega
      · have := h p (by simp [hp]); omega
    · split at hp
      · simp only [List.mem_cons] at hp
        rcases hp with rfl | hp
        · show q.2 + n ≤ _; omega
        · have := h p (by simp [hp]); omega
      · simp only [List.mem_cons] at hp
        rcases hp with rfl | hp
        · omega
        · exact ih hp hn
theorem kadd_len (k n : Int) : ∀ L, L.length ≤ (kadd L k n).length ∧ (kadd L k n).length ≤ L.length + 1 ∧ 1 ≤ (kadd L k n).length
  | [] => by simp [kadd]
  | p :: l => by
    have := kadd_len k n l
    simp only [kadd]
    split
    · simp
    · split
      · simp
      · simp only [List.length_cons]; omega
/-- The place of a key. -/
def kpos (L : List (Int × Int)) (k : Int) : Nat := L.countP (fun p => decide (p.1 < k))
def khas (L : List (Int × Int)) (k : Int) : Bool := decide (kpos L k < L.length) && decide (ckey L (kpos L k) = k)
theorem kpos_le (L : List (Int × Int)) (k : Int) : kpos L k ≤ L.length := List.countP_le_length
theorem kpos_none (k : Int) (L : List (Int × Int)) (h : ∀ p ∈ L, k ≤ p.1) : kpos L k = 0 := by
  unfold kpos
  rw [List.countP_eq_zero]
  intro p hp
  have := h p hp
  simp; omega
theorem kpos_cons (p : Int × Int) (l : List (Int × Int)) (k : Int) (h : p.1 < k) : kpos (p :: l) k = kpos l k + 1 := by
  unfold kpos
  rw [List.countP_cons, if_pos (by simpa using h)]
theorem khas_cons (p : Int × Int) (l : List (Int × Int)) (k : Int) (h : p.1 < k) : khas (p :: l) k = khas l k := by
  unfold khas
  rw [kpos_cons p l k h]
  simp [ckey]
theorem kadd_has (k n : Int) : ∀ L, KRise L → khas L k = true → kadd L k n = L.set (kpos L k) (k, cnum L (kpos L k) + n)
  | [], _, h => by simp [khas] at h
  | p :: l, hr, h => by
    have h' := List.pairwise_cons.1 hr
    by_cases h1 : p.1 < k
    · rw [khas_cons p l k h1] at h
      have ih := kadd_has k n l h'.2 h
      rw [kpos_cons p l k h1]
      simp only [kadd]
      rw [if_neg (by omega), if_neg (by omega), ih]
      simp [cnum]
    · have hz : kpos (p :: l) k = 0 := kpos_none k _ (fun q hq => by
        rcases List.mem_cons.1 hq with rfl | hq
        · omega
        · have := h'.1 q hq; omega)
      unfold khas at h
      rw [hz] at h ⊢
      simp [ckey] at h
      simp only [kadd]
      rw [if_neg (by omega), if_pos h.symm]
      simp [cnum, h]
theorem kadd_not (k n : Int) : ∀ L, KRise L → khas L k = false → kadd L k n = L.take (kpos L k) ++ (k, n) :: L.drop (kpos L k)
  | [], _, h => by simp [kadd]
  | p :: l, hr, h => by
    have h' := List.pairwise_cons.1 hr
    by_cases h1 : p.1 < k
    · rw [khas_cons p l k h1] at h
      have ih := kadd_not k n l h'.2 h
      rw [kpos_cons p l k h1]
      simp only [kadd]
      rw [if_neg (by omega), if_neg (by omega), ih]
      simp
    · have hz : kpos (p :: l) k = 0 := kpos_none k _ (fun q hq => by
        rcases List.mem_cons.1 hq with rfl | hq
        · omega
        · have := h'.1 q hq; omega)
      unfold khas at h
      rw [hz] at h ⊢
      simp [ckey] at h
      simp only [kadd]
      rw [if_pos (by omega)]
      simp
theorem krise_zero (p : Int × Int) (l : List (Int × Int)) (h : KRise (p :: l)) : ∀ z, z ≤ p.1 → occ l z = 0 := by
  intro z hz
  have h' := (List.pairwise_cons.1 h).1
  have : ∀ m : List (Int × Int), (∀ q ∈ m, p.1 < q.1) → occ m z = 0 := by
    intro m
    induction m with
    | nil => intro _; rfl
    | cons q m ih =>
      intro hm
      have := hm q (by simp)
      simp only [occ]
      rw [if_neg (by omega), ih (fun r hr => hm r (by simp [hr]))]; rfl
  exact this l h'
/-- What is asked of a key. -/
theorem ask_occ (k : Int) : ∀ L, KRise L → (if khas L k = true then cnum L (kpos L k) else 0) = occ L k
  | [], _ => by simp [khas, occ]
  | p :: l, hr => by
    have h' := List.pairwise_cons.1 hr
    by_cases h1 : p.1 < k
    · rw [khas_cons p l k h1, kpos_cons p l k h1]
      have ih := ask_occ k l h'.2
      simp only [occ]
      rw [if_neg (show ¬ k = p.1 by omega), ← ih]
      simp [cnum]
    · have hz : kpos (p :: l) k = 0 := kpos_none k _ (fun q hq => by
        rcases List.mem_cons.1 hq with rfl | hq
        · omega
        · have := h'.1 q hq; omega)
      unfold khas
      rw [hz]
      simp only [occ]
      rw [krise_zero p l hr k (by omega)]
      by_cases e : k = p.1
      · subst e; simp [ckey, cnum]
      · have e2 : ¬ p.1 = k := fun h => e h.symm
        simp [ckey, e, e2]
/-- Each with so much less; those that have no more are out. -/
def kless (d : Int) : List (Int × Int) → List (Int × Int)
  | [] => []
  | p :: l => if d < p.2 then (p.1, p.2 - d) :: kless d l else kless d l
theorem kless_append (d : Int) (m : List (Int × Int)) : ∀ L, kless d (L ++ m) = kless d L ++ kless d m
  | [] => rfl
  | p :: l => by
    have ih := kless_append d m l
    simp only [kless, List.cons_append]
    split
    · rw [ih]; rfl
    · exact ih
theorem kless_mem (d : Int) : ∀ L, ∀ p ∈ kless d L, ∃ q ∈ L, q.1 = p.1 ∧ p.2 = q.2 - d ∧ d < q.2
  | [], p, h => by simp [kless] at h
  | q :: l, p, h => by
    simp only [kless] at h
    split at h
    · rcases List.mem_cons.1 h with rfl | h
      · exact ⟨q, by simp, rfl, rfl, by assumption⟩
      · obtain ⟨r, hr, e⟩ := kless_mem d l p h
        exact ⟨r, by simp [hr], e⟩
    · obtain ⟨r, hr, e⟩ := kless_mem d l p h
      exact ⟨r, by simp [hr], e⟩
theorem kless_rise (d : Int) : ∀ L, KRise L → KRise (kless d L)
  | [], h => h
  | p :: l, h => by
    have h' := List.pairwise_cons.1 h
    have ih := kless_rise d l h'.2
    simp only [kless]
    split
    · refine List.pairwise_cons.2 ⟨fun z hz => ?_, ih⟩
      obtain ⟨q, hq, e, _⟩ := kless_mem d l z hz
      have := h'.1 q hq
      show p.1 < z.1; omega
    · exact ih
theorem kless_len (d : Int) : ∀ L, (kless d L).length = L.countP (fun p => decide (d < p.2))
  | [] => rfl
  | p :: l => by
    have ih := kless_len d l
    simp only [kless]
    rw [List.countP_cons]
    split
    · rename_i h; rw [if_pos (by simpa using h), List.length_cons, ih]
    · rename_i h; rw [if_neg (by simpa using h), ih]; rfl
theorem kless_occ (d z : Int) (hd : 0 ≤ d) : ∀ L, KRise L → (∀ p ∈ L, 1 ≤ p.2) → occ (kless d L) z ≤ occ L z ∧ occ L z ≤ occ (kless d L) z + d
  | [], _, _ => by simp [kless, occ]; exact hd
  | p :: l, h, hp => by
    have h' := List.pairwise_cons.1 h
    have ih := kless_occ d z hd l h'.2 (fun q hq => hp q (by simp [hq]))
    have h1 := hp p (by simp)
    have z0 := krise_zero p l h z
    simp only [kless]
    by_cases e : z = p.1
    · have z1 := z0 (by omega)
      rw [z1] at ih
      have ob := occ_bd z (kless d l) (fun q hq => by obtain ⟨r, _, _, e2, e3⟩ := kless_mem d l q hq; omega)
      split
      · simp only [occ]; rw [if_pos e, if_pos e, z1]; omega
      · simp only [occ]; rw [if_pos e, z1]; omega
    · split
      · simp only [occ]; rw [if_neg e, if_neg e]; omega
      · simp only [occ]; rw [if_neg e]; omega
/-- How much is lost. -/
def kmin (d : Int) : List (Int × Int) → Int
  | [] => 0
  | p :: l => min p.2 d + kmin d l
theorem kless_csum (d : Int) : ∀ L, csum (kless d L) + kmin d L = csum L
  | [] => rfl
  | p :: l => by
    have ih := kless_csum d l
    simp only [kless, kmin]
    split
    · simp only [csum]; omega
    · simp only [csum]; omega
theorem kmin_all (d : Int) : ∀ L : List (Int × Int), (∀ p ∈ L, d ≤ p.2) → kmin d L = d * L.length
  | [], _ => by simp [kmin]
  | p :: l, h => by
    have ih := kmin_all d l (fun q hq => h q (by simp [hq]))
    have := h p (by simp)
    simp only [kmin, List.length_cons]
    rw [ih, show d * ((l.length + 1 : Nat) : Int) = d * (l.length : Int) + d by rw [Int.natCast_add, Int.mul_add]; simp]
    omega
theorem kmin_ge (d : Int) (hd : 0 ≤ d) : ∀ L : List (Int × Int), (∀ p ∈ L, 0 ≤ p.2) → d * (L.countP (fun p => decide (d ≤ p.2)) : Nat) ≤ kmin d L
  | [], _ => by simp [kmin]
  | p :: l, h => by
    have ih := kmin_ge d hd l (fun q hq => h q (by simp [hq]))
    have := h p (by simp)
    simp only [kmin]
    rw [List.countP_cons]
    by_cases e : d ≤ p.2
    · rw [if_pos (by simpa using e), Int.natCast_add, Int.mul_add]
      simp only [Int.natCast_one, Int.mul_one]; omega
    · rw [if_neg (by simpa using e)]; simp only [Nat.add_zero]; omega
/-- The least number of counters. -/
def kmn : List (Int × Int) → Int
  | [] => 0
  | [p] => p.2
  | p :: q :: l => min p.2 (kmn (q :: l))
theorem kmn_le : ∀ L : List (Int × Int), ∀ p ∈ L, kmn L ≤ p.2
  | [], p, h => by simp at h
  | [q], p, h => by simp at h; rw [h]; exact Int.le_refl _
  | q :: r :: l, p, h => by
    have ih := kmn_le (r :: l) p
    simp only [kmn]
    rcases List.mem_cons.1 h with rfl | h
    · omega
    · have := ih h; omega
theorem kmn_mem : ∀ L : List (Int × Int), 0 < L.length → ∃ p ∈ L, p.2 = kmn L
  | [], h => by simp at h
  | [q], _ => ⟨q, by simp, rfl⟩
  | q :: r :: l, _ => by
    obtain ⟨p, hp, e⟩ := kmn_mem (r :: l) (by simp)
    simp only [kmn]
    by_cases h : q.2 ≤ kmn (r :: l)
    · exact ⟨q, by simp, by omega⟩
    · exact ⟨p, by simp [hp], by omega⟩
theorem kmn_eq (L : List (Int × Int)) (d : Int) (h1 : ∀ p ∈ L, d ≤ p.2) (h2 : ∃ p ∈ L, p.2 = d) : d = kmn L := by
  obtain ⟨p, hp, e⟩ := h2
  have a := kmn_le L p hp
  obtain ⟨q, hq, e2⟩ := kmn_mem L (List.length_pos_of_mem hp)
  have b := h1 q hq
  omega
/-- One to a few of K. -/
def fput (K : Nat) (s : Int × List (Int × Int)) (k n : Int) : Int × List (Int × Int) :=
  if K < (kadd s.2 k n).length then (s.1 + kmn (kadd s.2 k n), kless (kmn (kadd s.2 k n)) (kadd s.2 k n)) else (s.1, kadd s.2 k n)
/-- A few that may be. -/
structure FewOk (K : Nat) (s : Int × List (Int × Int)) : Prop where
  k1 : 1 ≤ K
  k2 : K ≤ 16
  l0 : 0 ≤ s.1
  l1 : s.1 ≤ 1000000000000
  ln : s.2.length ≤ K
  ris : KRise s.2
  pos : ∀ p ∈ s.2, 1 ≤ p.2
  big : ∀ p ∈ s.2, p.2 ≤ 1000000000000
theorem countP_lt (d : Int) : ∀ (L : List (Int × Int)), (∃ p ∈ L, p.2 = d) → L.countP (fun p => decide (d < p.2)) < L.length
  | [], h => by obtain ⟨p, h, _⟩ := h; simp at h
  | q :: l, h => by
    rw [List.countP_cons, List.length_cons]
    have hl : l.countP (fun p => decide (d < p.2)) ≤ l.length := List.countP_le_length
    obtain ⟨p, hp, e⟩ := h
    rcases List.mem_cons.1 hp with rfl | hp
    · rw [if_neg (by simp; omega)]; omega
    · have := countP_lt d l ⟨p, hp, e⟩
      split <;> omega
theorem fput_len (K : Nat) (s : Int × List (Int × Int)) (k n : Int) (h : s.2.length ≤ K) : (fput K s k n).2.length ≤ K := by
  have hl := kadd_len k n s.2
  unfold fput
  split
  · show (kless _ _).length ≤ K
    rw [kless_len]
    have := countP_lt _ _ (kmn_mem (kadd s.2 k n) (by omega))
    omega
  · show (kadd s.2 k n).length ≤ K; omega
theorem fput_rise (K : Nat) (s : Int × List (Int × Int)) (k n : Int) (h : KRise s.2) : KRise (fput K s k n).2 := by
  unfold fput
  split
  · exact kless_rise _ _ (kadd_rise k n _ h)
  · exact kadd_rise k n _ h
theorem kmn_pos (L : List (Int × Int)) (h : ∀ p ∈ L, 1 ≤ p.2) (hl : 0 < L.length) : 1 ≤ kmn L := by
  obtain ⟨p, hp, e⟩ := kmn_mem L hl
  have := h p hp
  omega
theorem fput_pos (K : Nat) (s : Int × List (Int × Int)) (k n : Int) (hn : 1 ≤ n) (h : ∀ p ∈ s.2, 1 ≤ p.2) : ∀ p ∈ (fput K s k n).2, 1 ≤ p.2 := by
  unfold fput
  split
  · intro p hp
    obtain ⟨q, _, _, e2, e3⟩ := kless_mem _ _ p hp
    omega
  · exact kadd_pos k n hn _ h
theorem fput_lost (K : Nat) (s : Int × List (Int × Int)) (k n : Int) (hn : 1 ≤ n) (h : ∀ p ∈ s.2, 1 ≤ p.2) : s.1 ≤ (fput K s k n).1 := by
  unfold fput
  split
  · have := kmn_pos _ (kadd_pos k n hn _ h) (kadd_len k n s.2).2.2
    show s.1 ≤ s.1 + _; omega
  · exact Int.le_refl _
/-- All together stays: what is lost, of K and one, and what stands. -/
theorem fput_all (K : Nat) (s : Int × List (Int × Int)) (k n : Int) (hl : s.2.length ≤ K) : (fput K s k n).1 * ((K : Int) + 1) + csum (fput K s k n).2 = s.1 * ((K : Int) + 1) + csum s.2 + n := by
  have h1 := kadd_len k n s.2
  have h2 := kadd_csum k n s.2
  unfold fput
  split
  · show (s.1 + _) * ((K : Int) + 1) + csum (kless _ _) = _
    have h3 := kless_csum (kmn (kadd s.2 k n)) (kadd s.2 k n)
    rw [kmin_all _ _ (kmn_le _), show (kadd s.2 k n).length = K + 1 by omega] at h3
    rw [Int.add_mul]
    rw [show (((K + 1 : Nat) : Int)) = (K : Int) + 1 by push_cast; rfl] at h3
    omega
  · show s.1 * _ + csum (kadd _ _ _) = _; omega
theorem fput_near (K : Nat) (s : Int × List (Int × Int)) (k n z : Int) (hn : 1 ≤ n) (hr : KRise s.2) (hp : ∀ p ∈ s.2, 1 ≤ p.2) :
    occ (fput K s k n).2 z ≤ occ s.2 z + (if z = k then n else 0) ∧ occ s.2 z + (if z = k then n else 0) + s.1 ≤ occ (fput K s k n).2 z + (fput K s k n).1 := by
  have h1 := kadd_occ k n z s.2
  unfold fput
  split
  · show occ (kless _ _) z ≤ _ ∧ _ ≤ occ (kless _ _) z + (s.1 + _)
    have h2 := kmn_pos _ (kadd_pos k n hn _ hp) (kadd_len k n s.2).2.2
    have h3 := kless_occ (kmn (kadd s.2 k n)) z (by omega) _ (kadd_rise k n _ hr) (kadd_pos k n hn _ hp)
    omega
  · show occ (kadd _ _ _) z ≤ _ ∧ _ ≤ occ (kadd _ _ _) z + s.1; omega
/-- All that came, to a few of K. -/
def fewL (K : Nat) : List (Int × Int) → Int × List (Int × Int)
  | D => D.foldl (fun s p => fput K s p.1 p.2) (0, [])
theorem fewL_nil (K : Nat) : fewL K [] = (0, []) := rfl
theorem fewL_snoc (K : Nat) (D : List (Int × Int)) (k n : Int) : fewL K (D ++ [(k, n)]) = fput K (fewL K D) k n := by unfold fewL; rw [List.foldl_append]; rfl
structure FewIs (K : Nat) (D : List (Int × Int)) (s : Int × List (Int × Int)) : Prop where
  l0 : 0 ≤ s.1
  ln : s.2.length ≤ K
  ris : KRise s.2
  pos : ∀ p ∈ s.2, 1 ≤ p.2
  all : s.1 * ((K : Int) + 1) + csum s.2 ≤ csum D
  near : ∀ z, occ s.2 z ≤ occ D z ∧ occ D z ≤ occ s.2 z + s.1
theorem snoc_ind {α : Type} {P : List α → Prop} (h0 : P []) (h1 : ∀ l a, P l → P (l ++ [a])) : ∀ l, P l := by
  intro l
  have : ∀ n, ∀ l : List α, l.length = n → P l := by
    intro n
    induction n with
    | zero => intro l hl; rw [List.eq_nil_of_length_eq_zero hl]; exact h0
    | succ n ih =>
      intro l hl
      have hne : l ≠ [] := fun e => by rw [e] at hl; simp at hl
      rw [← List.dropLast_concat_getLast hne]
      exact h1 _ _ (ih _ (by rw [List.length_dropLast]; omega))
  exact this l.length l rfl
theorem fewL_is (K : Nat) (D : List (Int × Int)) (hD : ∀ p ∈ D, 1 ≤ p.2) : FewIs K D (fewL K D) := by
  induction D using snoc_ind with
  | h0 => exact ⟨by simp [fewL], by simp [fewL], by simp [fewL, KRise], by simp [fewL], by simp [fewL, csum], fun z => by simp [fewL, occ]⟩
  | h1 D p ih =>
    obtain ⟨k, n⟩ := p
    have ih := ih (fun q hq => hD q (by simp [hq]))
    have hn : 1 ≤ n := hD (k, n) (by simp)
    rw [fewL_snoc]
    have a := fput_all K (fewL K D) k n ih.ln
    have b := ih.all
    refine ⟨Int.le_trans ih.l0 (fput_lost K _ k n hn ih.pos), fput_len K _ k n ih.ln, fput_rise K _ k n ih.ris, fput_pos K _ k n hn ih.pos, by rw [csum_snoc]; omega, fun z => ?_⟩
    have c := fput_near K (fewL K D) k n z hn ih.ris ih.pos
    have d := ih.near z
    rw [occ_append]
    simp only [occ]
    omega
theorem mem_csum : ∀ (L : List (Int × Int)), (∀ p ∈ L, 0 ≤ p.2) → ∀ p ∈ L, p.2 ≤ csum L
  | [], _, p, h => by simp at h
  | q :: l, h, p, hp => by
    have h1 := h q (by simp)
    have h2 := csum_take l (fun r hr => h r (by simp [hr])) 0
    have h3 := csum_take l (fun r hr => h r (by simp [hr])) l.length
    rw [List.take_length] at h3
    simp only [csum]
    rcases List.mem_cons.1 hp with rfl | hp
    · omega
    · have := mem_csum l (fun r hr => h r (by simp [hr])) p hp; omega
theorem csum_nn (L : List (Int × Int)) (h : ∀ p ∈ L, 0 ≤ p.2) : 0 ≤ csum L := by
  have := csum_take L h L.length
  rw [List.take_length] at this; exact this.2
theorem FewIs.lost {K : Nat} {D : List (Int × Int)} {s : Int × List (Int × Int)} (h : FewIs K D s) : s.1 ≤ csum D := by
  have a := h.all
  have b := csum_nn s.2 (fun p hp => by have := h.pos p hp; omega)
  have c := h.l0
  have : s.1 * 1 ≤ s.1 * ((K : Int) + 1) := Int.mul_le_mul_of_nonneg_left (by omega) c
  omega
theorem FewIs.ok {K : Nat} {D : List (Int × Int)} {s : Int × List (Int × Int)} (h : FewIs K D s) (k1 : 1 ≤ K) (k2 : K ≤ 16) (hs : csum D ≤ 1000000000000) : FewOk K s :=
  ⟨k1, k2, h.l0, by have := h.lost; omega, h.ln, h.ris, h.pos, fun p hp => by
    have a := mem_csum s.2 (fun p hp => by have := h.pos p hp; omega) p hp
    have b := h.all
    have c := h.l0
    have : 0 ≤ s.1 * ((K : Int) + 1) := Int.mul_nonneg c (by omega)
    omega⟩
/-- Of a few of counters, the keys stood before, or came. -/
theorem fput_key (K : Nat) (s : Int × List (Int × Int)) (k n : Int) : ∀ p ∈ (fput K s k n).2, p.1 = k ∨ ∃ q ∈ s.2, q.1 = p.1 := by
  unfold fput
  split
  · intro p hp
    obtain ⟨q, hq, e, _⟩ := kless_mem _ _ p hp
    rw [← e]
    exact kadd_key k n s.2 q hq
  · exact kadd_key k n s.2
theorem fewL_key (K : Nat) (D : List (Int × Int)) : ∀ p ∈ (fewL K D).2, ∃ q ∈ D, q.1 = p.1 := by
  induction D using snoc_ind with
  | h0 => intro p hp; simp [fewL] at hp
  | h1 D p ih =>
    obtain ⟨k, n⟩ := p
    rw [fewL_snoc]
    intro p hp
    rcases fput_key K (fewL K D) k n p hp with e | ⟨q, hq, e⟩
    · exact ⟨(k, n), by simp, e.symm⟩
    · obtain ⟨r, hr, e2⟩ := ih q hq
      exact ⟨r, by simp [hr], by rw [e2, e]⟩
/-- Rising keys below a bound are no more than there are. -/
theorem krise_len : ∀ (L : List (Int × Int)) (lo : Int) (n : Nat), KRise L → (∀ p ∈ L, lo ≤ p.1 ∧ p.1 < lo + n) → L.length ≤ n
  | [], _, _, _, _ => by simp
  | p :: l, lo, n, h, hb => by
    have h' := List.pairwise_cons.1 h
    have hp := hb p (by simp)
    have hn : 1 ≤ n := by omega
    have := krise_len l (lo + 1) (n - 1) h'.2 (fun q hq => by
      have a := h'.1 q hq
      have b := hb q (by simp [hq])
      have e : ((n - 1 : Nat) : Int) = (n : Int) - 1 := by omega
      rw [e]; omega)
    simp only [List.length_cons]; omega
/-- As long as there is room for all keys nothing is lost. -/
theorem few_exact (K : Nat) (D : List (Int × Int)) (hD : ∀ p ∈ D, 0 ≤ p.1 ∧ p.1 < K) (hn : ∀ p ∈ D, 1 ≤ p.2) : (fewL K D).1 = 0 := by
  induction D using snoc_ind with
  | h0 => rfl
  | h1 D p ih =>
    obtain ⟨k, n⟩ := p
    have ih := ih (fun q hq => hD q (by simp [hq])) (fun q hq => hn q (by simp [hq]))
    have hI := fewL_is K D (fun q hq => hn q (by simp [hq]))
    rw [fewL_snoc]
    have hl : (kadd (fewL K D).2 k n).length ≤ K := by
      refine krise_len _ 0 K (kadd_rise k n _ hI.ris) (fun p hp => ?_)
      rcases kadd_key k n _ p hp with e | ⟨q, hq, e⟩
      · have := hD (k, n) (by simp)
        rw [e]; simpa using this
      · obtain ⟨r, hr, e2⟩ := fewL_key K D q hq
        have := hD r (by simp [hr])
        rw [← e, ← e2]; simpa using this
    unfold fput
    rw [if_neg (by omega)]
    exact ih
end Go.Proofs.Ytffocoflmbhknaa
