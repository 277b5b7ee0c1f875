/- Tables of counts: plain law. -/
import Derived.Test.YtcbklhicellepaaMem
namespace Go.Proofs.Ytcbklhicellepaa
set_option maxRecDepth 20000
/-- A count that may not be. -/
def cntP (x : Int) : Bool := decide (x < 0) || decide (1000000000000 < x)
theorem cntP_false (x : Int) : cntP x = false ↔ 0 ≤ x ∧ x ≤ 1000000000000 := by
  unfold cntP
  rw [Bool.or_eq_false_iff, decide_eq_false_iff_not, decide_eq_false_iff_not]
  omega
theorem cntP_true (x : Int) : cntP x = true ↔ x < 0 ∨ 1000000000000 < x := by
  unfold cntP
  rw [Bool.or_eq_true, decide_eq_true_eq, decide_eq_true_eq]
/-- The error of a row. -/
def rowE (wd : Int) (r : List Int) : Int := if (r.length : Int) = wd then (if r.any cntP = true then 1 else 0) else 7
/-- The error of the rows. -/
def tabE (wd : Int) : List (List Int) → Int
  | [] => 0
  | r :: l => if rowE wd r = 0 then tabE wd l else rowE wd r
/-- The error that a table's Check gives. -/
def tchk (wd : Int) (n : Nat) (xs : List (List Int)) : Int := if wd < 1 then 1 else if 32 < wd then 1 else if n < 1 then 1 else if 4 < n then 1 else tabE wd xs
theorem rowE_zero (wd : Int) (r : List Int) : rowE wd r = 0 ↔ (r.length : Int) = wd ∧ ∀ x ∈ r, 0 ≤ x ∧ x ≤ 1000000000000 := by
  unfold rowE
  constructor
  · intro h
    split at h
    · rename_i hl
      split at h
      · omega
      · rename_i ha
        refine ⟨hl, fun x hx => (cntP_false x).1 ?_⟩
        cases hc : cntP x with
        | false => rfl
        | true => exact absurd (List.any_eq_true.2 ⟨x, hx, hc⟩) ha
    · omega
  · rintro ⟨h1, h2⟩
    rw [if_pos h1, if_neg]
    intro h
    obtain ⟨x, hx, hc⟩ := List.any_eq_true.1 h
    rw [(cntP_false x).2 (h2 x hx)] at hc
    cases hc
theorem tabE_zero (wd : Int) : ∀ xs : List (List Int), tabE wd xs = 0 ↔ ∀ r ∈ xs, rowE wd r = 0
  | [] => by simp [tabE]
  | r :: l => by
    unfold tabE
    have ih := tabE_zero wd l
    constructor
    · intro h
      by_cases e : rowE wd r = 0
      · rw [if_pos e] at h
        intro q hq
        rcases List.mem_cons.1 hq with rfl | hq
        · exact e
        · exact ih.1 h q hq
      · rw [if_neg e] at h; exact absurd h e
    · intro h
      rw [if_pos (h r (by simp))]
      exact ih.2 (fun q hq => h q (by simp [hq]))
theorem rowE_bd (wd : Int) (r : List Int) : 0 ≤ rowE wd r ∧ rowE wd r ≤ 7 := by unfold rowE; repeat' split <;> omega
theorem tabE_bd (wd : Int) : ∀ xs : List (List Int), 0 ≤ tabE wd xs ∧ tabE wd xs ≤ 7
  | [] => by simp [tabE]
  | r :: l => by
    unfold tabE
    have := tabE_bd wd l
    have := rowE_bd wd r
    split <;> omega
theorem tchk_bd (wd : Int) (n : Nat) (xs : List (List Int)) : 0 ≤ tchk wd n xs ∧ tchk wd n xs ≤ 7 := by
  unfold tchk
  have := tabE_bd wd xs
  repeat' split <;> omega
theorem gl_mem {α : Type} (xs : List (List α)) (i : Nat) (h : i < xs.length) : gl xs i ∈ xs := by
  unfold gl
  rw [List.getD_eq_getElem?_getD, List.getElem?_eq_getElem h]
  exact List.getElem_mem h
theorem mem_gl {α : Type} (xs : List (List α)) (r : List α) (h : r ∈ xs) : ∃ i, i < xs.length ∧ gl xs i = r := by
  obtain ⟨i, hi, he⟩ := List.mem_iff_getElem.1 h
  exact ⟨i, hi, by unfold gl; rw [List.getD_eq_getElem?_getD, List.getElem?_eq_getElem hi]; exact he⟩
theorem drop_gl {α : Type} (xs : List (List α)) (k : Nat) (h : k < xs.length) : xs.drop k = gl xs k :: xs.drop (k + 1) := by
  rw [List.drop_eq_getElem_cons h]
  congr 1
  unfold gl
  rw [List.getD_eq_getElem?_getD, List.getElem?_eq_getElem h]; rfl
theorem drop_gi (xs : List Int) (k : Nat) (h : k < xs.length) : xs.drop k = gi xs k :: xs.drop (k + 1) := by
  rw [List.drop_eq_getElem_cons h]
  congr 1
  unfold gi
  rw [List.getD_eq_getElem?_getD, List.getElem?_eq_getElem h]; rfl
/-- A table that may be: n rows of m counts. -/
structure TabOk (m n : Nat) (xs : List (List Int)) : Prop where
  m1 : 1 ≤ m
  m2 : m ≤ 32
  n1 : 1 ≤ n
  n2 : n ≤ 4
  ln : xs.length = n
  row : ∀ i, i < n → (gl xs i).length = m
  cnt : ∀ i, i < n → ∀ x ∈ gl xs i, 0 ≤ x ∧ x ≤ 1000000000000
theorem tchk_zero (wd : Int) (n : Nat) (xs : List (List Int)) (hn : xs.length = n) (h : tchk wd n xs = 0) : ∃ m : Nat, wd = m ∧ TabOk m n xs := by
  unfold tchk at h
  repeat' split at h
  all_goals try omega
  rename_i h1 h2 h3 h4
  have hr := (tabE_zero wd xs).1 h
  refine ⟨wd.toNat, by omega, by omega, by omega, by omega, by omega, hn, fun i hi => ?_, fun i hi => ?_⟩
  · have := ((rowE_zero _ _).1 (hr _ (gl_mem xs i (by omega)))).1
    omega
  · exact ((rowE_zero _ _).1 (hr _ (gl_mem xs i (by omega)))).2
theorem tchk_ok (m n : Nat) (xs : List (List Int)) (h : TabOk m n xs) : tchk m n xs = 0 := by
  obtain ⟨m1, m2, n1, n2, ln, row, cnt⟩ := h
  unfold tchk
  rw [if_neg (by omega), if_neg (by omega), if_neg (by omega), if_neg (by omega)]
  refine (tabE_zero _ _).2 fun r hr => ?_
  obtain ⟨i, hi, rfl⟩ := mem_gl xs r hr
  exact (rowE_zero _ _).2 ⟨by have := row i (by omega); omega, cnt i (by omega)⟩
/-- A table by its cells. -/
def tabL (T : Nat → Nat → Int) (m n : Nat) : List (List Int) := tab (fun i => tab (T i) m) n
theorem tabL_gl (T : Nat → Nat → Int) (m n i : Nat) (h : i < n) : gl (tabL T m n) i = tab (T i) m := by
  unfold gl tabL
  rw [List.getD_eq_getElem?_getD, tab_get _ _ _ h]; rfl
theorem tabL_of (m n : Nat) (xs : List (List Int)) (hn : xs.length = n) (hr : ∀ i, i < n → (gl xs i).length = m) : xs = tabL (fun i j => gi (gl xs i) j) m n := by
  apply List.ext_getElem?
  intro i
  unfold tabL
  by_cases hi : i < n
  · rw [tab_get _ _ _ hi]
    have e : xs[i]? = some (gl xs i) := by
      unfold gl
      rw [List.getD_eq_getElem?_getD, List.getElem?_eq_getElem (by omega)]; rfl
    rw [e]
    congr 1
    apply List.ext_getElem?
    intro j
    by_cases hj : j < m
    · rw [tab_get _ _ _ hj, gi_get _ _ (by have := hr i hi; omega)]
    · rw [List.getElem?_eq_none (by have := hr i hi; omega), List.getElem?_eq_none (by rw [tab_len]; omega)]
  · rw [List.getElem?_eq_none (by omega), List.getElem?_eq_none (by rw [tab_len]; omega)]
theorem tabL_ok (T : Nat → Nat → Int) (m n : Nat) (m1 : 1 ≤ m) (m2 : m ≤ 32) (n1 : 1 ≤ n) (n2 : n ≤ 4) (h : ∀ i j, i < n → j < m → 0 ≤ T i j ∧ T i j ≤ 1000000000000) : TabOk m n (tabL T m n) := by
  refine ⟨m1, m2, n1, n2, by unfold tabL; rw [tab_len], fun i hi => by rw [tabL_gl _ _ _ _ hi, tab_len], fun i hi x hx => ?_⟩
  rw [tabL_gl _ _ _ _ hi] at hx
  obtain ⟨j, hj, rfl⟩ := tab_mem _ _ _ hx
  exact h i j hi hj
theorem TabOk.cell {m n : Nat} {T : Nat → Nat → Int} (h : TabOk m n (tabL T m n)) (i j : Nat) (hi : i < n) (hj : j < m) : 0 ≤ T i j ∧ T i j ≤ 1000000000000 := by
  refine h.cnt i hi _ ?_
  rw [tabL_gl _ _ _ _ hi]
  exact List.mem_of_getElem? (tab_get (T i) m j hj)
/-- What comes of a put. -/
def tput (T : Nat → Nat → Int) (P : Nat → Nat) (x : Int) (i j : Nat) : Int := if j = P i then T i j + x else T i j
/-- The estimate. -/
def tmin (T : Nat → Nat → Int) (P : Nat → Nat) : Nat → Int
  | 0 => 1000000000000
  | k + 1 => min (tmin T P k) (T k (P k))
theorem tmin_mono (T U : Nat → Nat → Int) (P : Nat → Nat) : ∀ k, (∀ i, i < k → T i (P i) ≤ U i (P i)) → tmin T P k ≤ tmin U P k
  | 0, _ => Int.le_refl _
  | k + 1, h => by
    have := tmin_mono T U P k (fun i hi => h i (by omega))
    have := h k (by omega)
    simp only [tmin]
    omega
theorem tmin_le (T : Nat → Nat → Int) (P : Nat → Nat) : ∀ k i, i < k → tmin T P k ≤ T i (P i)
  | 0, i, h => by omega
  | k + 1, i, h => by
    simp only [tmin]
    by_cases e : i = k
    · subst e; omega
    · have := tmin_le T P k i (by omega); omega
theorem tmin_top (T : Nat → Nat → Int) (P : Nat → Nat) : ∀ k, tmin T P k ≤ 1000000000000
  | 0 => Int.le_refl _
  | k + 1 => by have := tmin_top T P k; simp only [tmin]; omega
theorem tmin_ge (T : Nat → Nat → Int) (P : Nat → Nat) (y : Int) (hy : y ≤ 1000000000000) : ∀ k, (∀ i, i < k → y ≤ T i (P i)) → y ≤ tmin T P k
  | 0, _ => hy
  | k + 1, h => by
    have := tmin_ge T P y hy k (fun i hi => h i (by omega))
    have := h k (by omega)
    simp only [tmin]
    omega
theorem tmin_add (T U : Nat → Nat → Int) (P : Nat → Nat) (x : Int) : ∀ k, (∀ i, i < k → U i (P i) = T i (P i) + x ∧ T i (P i) + x ≤ 1000000000000 ∧ T i (P i) ≤ 1000000000000) → 0 < k → tmin U P k = tmin T P k + x
  | 0, _, h => by omega
  | k + 1, h, _ => by
    obtain ⟨h1, h2, h3⟩ := h k (by omega)
    simp only [tmin]
    rcases Nat.eq_zero_or_pos k with e | e
    · subst e
      simp only [tmin]
      omega
    · have := tmin_add T U P x k (fun i hi => h i (by omega)) e
      omega
theorem tmin_shift (T U : Nat → Nat → Int) (P : Nat → Nat) (x : Int) (hx : 0 ≤ x) : ∀ k, (∀ i, i < k → U i (P i) ≤ T i (P i) + x) → tmin U P k ≤ tmin T P k + x
  | 0, _ => by simp only [tmin]; omega
  | k + 1, h => by
    have := tmin_shift T U P x hx k (fun i hi => h i (by omega))
    have := h k (by omega)
    simp only [tmin]
    omega
theorem tmin_bd (T : Nat → Nat → Int) (P : Nat → Nat) (k : Nat) (h : ∀ i, i < k → 0 ≤ T i (P i)) : 0 ≤ tmin T P k ∧ tmin T P k ≤ 1000000000000 := ⟨tmin_ge T P 0 (by omega) k h, tmin_top T P k⟩
end Go.Proofs.Ytcbklhicellepaa
