/- Orders and ranks are each other's inverse, and ranks are in the order of their orders (plain Lean). -/
import Derived.Test.YtpdigiefldnpaaaPermMath
namespace Go.Proofs.Ytpdigiefldnpaaa

/-- How many are less. -/
def ltc (a : Int) (l : List Int) : Nat := (l.filter (fun x => decide (x < a))).length
theorem ltc_perm (a : Int) {l m : List Int} (h : l.Perm m) : ltc a l = ltc a m := (h.filter _).length_eq
theorem ltc_cons (a x : Int) (l : List Int) : ltc a (x :: l) = (if x < a then 1 else 0) + ltc a l := by
  unfold ltc
  by_cases h : x < a
  · simp [h]; omega
  · simp [h]
/-- The rank of an order, as a sum. -/
def rkL : List Int → Nat
  | [] => 0
  | a :: t => ltc a t * fct t.length + rkL t
theorem ltc_le (a : Int) (l : List Int) : ltc a l ≤ l.length := List.length_filter_le _ _
theorem rkL_lt : ∀ l, rkL l < fct l.length
  | [] => by simp [rkL, fct]
  | a :: t => by
    have ih := rkL_lt t
    have h : ltc a t * fct t.length ≤ t.length * fct t.length := Nat.mul_le_mul_right _ (ltc_le a t)
    simp only [rkL, List.length_cons, fct]
    rw [Nat.add_mul]
    omega
/-- In a rising row just those ahead are less. -/
theorem ltc_sorted : ∀ (l : List Int) (q : Nat) (hq : q < l.length), l.Pairwise (· < ·) → ltc (l[q]) (l.eraseIdx q) = q
  | [], q, h, _ => by simp at h
  | a :: l, 0, _, hp => by
    have h := (List.pairwise_cons.1 hp).1
    show ltc a l = 0
    unfold ltc
    rw [List.filter_eq_nil_iff.2 (fun x hx => by have := h x hx; simp; omega)]
    rfl
  | a :: l, q + 1, hq, hp => by
    obtain ⟨h1, h2⟩ := List.pairwise_cons.1 hp
    have ih := ltc_sorted l q (by simpa using hq) h2
    show ltc (l[q]'(by simpa using hq)) (a :: l.eraseIdx q) = q + 1
    rw [ltc_cons, ih, if_pos (h1 _ (List.getElem_mem _))]
    omega
theorem gi_at (l : List Int) (q : Nat) (h : q < l.length) : gi l q = l[q] := by
  unfold gi; rw [List.getD_eq_getElem?_getD, List.getElem?_eq_getElem h]; rfl
/-- The rank of a rank's order is the rank. -/
theorem rk_ord : ∀ i r left, left.length = i → left.Pairwise (· < ·) → r < fct i → rkL (ordL i r left) = r
  | 0, r, _, _, _, hr => by simp [fct] at hr; simp [ordL, rkL, hr]
  | i + 1, r, left, hl, hs, hr => by
    have hq := quo_lt i r hr
    have hel : (left.eraseIdx (r / fct i)).length = i := by rw [List.length_eraseIdx, if_pos (by omega)]; omega
    have hs2 : (left.eraseIdx (r / fct i)).Pairwise (· < ·) := hs.sublist (List.eraseIdx_sublist _ _)
    have ih := rk_ord i (r % fct i) (left.eraseIdx (r / fct i)) hel hs2 (rem_lt i r)
    have hp := ordL_perm i (r % fct i) (left.eraseIdx (r / fct i)) hel (rem_lt i r)
    simp only [ordL, rkL]
    rw [ih, ordL_len, ltc_perm _ hp, gi_at left _ (by omega), ltc_sorted left _ (by omega) hs]
    exact Nat.div_add_mod' r (fct i)
/-- The order of an order's rank is the order. -/
theorem ord_rk : ∀ (l left : List Int), left.Pairwise (· < ·) → l.Perm left → ordL l.length (rkL l) left = l
  | [], _, _, _ => rfl
  | a :: t, left, hs, hp => by
    have ha : a ∈ left := hp.mem_iff.1 (by simp)
    obtain ⟨j, hj, hja⟩ := List.getElem_of_mem ha
    have hpt : t.Perm (left.eraseIdx j) := by
      have h1 := cons_erase_perm left j hj
      rw [hja] at h1
      exact List.Perm.cons_inv (hp.trans h1.symm)
    have hq : ltc a t = j := by
      rw [ltc_perm a hpt, ← hja]
      exact ltc_sorted left j hj hs
    have hlt := rkL_lt t
    have hs2 : (left.eraseIdx j).Pairwise (· < ·) := hs.sublist (List.eraseIdx_sublist _ _)
    have ih := ord_rk t (left.eraseIdx j) hs2 hpt
    have hd : (j * fct t.length + rkL t) / fct t.length = j := by
      rw [Nat.add_comm, Nat.add_mul_div_right _ _ (fct_pos _), Nat.div_eq_of_lt hlt]; omega
    have hm : (j * fct t.length + rkL t) % fct t.length = rkL t := by
      rw [Nat.add_comm, Nat.add_mul_mod_self_right, Nat.mod_eq_of_lt hlt]
    simp only [List.length_cons, ordL, rkL]
    rw [hq, hd, hm, ih, gi_at left j hj, hja]
theorem ltc_less (a : Int) (xs : List Int) (k : Nat) (ha : gi xs k = a) : ∀ (t : List Int) (m0 : Nat), xs.drop (k + 1 + m0) = t → lessM xs k (m0 + t.length) = lessM xs k m0 + ltc a t
  | [], m0, _ => by simp [ltc]
  | x :: t, m0, h => by
    have hx : gi xs (k + 1 + m0) = x := by
      unfold gi
      have := List.getElem?_drop (xs := xs) (i := k + 1 + m0) (j := 0)
      rw [h] at this
      simp at this
      rw [List.getD_eq_getElem?_getD, ← this]; rfl
    have ht : xs.drop (k + 1 + (m0 + 1)) = t := by
      have := congrArg (List.drop 1) h
      rw [List.drop_drop] at this
      simpa [Nat.add_assoc] using this
    have ih := ltc_less a xs k ha t (m0 + 1) ht
    rw [List.length_cons, show m0 + (t.length + 1) = m0 + 1 + t.length by omega, ih, ltc_cons]
    simp only [lessM]
    rw [hx, ha]
    omega
/-- What the program reckons is the sum. -/
theorem rkD_rkL (xs : List Int) (n : Nat) (hl : xs.length = n) : ∀ k, k ≤ n → rkD xs n k * fct (n - k) + rkL (xs.drop k) = rkL xs
  | 0, _ => by simp [rkD]
  | k + 1, hk => by
    have ih := rkD_rkL xs n hl k (by omega)
    obtain ⟨m, hm⟩ : ∃ m, n - k = m + 1 := ⟨n - k - 1, by omega⟩
    have hd : xs.drop k = gi xs k :: xs.drop (k + 1) := by
      rw [List.drop_eq_getElem_cons (by omega), gi_at xs k (by omega)]
    have hlen : (xs.drop (k + 1)).length = m := by rw [List.length_drop]; omega
    have hless := ltc_less (gi xs k) xs k rfl (xs.drop (k + 1)) 0 rfl
    rw [hlen] at hless
    simp only [lessM, Nat.zero_add] at hless
    rw [hd] at ih
    simp only [rkL] at ih
    rw [hlen, hm] at ih
    simp only [fct] at ih
    simp only [rkD]
    rw [show n - (k + 1) = m by omega, show n - 1 - k = m by omega, hm, hless, Nat.add_mul, Nat.mul_assoc]
    omega
theorem rkD_all (xs : List Int) (n : Nat) (hl : xs.length = n) : rkD xs n n = rkL xs := by
  have := rkD_rkL xs n hl n (Nat.le_refl _)
  rw [Nat.sub_self, List.drop_of_length_le (by omega)] at this
  simpa [fct, rkL] using this
theorem idn_sorted (n : Nat) : (idn n).Pairwise (· < ·) := by
  unfold idn tab
  rw [List.pairwise_map]
  exact (List.pairwise_lt_range).imp (fun h => by omega)
theorem rank_order (n r : Nat) (hr : r < fct n) : rkD (ordL n r (idn n)) n n = r := by
  rw [rkD_all _ _ (ordL_len _ _ _)]
  exact rk_ord n r (idn n) (by unfold idn; exact tab_len _ _) (idn_sorted n) hr
theorem perm_sub : ∀ (xs ys : List Int), xs.Nodup → (∀ x ∈ xs, x ∈ ys) → xs.length = ys.length → xs.Perm ys
  | [], ys, _, _, h => by
    have : ys = [] := List.eq_nil_of_length_eq_zero (by simpa using h.symm)
    subst this; exact List.Perm.refl _
  | a :: t, ys, hnd, hs, hl => by
    obtain ⟨h1, h2⟩ := List.nodup_cons.1 hnd
    obtain ⟨j, hj, hja⟩ := List.getElem_of_mem (hs a (by simp))
    have hp := cons_erase_perm ys j hj
    rw [hja] at hp
    have ht : t.Perm (ys.eraseIdx j) := perm_sub t _ h2 (fun x hx => by
      have := hp.mem_iff.2 (hs x (by simp [hx]))
      rcases List.mem_cons.1 this with rfl | h
      · exact absurd hx h1
      · exact h) (by rw [List.length_eraseIdx, if_pos hj]; simp at hl; omega)
    exact (List.Perm.cons a ht).trans hp
/-- An order of so many is one of 0 to n - 1. -/
theorem perm_idn (xs : List Int) (n : Nat) (hl : xs.length = n) (h : PermOk xs n) : xs.Perm (idn n) := by
  have hnd : xs.Nodup := by
    rw [List.nodup_iff_pairwise_ne, List.pairwise_iff_getElem]
    intro i j hi hj hij
    have := (h.2 j (by omega)).2.2 i hij
    rwa [gi_at xs i hi, gi_at xs j hj] at this
  have hsub : xs ⊆ idn n := fun x hx => by
    obtain ⟨i, hi, rfl⟩ := List.getElem_of_mem hx
    have := h.2 i (by omega)
    rw [gi_at xs i hi] at this
    unfold idn tab
    exact List.mem_map.2 ⟨xs[i].toNat, List.mem_range.2 (by omega), by omega⟩
  exact perm_sub xs _ hnd hsub (by unfold idn; rw [tab_len, hl])
theorem order_rank (xs : List Int) (n : Nat) (hl : xs.length = n) (h : PermOk xs n) : rkD xs n n < fct n ∧ ordL n (rkD xs n n) (idn n) = xs := by
  rw [rkD_all xs n hl]
  have a := rkL_lt xs
  have b := ord_rk xs (idn n) (idn_sorted n) (perm_idn xs n hl h)
  rw [hl] at a b
  exact ⟨a, b⟩
/-- Which of two rows comes first: -1, 0, 1. -/
def cmpF : List Int → List Int → Int
  | [], _ => 0
  | _, [] => 0
  | a :: x, b :: y => if a < b then -1 else if b < a then 1 else cmpF x y
theorem cmp_lt : ∀ i r s left, left.length = i → left.Pairwise (· < ·) → r < s → s < fct i → cmpF (ordL i r left) (ordL i s left) = -1
  | 0, r, s, _, _, _, h, hs => by simp [fct] at hs; omega
  | i + 1, r, s, left, hl, hp, h, hs => by
    have hq1 := quo_lt i r (by omega)
    have hq2 := quo_lt i s hs
    have hle : r / fct i ≤ s / fct i := Nat.div_le_div_right (by omega)
    simp only [ordL, cmpF]
    rw [gi_at left _ (by omega), gi_at left _ (by omega)]
    rcases Nat.lt_or_eq_of_le hle with hlt | heq
    · rw [if_pos (List.pairwise_iff_getElem.1 hp _ _ (by omega) (by omega) hlt)]
    · have hm : r % fct i < s % fct i := by
        have a := Nat.div_add_mod r (fct i)
        have b := Nat.div_add_mod s (fct i)
        rw [heq] at a
        omega
      have hel : (left.eraseIdx (s / fct i)).length = i := by rw [List.length_eraseIdx, if_pos (by omega)]; omega
      have ih := cmp_lt i (r % fct i) (s % fct i) (left.eraseIdx (s / fct i)) hel (hp.sublist (List.eraseIdx_sublist _ _)) hm (rem_lt i s)
      simp only [heq]
      rw [if_neg (by omega), if_neg (by omega), ih]
theorem cmp_refl : ∀ l, cmpF l l = 0
  | [] => rfl
  | a :: l => by simp only [cmpF]; rw [if_neg (by omega), if_neg (by omega), cmp_refl l]
theorem cmp_anti : ∀ x y : List Int, x.length = y.length → cmpF x y = - cmpF y x
  | [], [], _ => rfl
  | [], _ :: _, h => by simp at h
  | _ :: _, [], h => by simp at h
  | a :: x, b :: y, h => by
    have ih := cmp_anti x y (by simpa using h)
    simp only [cmpF]
    by_cases h1 : a < b
    · rw [if_pos h1, if_neg (by omega), if_pos h1]
    · by_cases h2 : b < a
      · rw [if_neg h1, if_pos h2, if_pos h2]; rfl
      · rw [if_neg h1, if_neg h2, if_neg h2, if_neg h1, ih]
theorem cmp_ranks (n r s : Nat) (hr : r < fct n) (hs : s < fct n) : decide (cmpF (ordL n r (idn n)) (ordL n s (idn n)) < 0) = decide ((r : Int) < (s : Int)) := by
  have hi : (idn n).length = n := by unfold idn; exact tab_len _ _
  rcases Nat.lt_trichotomy r s with h | h | h
  · rw [cmp_lt n r s (idn n) hi (idn_sorted n) h hs, decide_eq_true (by omega), decide_eq_true (by omega)]
  · subst h
    rw [cmp_refl, decide_eq_false (by omega), decide_eq_false (by omega)]
  · rw [cmp_anti _ _ (by rw [ordL_len, ordL_len]), cmp_lt n s r (idn n) hi (idn_sorted n) h hr, decide_eq_false (by omega), decide_eq_false (by omega)]
theorem cmp_bd : ∀ x y, -1 ≤ cmpF x y ∧ cmpF x y ≤ 1
  | [], _ => by simp [cmpF]
  | _ :: _, [] => by simp [cmpF]
  | a :: x, b :: y => by
    have := cmp_bd x y
    simp only [cmpF]
    split
    · omega
    · split <;> omega
end Go.Proofs.Ytpdigiefldnpaaa
