/- Stable merging by rotations, on functions from places to numbers (plain Lean): what is exchanged, what is rotated, and that a merge sorts. -/
namespace Go.Proofs.YtgodgfnfaiiohaaGreatDoor.Stab
/-- Places a.. and b.., n of each, exchanged. -/
def swr (f : Nat → Int) (a b n : Nat) : Nat → Int := fun i => if a ≤ i ∧ i < a + n then f (i - a + b) else if b ≤ i ∧ i < b + n then f (i - b + a) else f i
theorem swr_zero (f : Nat → Int) (a b : Nat) : swr f a b 0 = f := by
  funext i; unfold swr
  rw [if_neg (by omega), if_neg (by omega)]
theorem swr_step (f : Nat → Int) (a b n : Nat) (h : a + n < b) : (fun i => if i = a + n then swr f a b n (b + n) else if i = b + n then swr f a b n (a + n) else swr f a b n i) = swr f a b (n + 1) := by
  funext i
  unfold swr
  rw [if_neg (show ¬ (a ≤ b + n ∧ b + n < a + n) by omega), if_neg (show ¬ (b ≤ b + n ∧ b + n < b + n) by omega), if_neg (show ¬ (a ≤ a + n ∧ a + n < a + n) by omega), if_neg (show ¬ (b ≤ a + n ∧ a + n < b + n) by omega)]
  by_cases h1 : i = a + n
  · rw [if_pos h1, if_pos (by omega)]
    congr 1; omega
  · rw [if_neg h1]
    by_cases h2 : i = b + n
    · rw [if_pos h2, if_neg (by omega), if_pos (by omega)]
      congr 1; omega
    · rw [if_neg h2]
      by_cases h3 : a ≤ i ∧ i < a + n
      · rw [if_pos h3, if_pos (by omega)]
      · rw [if_neg h3, if_neg (show ¬ (a ≤ i ∧ i < a + (n + 1)) by omega)]
        by_cases h4 : b ≤ i ∧ i < b + n
        · rw [if_pos h4, if_pos (by omega)]
        · rw [if_neg h4, if_neg (by omega)]
/-- The range from a to b, rotated so that what stands at m comes first. -/
def rot (f : Nat → Int) (a m b : Nat) : Nat → Int := fun i => if a ≤ i ∧ i < b then (if i < a + (b - m) then f (i + (m - a)) else f (i - (b - m))) else f i
theorem rot_gt (f : Nat → Int) (m i j : Nat) (hi : i ≤ m) (h : j < i) : rot f (m - i) m (m + j) = rot (swr f (m - i) m j) (m - (i - j)) m (m + j) := by
  funext x
  unfold rot swr
  by_cases h1 : m - i ≤ x ∧ x < m + j
  · rw [if_pos h1]
    by_cases h2 : x < m - i + (m + j - m)
    · rw [if_pos h2, if_neg (show ¬ (m - (i - j) ≤ x ∧ x < m + j) by omega), if_pos (by omega)]
      congr 1; omega
    · rw [if_neg h2, if_pos (show m - (i - j) ≤ x ∧ x < m + j by omega)]
      by_cases h3 : x < m - (i - j) + (m + j - m)
      · rw [if_pos h3]
        by_cases h4 : m ≤ x + (m - (m - (i - j))) 
        · rw [if_neg (by omega), if_pos (by omega)]
          congr 1; omega
        · omega
      · rw [if_neg h3, if_neg (by omega), if_neg (by omega)]
  · rw [if_neg h1, if_neg (by omega), if_neg (by omega), if_neg (by omega)]
theorem rot_lt (f : Nat → Int) (m i j : Nat) (hi : i ≤ m) (h : i < j) : rot f (m - i) m (m + j) = rot (swr f (m - i) (m + j - i) i) (m - i) m (m + (j - i)) := by
  funext x
  unfold rot swr
  by_cases h1 : m - i ≤ x ∧ x < m + j
  · rw [if_pos h1]
    by_cases h2 : x < m + (j - i)
    · rw [if_pos (show m - i ≤ x ∧ x < m + (j - i) by omega)]
      by_cases h3 : x < m - i + (m + j - m)
      · rw [if_pos h3]
        by_cases h4 : x < m - i + (m + (j - i) - m)
        · rw [if_pos h4, if_neg (by omega), if_neg (by omega)]
        · rw [if_neg h4, if_pos (by omega)]
          congr 1; omega
      · omega
    · rw [if_neg (show ¬ (m - i ≤ x ∧ x < m + (j - i)) by omega)]
      rw [if_neg (by omega), if_neg (by omega), if_pos (by omega)]
      congr 1; omega
  · rw [if_neg h1, if_neg (by omega), if_neg (by omega), if_neg (by omega)]
theorem rot_eq (f : Nat → Int) (m i : Nat) (hi : i ≤ m) : rot f (m - i) m (m + i) = swr f (m - i) m i := by
  funext x
  unfold rot swr
  by_cases h1 : m - i ≤ x ∧ x < m + i
  · rw [if_pos h1]
    by_cases h2 : x < m - i + (m + i - m)
    · rw [if_pos h2, if_pos (by omega)]; congr 1; omega
    · rw [if_neg h2, if_neg (by omega), if_pos (by omega)]; congr 1; omega
  · rw [if_neg h1, if_neg (by omega), if_neg (by omega)]
/-- What stands from a to b is a rearrangement of what stood there; elsewhere nothing has changed. -/
def Perm (f g : Nat → Int) (a b : Nat) : Prop := ∃ p : Nat → Nat, (∀ i, a ≤ i → i < b → a ≤ p i ∧ p i < b ∧ g i = f (p i)) ∧ (∀ i j, a ≤ i → i < b → a ≤ j → j < b → p i = p j → i = j) ∧ ∀ i, (i < a ∨ b ≤ i) → g i = f i
theorem Perm.refl (f : Nat → Int) (a b : Nat) : Perm f f a b := ⟨id, fun i h1 h2 => ⟨h1, h2, rfl⟩, fun i j _ _ _ _ h => h, fun i _ => rfl⟩
theorem Perm.trans {f g h : Nat → Int} {a b : Nat} (h1 : Perm f g a b) (h2 : Perm g h a b) : Perm f h a b := by
  obtain ⟨p, p1, p2, p3⟩ := h1
  obtain ⟨q, q1, q2, q3⟩ := h2
  refine ⟨fun i => p (q i), fun i hi hb => ?_, fun i j hi hb hj hb' e => ?_, fun i hi => (q3 i hi).trans (p3 i hi)⟩
  · obtain ⟨a1, a2, a3⟩ := q1 i hi hb
    obtain ⟨b1, b2, b3⟩ := p1 (q i) a1 a2
    exact ⟨b1, b2, a3.trans b3⟩
  · obtain ⟨a1, a2, _⟩ := q1 i hi hb
    obtain ⟨b1, b2, _⟩ := q1 j hj hb'
    exact q2 i j hi hb hj hb' (p2 _ _ a1 a2 b1 b2 e)
theorem Perm.wider {f g : Nat → Int} {a b a' b' : Nat} (h : Perm f g a b) (ha : a' ≤ a) (hb : b ≤ b') : Perm f g a' b' := by
  obtain ⟨p, p1, p2, p3⟩ := h
  refine ⟨fun i => if a ≤ i ∧ i < b then p i else i, fun i hi hb2 => ?_, fun i j hi hb2 hj hb3 e => ?_, fun i hi => p3 i (by omega)⟩
  · by_cases e : a ≤ i ∧ i < b
    · obtain ⟨a1, a2, a3⟩ := p1 i e.1 e.2
      simp only [if_pos e]; exact ⟨by omega, by omega, a3⟩
    · simp only [if_neg e]; exact ⟨hi, hb2, p3 i (by omega)⟩
  · by_cases e1 : a ≤ i ∧ i < b <;> by_cases e2 : a ≤ j ∧ j < b
    · simp only [if_pos e1, if_pos e2] at e; exact p2 i j e1.1 e1.2 e2.1 e2.2 e
    · simp only [if_pos e1, if_neg e2] at e; have := p1 i e1.1 e1.2; omega
    · simp only [if_neg e1, if_pos e2] at e; have := p1 j e2.1 e2.2; omega
    · simp only [if_neg e1, if_neg e2] at e; exact e
theorem Perm.get {f g : Nat → Int} {a b : Nat} (h : Perm f g a b) (i : Nat) (h1 : a ≤ i) (h2 : i < b) : ∃ j, a ≤ j ∧ j < b ∧ g i = f j := by
  obtain ⟨p, p1, _, _⟩ := h
  exact ⟨p i, (p1 i h1 h2).1, (p1 i h1 h2).2.1, (p1 i h1 h2).2.2⟩
theorem Perm.out {f g : Nat → Int} {a b : Nat} (h : Perm f g a b) (i : Nat) (h1 : i < a ∨ b ≤ i) : g i = f i := by
  obtain ⟨_, _, _, p3⟩ := h; exact p3 i h1
theorem rot_perm (f : Nat → Int) (a m b : Nat) (h1 : a ≤ m) (h2 : m ≤ b) : Perm f (rot f a m b) a b := by
  refine ⟨fun i => if i < a + (b - m) then i + (m - a) else i - (b - m), fun i hi hb => ?_, fun i j hi hb hj hb' e => ?_, fun i hi => ?_⟩
  · unfold rot
    rw [if_pos ⟨hi, hb⟩]
    by_cases e : i < a + (b - m)
    · simp only [if_pos e]; exact ⟨by omega, by omega, trivial⟩
    · simp only [if_neg e]; exact ⟨by omega, by omega, trivial⟩
  · by_cases e1 : i < a + (b - m) <;> by_cases e2 : j < a + (b - m)
    · simp only [if_pos e1, if_pos e2] at e; omega
    · simp only [if_pos e1, if_neg e2] at e; omega
    · simp only [if_neg e1, if_pos e2] at e; omega
    · simp only [if_neg e1, if_neg e2] at e; omega
  · unfold rot; rw [if_neg (by omega)]
/-- Sorted from a to b, by a key. -/
def Srt (k : Int → Int) (f : Nat → Int) (a b : Nat) : Prop := ∀ i j, a ≤ i → i ≤ j → j < b → k (f i) ≤ k (f j)
/-- Two places exchanged. -/
def sw2 (f : Nat → Int) (a b : Nat) : Nat → Int := fun i => if i = a then f b else if i = b then f a else f i
/-- The key by which a stable sort of places is a sort: the value, then the place. -/
def key (lv : Int → Int) (x : Int) : Int := lv x * 64 + x
/-- Are all that stand from a to m lesser places than all from m to b? -/
def Lft (f : Nat → Int) (a m b : Nat) : Prop := ∀ i j, a ≤ i → i < m → m ≤ j → j < b → 0 ≤ f i ∧ f i < f j ∧ f j < 64
theorem key_lt (lv : Int → Int) (x y : Int) (h0 : 0 ≤ x) (h : x < y) (h1 : y < 64) : lv y < lv x ↔ key lv y < key lv x := by
  unfold key; omega
theorem rot_id1 (f : Nat → Int) (a b : Nat) : rot f a a b = f := by
  funext i; unfold rot
  by_cases h : a ≤ i ∧ i < b
  · rw [if_pos h, if_pos (by omega)]; congr 1; omega
  · rw [if_neg h]
theorem rot_id2 (f : Nat → Int) (a b : Nat) : rot f a b b = f := by
  funext i; unfold rot
  by_cases h : a ≤ i ∧ i < b
  · rw [if_pos h, if_neg (by omega)]; congr 1; omega
  · rw [if_neg h]
theorem rot_lo (f : Nat → Int) (a m b i : Nat) (h : i < a ∨ b ≤ i) : rot f a m b i = f i := by
  unfold rot; rw [if_neg (by omega)]
theorem rot_1 (f : Nat → Int) (a m b i : Nat) (h1 : a ≤ i) (h2 : i < a + (b - m)) (h3 : a ≤ m) (h4 : m ≤ b) : rot f a m b i = f (i + (m - a)) := by
  unfold rot; rw [if_pos (by omega), if_pos h2]
theorem rot_2 (f : Nat → Int) (a m b i : Nat) (h1 : a + (b - m) ≤ i) (h2 : i < b) (h3 : a ≤ m) (h4 : m ≤ b) : rot f a m b i = f (i - (b - m)) := by
  unfold rot; rw [if_pos (by omega), if_neg (by omega)]
structure Split (lv : Int → Int) (g : Nat → Int) (a s mid e b : Nat) : Prop where
  s1 : Srt (key lv) g a s
  s2 : Srt (key lv) g s mid
  s3 : Srt (key lv) g mid e
  s4 : Srt (key lv) g e b
  l1 : Lft g a s mid
  l2 : Lft g mid e b
  cr : ∀ i j, a ≤ i → i < mid → mid ≤ j → j < b → key lv (g i) ≤ key lv (g j)
theorem split (lv : Int → Int) (f : Nat → Int) (a m b mid s s0 r0 : Nat) (ham : a < m) (hmb : m < b) (h1 : Srt (key lv) f a m) (h2 : Srt (key lv) f m b) (hl : Lft f a m b)
    (hmid1 : a < mid) (hmid2 : mid < b) (hmid3 : 2 * mid ≤ a + b ∧ a + b ≤ 2 * mid + 1) (hs : (mid < m ∧ s0 + b = mid + m ∧ r0 = mid) ∨ (m ≤ mid ∧ s0 = a ∧ r0 = m)) (h3 : s0 ≤ s) (h4 : s ≤ r0)
    (h5 : s < r0 → lv (f (mid + m - 1 - s)) < lv (f s)) (h6 : s0 < s → ¬ lv (f (mid + m - 1 - (s - 1))) < lv (f (s - 1))) :
    a ≤ s ∧ s ≤ mid ∧ s ≤ m ∧ m ≤ mid + m - s ∧ mid ≤ mid + m - s ∧ mid + m - s ≤ b ∧ Split lv (rot f s m (mid + m - s)) a s mid (mid + m - s) b := by
  obtain ⟨e, he⟩ : ∃ e, e = mid + m - s := ⟨_, rfl⟩
  have b1 : a ≤ s := by omega
  have b2 : s ≤ mid := by omega
  have b3 : s ≤ m := by omega
  have b4 : e ≤ b := by omega
  have b5 : m ≤ e := by omega
  have b6 : mid ≤ e := by omega
  rw [← he]
  refine ⟨b1, b2, b3, b5, b6, b4, ?_⟩
  -- where things stand
  have g1 : ∀ i, i < s → rot f s m e i = f i := fun i hi => rot_lo f s m e i (.inl hi)
  have g2 : ∀ i, s ≤ i → i < mid → rot f s m e i = f (i + (m - s)) := fun i h h' => rot_1 f s m e i h (by omega) b3 b5
  have g3 : ∀ i, mid ≤ i → i < e → rot f s m e i = f (i - (e - m)) := fun i h h' => rot_2 f s m e i (by omega) h' b3 b5
  have g4 : ∀ i, e ≤ i → rot f s m e i = f i := fun i hi => rot_lo f s m e i (.inr hi)
  have k5 : s < r0 → key lv (f (e - 1)) < key lv (f s) := fun h => by
    have := h5 h
    rw [show mid + m - 1 - s = e - 1 by omega] at this
    obtain ⟨c1, c2, c3⟩ := hl s (e - 1) b1 (by omega) (by omega) (by omega)
    exact (key_lt lv _ _ c1 c2 c3).1 this
  have k6 : s0 < s → key lv (f (s - 1)) ≤ key lv (f e) := fun h => by
    have := h6 h
    rw [show mid + m - 1 - (s - 1) = e by omega] at this
    obtain ⟨c1, c2, c3⟩ := hl (s - 1) e (by omega) (by omega) (by omega) (by omega)
    have := mt (key_lt lv _ _ c1 c2 c3).2 this
    omega
  refine ⟨fun i j h h' h'' => ?_, fun i j h h' h'' => ?_, fun i j h h' h'' => ?_, fun i j h h' h'' => ?_, fun i j h h' h'' h''' => ?_, fun i j h h' h'' h''' => ?_, fun i j h h' h'' h''' => ?_⟩
  · rw [g1 i (by omega), g1 j h'']; exact h1 i j h h' (by omega)
  · rw [g2 i h (by omega), g2 j (by omega) h'']; exact h2 _ _ (by omega) (by omega) (by omega)
  · rw [g3 i h (by omega), g3 j (by omega) h'']; exact h1 _ _ (by omega) (by omega) (by omega)
  · rw [g4 i h, g4 j (by omega)]; exact h2 _ _ (by omega) h' h''
  · rw [g1 i h', g2 j h'' h''']; exact hl _ _ h (by omega) (by omega) (by omega)
  · rw [g3 i h h', g4 j h'']; exact hl _ _ (by omega) (by omega) (by omega) h'''
  · by_cases hi : i < s
    · rw [g1 i hi]
      by_cases hj : j < e
      · rw [g3 j h'' hj]; exact h1 _ _ h (by omega) (by omega)
      · rw [g4 j (by omega)]
        have hs0 : s0 < s := by omega
        have x1 := h1 i (s - 1) h (by omega) (by omega)
        have x2 := k6 hs0
        have x3 := h2 e j b5 (by omega) h'''
        omega
    · rw [g2 i (by omega) h']
      by_cases hj : j < e
      · rw [g3 j h'' hj]
        have hr : s < r0 := by omega
        have x1 := h2 (i + (m - s)) (e - 1) (by omega) (by omega) (by omega)
        have x2 := k5 hr
        have x3 := h1 s (j - (e - m)) b1 (by omega) (by omega)
        omega
      · rw [g4 j (by omega)]; exact h2 _ _ (by omega) (by omega) h'''
/-- Both halves merged: all is sorted. -/
theorem joined (lv : Int → Int) {g h1 h : Nat → Int} {a mid b : Nat} (hcr : ∀ i j, a ≤ i → i < mid → mid ≤ j → j < b → key lv (g i) ≤ key lv (g j)) (p1 : Perm g h1 a mid) (s1 : Srt (key lv) h1 a mid) (p2 : Perm h1 h mid b) (s2 : Srt (key lv) h mid b) : Srt (key lv) h a b := by
  intro i j hi hij hj
  by_cases c1 : j < mid
  · rw [p2.out i (.inl (by omega)), p2.out j (.inl c1)]; exact s1 i j hi hij c1
  · by_cases c2 : mid ≤ i
    · exact s2 i j c2 hij hj
    · rw [p2.out i (.inl (by omega))]
      obtain ⟨i', a1, a2, a3⟩ := p1.get i hi (by omega)
      obtain ⟨j', d1, d2, d3⟩ := p2.get j (by omega) hj
      rw [a3, d3, p1.out j' (.inr d1)]
      exact hcr i' j' a1 a2 d1 d2
/-- What stands at a, moved up behind i - 1. -/
def shl (f : Nat → Int) (a i : Nat) : Nat → Int := fun x => if a ≤ x ∧ x + 1 < i then f (x + 1) else if x + 1 = i then f a else f x
theorem shl_zero (f : Nat → Int) (a : Nat) : shl f a (a + 1) = f := by
  funext x; unfold shl
  rw [if_neg (by omega)]
  by_cases h : x + 1 = a + 1
  · rw [if_pos h]; congr 1; omega
  · rw [if_neg h]
theorem shl_step (f : Nat → Int) (a k : Nat) (h : a ≤ k) : sw2 (shl f a (k + 1)) k (k + 1) = shl f a (k + 2) := by
  funext x
  unfold sw2 shl
  by_cases h1 : x = k
  · rw [if_pos h1, if_neg (show ¬ (a ≤ k + 1 ∧ k + 1 + 1 < k + 1) by omega), if_neg (show ¬ (k + 1 + 1 = k + 1) by omega), if_pos (by omega), h1]
  · rw [if_neg h1]
    by_cases h2 : x = k + 1
    · rw [if_pos h2, if_neg (show ¬ (a ≤ k ∧ k + 1 < k + 1) by omega), if_pos rfl, if_neg (by omega), if_pos (by omega)]
    · rw [if_neg h2]
      by_cases h3 : a ≤ x ∧ x + 1 < k + 1
      · rw [if_pos h3, if_pos (by omega)]
      · rw [if_neg h3, if_neg (show ¬ x + 1 = k + 1 by omega), if_neg (by omega), if_neg (by omega)]
/-- What stands at m, moved down to k. -/
def shr (f : Nat → Int) (k m : Nat) : Nat → Int := fun x => if x = k then f m else if k < x ∧ x ≤ m then f (x - 1) else f x
theorem shr_zero (f : Nat → Int) (m : Nat) : shr f m m = f := by
  funext x; unfold shr
  by_cases h : x = m
  · rw [if_pos h, h]
  · rw [if_neg h, if_neg (by omega)]
theorem shr_step (f : Nat → Int) (k m : Nat) (h : k < m) : sw2 (shr f (k + 1) m) (k + 1) k = shr f k m := by
  funext x
  unfold sw2 shr
  by_cases h1 : x = k + 1
  · rw [if_pos h1, if_neg (show ¬ k = k + 1 by omega), if_neg (by omega), if_neg (by omega), if_pos (by omega), h1]; congr 1
  · rw [if_neg h1]
    by_cases h2 : x = k
    · rw [if_pos h2, if_pos rfl, if_pos h2]
    · rw [if_neg h2, if_neg h1, if_neg h2]
      by_cases h3 : k + 1 < x ∧ x ≤ m
      · rw [if_pos h3, if_pos (by omega)]
      · rw [if_neg h3, if_neg (by omega)]
theorem shl_perm (f : Nat → Int) (a i b : Nat) (h1 : a < i) (h2 : i ≤ b) : Perm f (shl f a i) a b := by
  refine ⟨fun x => if x + 1 < i then x + 1 else if x + 1 = i then a else x, fun x hx hb => ?_, fun x y _ _ _ _ e => ?_, fun x hx => ?_⟩
  · unfold shl
    by_cases c : x + 1 < i
    · simp only [if_pos c]; exact ⟨by omega, by omega, by rw [if_pos ⟨hx, c⟩]⟩
    · by_cases c2 : x + 1 = i
      · simp only [if_neg c, if_pos c2]; exact ⟨by omega, by omega, by rw [if_neg (by omega)]⟩
      · simp only [if_neg c, if_neg c2]; exact ⟨hx, hb, by rw [if_neg (by omega)]⟩
  · dsimp only at e
    repeat' split at e
    all_goals omega
  · unfold shl
    by_cases c : x < a
    · rw [if_neg (by omega), if_neg (by omega)]
    · rw [if_neg (by omega), if_neg (by omega)]
theorem shr_perm (f : Nat → Int) (a k m b : Nat) (h0 : a ≤ k) (h1 : k ≤ m) (h2 : m < b) : Perm f (shr f k m) a b := by
  refine ⟨fun x => if x = k then m else if k < x ∧ x ≤ m then x - 1 else x, fun x hx hb => ?_, fun x y _ _ _ _ e => ?_, fun x hx => ?_⟩
  · unfold shr
    by_cases c : x = k
    · simp only [if_pos c]; exact ⟨by omega, by omega, trivial⟩
    · by_cases c2 : k < x ∧ x ≤ m
      · simp only [if_neg c, if_pos c2]; exact ⟨by omega, by omega, trivial⟩
      · simp only [if_neg c, if_neg c2]; exact ⟨hx, hb, trivial⟩
  · dsimp only at e
    repeat' split at e
    all_goals omega
  · unfold shr
    rw [if_neg (by omega), if_neg (by omega)]
/-- The first of the left, put among the right. -/
theorem ins_left (lv : Int → Int) (f : Nat → Int) (a i b : Nat) (h2 : Srt (key lv) f (a + 1) b) (hl : Lft f a (a + 1) b) (hi1 : a + 1 ≤ i) (hi2 : i ≤ b)
    (hA : ∀ x, a + 1 ≤ x → x < i → lv (f x) < lv (f a)) (hB : i < b → ¬ lv (f i) < lv (f a)) : Srt (key lv) (shl f a i) a b := by
  have kA : ∀ x, a + 1 ≤ x → x < i → key lv (f x) < key lv (f a) := fun x h h' => by
    obtain ⟨c1, c2, c3⟩ := hl a x (Nat.le_refl _) (by omega) h (by omega)
    exact (key_lt lv _ _ c1 c2 c3).1 (hA x h h')
  have kB : ∀ x, i ≤ x → x < b → key lv (f a) ≤ key lv (f x) := fun x h h' => by
    obtain ⟨c1, c2, c3⟩ := hl a i (Nat.le_refl _) (by omega) hi1 (by omega)
    have := mt (key_lt lv _ _ c1 c2 c3).2 (hB (by omega))
    have := h2 i x hi1 h h'
    omega
  intro x y hx hxy hy
  unfold shl
  by_cases c1 : x + 1 < i
  · rw [if_pos ⟨hx, c1⟩]
    by_cases d1 : y + 1 < i
    · rw [if_pos ⟨by omega, d1⟩]; exact h2 _ _ (by omega) (by omega) (by omega)
    · rw [if_neg (by omega)]
      by_cases d2 : y + 1 = i
      · rw [if_pos d2]; have := kA (x + 1) (by omega) c1; omega
      · rw [if_neg d2]; exact h2 _ _ (by omega) (by omega) hy
  · rw [if_neg (by omega)]
    by_cases c2 : x + 1 = i
    · rw [if_pos c2]
      by_cases d2 : y + 1 = i
      · rw [if_neg (by omega), if_pos d2]; exact Int.le_refl _
      · rw [if_neg (by omega), if_neg d2]; exact kB y (by omega) hy
    · rw [if_neg c2, if_neg (by omega), if_neg (by omega)]; exact h2 _ _ (by omega) hxy hy
/-- The last, put among those ahead of it. -/
theorem ins_right (lv : Int → Int) (f : Nat → Int) (a i m : Nat) (h1 : Srt (key lv) f a m) (hl : Lft f a m (m + 1)) (hi1 : a ≤ i) (hi2 : i ≤ m)
    (hA : a < i → ¬ lv (f m) < lv (f (i - 1))) (hB : ∀ x, i ≤ x → x < m → lv (f m) < lv (f x)) : Srt (key lv) (shr f i m) a (m + 1) := by
  have kA : ∀ x, a ≤ x → x < i → key lv (f x) ≤ key lv (f m) := fun x h h' => by
    obtain ⟨c1, c2, c3⟩ := hl (i - 1) m (by omega) (by omega) (Nat.le_refl _) (by omega)
    have := mt (key_lt lv _ _ c1 c2 c3).2 (hA (by omega))
    have := h1 x (i - 1) h (by omega) (by omega)
    omega
  have kB : ∀ x, i ≤ x → x < m → key lv (f m) < key lv (f x) := fun x h h' => by
    obtain ⟨c1, c2, c3⟩ := hl x m (by omega) h' (Nat.le_refl _) (by omega)
    exact (key_lt lv _ _ c1 c2 c3).1 (hB x h h')
  intro x y hx hxy hy
  unfold shr
  by_cases c1 : x = i
  · rw [if_pos c1]
    by_cases d1 : y = i
    · rw [if_pos d1]; exact Int.le_refl _
    · rw [if_neg d1, if_pos (by omega)]; have := kB (y - 1) (by omega) (by omega); omega
  · rw [if_neg c1]
    by_cases c2 : i < x ∧ x ≤ m
    · rw [if_pos c2, if_neg (by omega), if_pos (by omega)]; exact h1 _ _ (by omega) (by omega) (by omega)
    · rw [if_neg c2]
      by_cases d1 : y = i
      · rw [if_pos d1]; exact kA x hx (by omega)
      · rw [if_neg d1]
        by_cases d2 : i < y ∧ y ≤ m
        · rw [if_pos d2]; exact h1 _ _ hx (by omega) (by omega)
        · rw [if_neg d2]; exact h1 _ _ hx hxy (by omega)
/-- Two that are sorted, and one a rearrangement of the other, with keys that differ, are the same: here, of places: what a stable sort of 0 .. n-1 tells is settled by its properties. -/
theorem perm_id {f g : Nat → Int} {n : Nat} (h : Perm f g 0 n) (hf : ∀ i, i < n → f i = i) : (∀ i, i < n → 0 ≤ g i ∧ g i < n) ∧ (∀ i j, i < n → j < n → g i = g j → i = j) := by
  obtain ⟨p, p1, p2, _⟩ := h
  refine ⟨fun i hi => ?_, fun i j hi hj e => ?_⟩
  · obtain ⟨_, a2, a3⟩ := p1 i (Nat.zero_le _) hi
    rw [a3, hf _ a2]; omega
  · obtain ⟨_, a2, a3⟩ := p1 i (Nat.zero_le _) hi
    obtain ⟨_, b2, b3⟩ := p1 j (Nat.zero_le _) hj
    rw [a3, b3, hf _ a2, hf _ b2] at e
    exact p2 i j (Nat.zero_le _) hi (Nat.zero_le _) hj (by omega)
end Go.Proofs.YtgodgfnfaiiohaaGreatDoor.Stab
