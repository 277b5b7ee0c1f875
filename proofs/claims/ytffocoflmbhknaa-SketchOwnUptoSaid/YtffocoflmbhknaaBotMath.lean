/- Bottoms: plain law: the least K of all numbers that came, rising. -/
import Derived.Test.YtffocoflmbhknaaMem
namespace Go.Proofs.Ytffocoflmbhknaa
set_option maxRecDepth 20000
/-- Put in its place, unless it is there. -/
def sins : List Int → Int → List Int
  | [], x => [x]
  | y :: l, x => if x < y then x :: y :: l else if x = y then y :: l else y :: sins l x
def Rising (l : List Int) : Prop := l.Pairwise (· < ·)
theorem sins_mem (z x : Int) : ∀ l : List Int, z ∈ sins l x ↔ z = x ∨ z ∈ l
  | [] => by simp [sins]
  | y :: l => by
    have ih := sins_mem z x l
    simp only [sins]
    by_cases h1 : x < y
    · rw [if_pos h1]; simp
    · rw [if_neg h1]
      by_cases h2 : x = y
      · rw [if_pos h2, h2]; simp
      · rw [if_neg h2]
        simp only [List.mem_cons, ih]
        constructor
        · rintro (h | h | h)
          · exact .inr (.inl h)
          · exact .inl h
          · exact .inr (.inr h)
        · rintro (h | h | h)
          · exact .inr (.inl h)
          · exact .inl h
          · exact .inr (.inr h)
theorem sins_rising (x : Int) : ∀ l : List Int, Rising l → Rising (sins l x)
  | [], _ => by simp [sins, Rising]
  | y :: l, h => by
    have h' := List.pairwise_cons.1 h
    have ih := sins_rising x l h'.2
    simp only [sins]
    by_cases h1 : x < y
    · rw [if_pos h1]
      refine List.pairwise_cons.2 ⟨fun z hz => ?_, h⟩
      rcases List.mem_cons.1 hz with rfl | hz
      · exact h1
      · have := h'.1 z hz; omega
    · rw [if_neg h1]
      by_cases h2 : x = y
      · rw [if_pos h2]; exact h
      · rw [if_neg h2]
        refine List.pairwise_cons.2 ⟨fun z hz => ?_, ih⟩
        rcases (sins_mem z x l).1 hz with rfl | hz
        · omega
        · exact h'.1 z hz
theorem sins_in (x : Int) : ∀ l : List Int, Rising l → x ∈ l → sins l x = l
  | [], _, h => by simp at h
  | y :: l, hr, h => by
    have h' := List.pairwise_cons.1 hr
    simp only [sins]
    by_cases h2 : x = y
    · rw [if_neg (by omega), if_pos h2]
    · have hx : x ∈ l := by
        rcases List.mem_cons.1 h with e | e
        · exact absurd e h2
        · exact e
      have := h'.1 x hx
      rw [if_neg (by omega), if_neg h2, sins_in x l h'.2 hx]
theorem countP_none (x : Int) : ∀ l : List Int, (∀ z ∈ l, x ≤ z) → l.countP (· < x) = 0
  | [], _ => rfl
  | y :: l, h => by
    rw [List.countP_cons, countP_none x l (fun z hz => h z (by simp [hz]))]
    have := h y (by simp)
    rw [if_neg (by simp; omega)]
/-- As it is done: at the place that the search tells. -/
theorem sins_out (x : Int) : ∀ l : List Int, Rising l → x ∉ l → sins l x = l.take (l.countP (· < x)) ++ x :: l.drop (l.countP (· < x))
  | [], _, _ => rfl
  | y :: l, hr, h => by
    have h' := List.pairwise_cons.1 hr
    have hxy : x ≠ y := fun e => h (by simp [e])
    have hxl : x ∉ l := fun e => h (by simp [e])
    simp only [sins]
    by_cases h1 : x < y
    · rw [if_pos h1, countP_none x (y :: l) (fun z hz => by
        rcases List.mem_cons.1 hz with rfl | hz
        · omega
        · have := h'.1 z hz; omega)]
      rfl
    · rw [if_neg h1, if_neg hxy, sins_out x l h'.2 hxl, List.countP_cons, if_pos (by simp; omega)]
      simp
theorem sins_len (x : Int) : ∀ l : List Int, l.length ≤ (sins l x).length ∧ (sins l x).length ≤ l.length + 1
  | [] => by simp [sins]
  | y :: l => by
    have := sins_len x l
    simp only [sins]
    split
    · simp
    · split
      · simp
      · simp only [List.length_cons]; omega
theorem take_sins (x : Int) : ∀ (l : List Int) (K : Nat), (sins (l.take K) x).take K = (sins l x).take K
  | l, 0 => by simp
  | [], K + 1 => by simp
  | y :: l, K + 1 => by
    rw [List.take_succ_cons]
    simp only [sins]
    by_cases h1 : x < y
    · rw [if_pos h1, if_pos h1, List.take_succ_cons, List.take_succ_cons]
      congr 1
      cases K with
      | zero => simp
      | succ K =>
        rw [List.take_succ_cons, List.take_succ_cons, List.take_take, Nat.min_eq_left (by omega)]
    · rw [if_neg h1, if_neg h1]
      by_cases h2 : x = y
      · rw [if_pos h2, if_pos h2, List.take_succ_cons, List.take_succ_cons, List.take_take, Nat.min_self]
      · rw [if_neg h2, if_neg h2, List.take_succ_cons, List.take_succ_cons, take_sins x l K]
/-- One number to a bottom of K. -/
def bot (K : Nat) (l : List Int) (x : Int) : List Int := (sins l x).take K
/-- All numbers to a bottom of K. -/
def bots (K : Nat) (l xs : List Int) : List Int := xs.foldl (bot K) l
def sinss (l xs : List Int) : List Int := xs.foldl sins l
theorem bots_take (K : Nat) : ∀ (xs l : List Int), bots K (l.take K) xs = (sinss l xs).take K
  | [], _ => rfl
  | x :: xs, l => by
    show bots K (bot K (l.take K) x) xs = (sinss (sins l x) xs).take K
    unfold bot
    rw [take_sins]
    exact bots_take K xs (sins l x)
theorem sinss_mem (z : Int) : ∀ (xs l : List Int), z ∈ sinss l xs ↔ z ∈ l ∨ z ∈ xs
  | [], l => by simp [sinss]
  | x :: xs, l => by
    show z ∈ sinss (sins l x) xs ↔ _
    rw [sinss_mem z xs, sins_mem]
    simp only [List.mem_cons]
    constructor
    · rintro ((h | h) | h)
      · exact .inr (.inl h)
      · exact .inl h
      · exact .inr (.inr h)
    · rintro (h | h | h)
      · exact .inl (.inr h)
      · exact .inl (.inl h)
      · exact .inr h
theorem sinss_rising : ∀ (xs l : List Int), Rising l → Rising (sinss l xs)
  | [], _, h => h
  | x :: xs, l, h => sinss_rising xs (sins l x) (sins_rising x l h)
theorem rising_ext : ∀ (l m : List Int), Rising l → Rising m → (∀ z, z ∈ l ↔ z ∈ m) → l = m
  | [], [], _, _, _ => rfl
  | [], y :: m, _, _, h => by have := (h y).2 (by simp); simp at this
  | x :: l, [], _, _, h => by have := (h x).1 (by simp); simp at this
  | x :: l, y :: m, hl, hm, h => by
    have h1 := List.pairwise_cons.1 hl
    have h2 := List.pairwise_cons.1 hm
    have hxy : x = y := by
      have a := (h x).1 (by simp)
      have b := (h y).2 (by simp)
      rcases List.mem_cons.1 a with e | e
      · exact e
      · rcases List.mem_cons.1 b with f | f
        · exact f.symm
        · have := h2.1 x e; have := h1.1 y f; omega
    subst hxy
    rw [rising_ext l m h1.2 h2.2 (fun z => ?_)]
    constructor
    · intro hz
      have := (h z).1 (by simp [hz])
      rcases List.mem_cons.1 this with e | e
      · have := h1.1 z hz; omega
      · exact e
    · intro hz
      have := (h z).2 (by simp [hz])
      rcases List.mem_cons.1 this with e | e
      · have := h2.1 z hz; omega
      · exact e
/-- Those of a rising row that stand in another one are no more than there. -/
theorem rising_count (d : Int) : ∀ (V P : List Int), Rising V → Rising P → (∀ p ∈ P, p ∈ V ∧ p < d) → P.length ≤ V.countP (· < d)
  | [], P, _, _, h => by
    cases P with
    | nil => simp
    | cons p P => have := (h p (by simp)).1; simp at this
  | v :: V, [], _, _, _ => by simp
  | v :: V, p :: P, hV, hP, h => by
    have h1 := List.pairwise_cons.1 hV
    have h2 := List.pairwise_cons.1 hP
    rw [List.countP_cons]
    by_cases e : p = v
    · have ih := rising_count d V P h1.2 h2.2 (fun q hq => ⟨by
        have := (h q (by simp [hq])).1
        rcases List.mem_cons.1 this with f | f
        · have := h2.1 q hq; omega
        · exact f, (h q (by simp [hq])).2⟩)
      rw [if_pos (by have := (h p (by simp)).2; simp; omega)]
      simp only [List.length_cons]; omega
    · have hp : p ∈ V := by
        rcases List.mem_cons.1 (h p (by simp)).1 with f | f
        · exact absurd f e
        · exact f
      have hvp := h1.1 p hp
      have ih := rising_count d V (p :: P) h1.2 hP (fun q hq => ⟨by
        rcases List.mem_cons.1 (h q hq).1 with f | f
        · rcases List.mem_cons.1 hq with g | g
          · omega
          · have := h2.1 q g; omega
        · exact f, (h q hq).2⟩)
      omega
theorem take_far (d : Int) : ∀ (V : List Int) (K : Nat), Rising V → K ≤ V.countP (· < d) → (sins V d).take K = V.take K
  | _, 0, _, _ => by simp
  | [], K + 1, _, h => by simp at h
  | v :: V, K + 1, hV, h => by
    have h1 := List.pairwise_cons.1 hV
    rw [List.countP_cons] at h
    by_cases e : v < d
    · rw [if_pos (by simpa using e)] at h
      simp only [sins]
      rw [if_neg (by omega), if_neg (by omega), List.take_succ_cons, List.take_succ_cons, take_far d V K h1.2 (by omega)]
    · rw [if_neg (by simpa using e), countP_none d V (fun z hz => by have := h1.1 z hz; omega)] at h
      omega
theorem sins_countP (d x : Int) : ∀ V : List Int, V.countP (· < d) ≤ (sins V x).countP (· < d)
  | [] => by simp
  | v :: V => by
    have ih := sins_countP d x V
    simp only [sins]
    split
    · rw [List.countP_cons (a := x)]; omega
    · split
      · exact Nat.le_refl _
      · rw [List.countP_cons, List.countP_cons]; omega
theorem take_fars (K : Nat) : ∀ (D V : List Int), Rising V → (∀ d ∈ D, K ≤ V.countP (· < d)) → (sinss V D).take K = V.take K
  | [], _, _, _ => rfl
  | d :: D, V, hV, h => by
    show (sinss (sins V d) D).take K = _
    rw [take_fars K D (sins V d) (sins_rising d V hV) (fun e he => Nat.le_trans (h e (by simp [he])) (sins_countP e d V)), take_far d V K hV (h d (by simp))]
theorem rising_take {l : List Int} (h : Rising l) (K : Nat) : Rising (l.take K) := List.Pairwise.sublist (List.take_sublist K l) h
/-- Of the one that is joined only the least K count. -/
theorem join_take (K : Nat) (A B : List Int) (hA : Rising A) (hB : Rising B) : (sinss A (B.take K)).take K = (sinss A B).take K := by
  have e : sinss A B = sinss (sinss A (B.take K)) (B.drop K) := by
    unfold sinss
    rw [← List.foldl_append, List.take_append_drop]
  rw [e]
  refine (take_fars K (B.drop K) (sinss A (B.take K)) (sinss_rising _ _ hA) (fun d hd => ?_)).symm
  have hlen : (B.take K).length = K := by
    rw [List.length_take]
    have : 0 < (B.drop K).length := List.length_pos_of_mem hd
    rw [List.length_drop] at this
    omega
  have key := rising_count d (sinss A (B.take K)) (B.take K) (sinss_rising _ _ hA) (rising_take hB K) (fun p hp => ⟨(sinss_mem p _ _).2 (.inr hp), ?_⟩)
  · rw [hlen] at key
    exact key
  have hs := hB
  rw [← List.take_append_drop K B] at hs
  exact (List.pairwise_append.1 hs).2.2 p hp d hd
/-- All numbers that came, rising. -/
def srt1 (xs : List Int) : List Int := sinss [] xs
theorem srt1_rising (xs : List Int) : Rising (srt1 xs) := sinss_rising xs [] List.Pairwise.nil
theorem srt1_mem (z : Int) (xs : List Int) : z ∈ srt1 xs ↔ z ∈ xs := by unfold srt1; rw [sinss_mem]; simp
theorem srt1_ext (xs ys : List Int) (h : ∀ z, z ∈ xs ↔ z ∈ ys) : srt1 xs = srt1 ys := rising_ext _ _ (srt1_rising _) (srt1_rising _) (fun z => by rw [srt1_mem, srt1_mem, h])
/-- What a bottom of K holds. -/
def botL (K : Nat) (xs : List Int) : List Int := (srt1 xs).take K
theorem botL_nil (K : Nat) : botL K [] = [] := by simp [botL, srt1, sinss]
theorem botL_snoc (K : Nat) (xs : List Int) (x : Int) : bot K (botL K xs) x = botL K (xs ++ [x]) := by
  unfold bot botL srt1 sinss
  rw [take_sins, List.foldl_append]; rfl
theorem botL_join (K : Nat) (xs ys : List Int) : bots K (botL K xs) (botL K ys) = botL K (xs ++ ys) := by
  unfold botL
  rw [bots_take, join_take K _ _ (srt1_rising xs) (srt1_rising ys)]
  congr 1
  refine rising_ext _ _ (sinss_rising _ _ (srt1_rising xs)) (srt1_rising _) (fun z => ?_)
  rw [sinss_mem, srt1_mem, srt1_mem, srt1_mem, List.mem_append]
theorem botL_ext (K : Nat) (xs ys : List Int) (h : ∀ z, z ∈ xs ↔ z ∈ ys) : botL K xs = botL K ys := by unfold botL; rw [srt1_ext xs ys h]
theorem botL_rising (K : Nat) (xs : List Int) : Rising (botL K xs) := rising_take (srt1_rising xs) K
theorem botL_len (K : Nat) (xs : List Int) : (botL K xs).length ≤ K := by unfold botL; rw [List.length_take]; omega
theorem botL_mem (K : Nat) (xs : List Int) (z : Int) (h : z ∈ botL K xs) : z ∈ xs := (srt1_mem z xs).1 (List.mem_of_mem_take h)
end Go.Proofs.Ytffocoflmbhknaa
