/- The plain law of boards: rules by the order of their beginnings, each with its newest word. -/
import Derived.Test.YtdfghgeccannnaaDoorRules
import Derived.Sort.Walk0
import Derived.Lib.Bytealg
import Derived.Shelf.Strings.Prefix
namespace Go.Proofs.YtdfghgeccannnaaDoor
open Go
set_option maxRecDepth 20000
/-- The order of texts. -/
def slt (a b : ByteArray) : Bool := Op.bytesLess a.toList b.toList
theorem tl_inj {s t : ByteArray} (h : s.toList = t.toList) : s = t := by
  rw [ByteArray.toList_eq, ByteArray.toList_eq] at h
  exact ByteArray.ext (Array.ext' h)
theorem bl_irr : ∀ x : List UInt8, Op.bytesLess x x = false
  | [] => rfl
  | a :: x => by simp [Op.bytesLess, bl_irr x]
theorem u8_ne {a b : UInt8} (h : a < b) : ¬ a = b := fun e => by rw [e] at h; exact absurd h (UInt8.lt_irrefl b)
theorem bl_trans : ∀ x y z : List UInt8, Op.bytesLess x y = true → Op.bytesLess y z = true → Op.bytesLess x z = true
  | _, [], _, h, _ => by simp [Op.bytesLess] at h
  | _, _ :: _, [], _, h => by simp [Op.bytesLess] at h
  | [], _ :: _, _ :: _, _, _ => rfl
  | a :: x, b :: y, c :: z, h1, h2 => by
    simp only [Op.bytesLess, Bool.or_eq_true, Bool.and_eq_true, decide_eq_true_eq, beq_iff_eq] at h1 h2 ⊢
    rcases h1 with h1 | ⟨rfl, h1⟩
    · rcases h2 with h2 | ⟨rfl, h2⟩
      · exact .inl (UInt8.lt_trans h1 h2)
      · exact .inl h1
    · rcases h2 with h2 | ⟨rfl, h2⟩
      · exact .inl h2
      · exact .inr ⟨rfl, bl_trans x y z h1 h2⟩
theorem bl_cmp : ∀ x y : List UInt8, (Op.bytesLess x y = true ∧ Lib.compareBytes x y = -1) ∨ (Op.bytesLess y x = true ∧ Lib.compareBytes x y = 1) ∨ (x = y ∧ Lib.compareBytes x y = 0)
  | [], [] => .inr (.inr ⟨rfl, rfl⟩)
  | [], _ :: _ => .inl ⟨rfl, rfl⟩
  | _ :: _, [] => .inr (.inl ⟨rfl, rfl⟩)
  | a :: x, b :: y => by
    simp only [Op.bytesLess, Lib.compareBytes, Bool.or_eq_true, Bool.and_eq_true, decide_eq_true_eq, beq_iff_eq]
    by_cases h1 : a < b
    · exact .inl ⟨.inl h1, by rw [if_pos h1]⟩
    · by_cases h2 : b < a
      · exact .inr (.inl ⟨.inl h2, by rw [if_neg h1, if_pos h2]⟩)
      · have e : a = b := by
          apply UInt8.toNat_inj.1
          rw [UInt8.lt_iff_toNat_lt] at h1 h2
          omega
        subst e
        rw [if_neg h1, if_neg h1]
        rcases bl_cmp x y with h | h | h
        · exact .inl ⟨.inr ⟨rfl, h.1⟩, h.2⟩
        · exact .inr (.inl ⟨.inr ⟨rfl, h.1⟩, h.2⟩)
        · exact .inr (.inr ⟨by rw [h.1], h.2⟩)
theorem slt_irr (a : ByteArray) : slt a a = false := bl_irr _
theorem slt_trans {a b c : ByteArray} (h1 : slt a b = true) (h2 : slt b c = true) : slt a c = true := bl_trans _ _ _ h1 h2
theorem slt_asym {a b : ByteArray} (h : slt a b = true) : slt b a = false := by
  cases h2 : slt b a
  · rfl
  · have := slt_trans h h2; rw [slt_irr] at this; cases this
theorem slt_tri (a b : ByteArray) : slt a b = true ∨ slt b a = true ∨ a = b := by
  rcases bl_cmp a.toList b.toList with h | h | h
  · exact .inl h.1
  · exact .inr (.inl h.1)
  · exact .inr (.inr (tl_inj h.1))
theorem slt_ne {a b : ByteArray} (h : slt a b = true) : a ≠ b := fun e => by rw [e, slt_irr] at h; cases h
/-- What strings.Compare says. -/
def scmp (a b : ByteArray) : Int := if slt a b then -1 else if slt b a then 1 else 0
theorem scmp_eq (a b : ByteArray) : Lib.compareBytes a.data.toList b.data.toList = scmp a b := by
  have e : ∀ x : ByteArray, x.data.toList = x.toList := fun x => (ByteArray.toList_eq x).symm
  rw [e, e]
  unfold scmp slt
  rcases bl_cmp a.toList b.toList with h | h | h
  · rw [if_pos h.1, h.2]
  · have : Op.bytesLess a.toList b.toList = false := by
      cases h2 : Op.bytesLess a.toList b.toList
      · rfl
      · have := bl_trans _ _ _ h2 h.1; rw [bl_irr] at this; cases this
    rw [this, if_neg (by simp), if_pos h.1, h.2]
  · rw [h.1, bl_irr, if_neg (by simp), if_neg (by simp), ← h.2, h.1]
/-- Does a word win over another one? -/
def newer (r s : Int × Int) : Bool := decide (s.2 < r.2) || (decide (r.2 = s.2) && decide (s.1 < r.1))
/-- The newer of two words. -/
def win : Option (Int × Int) → Option (Int × Int) → Option (Int × Int)
  | none, y => y
  | some x, none => some x
  | some x, some y => if newer x y then some x else some y
theorem newer_iff (r s : Int × Int) : newer r s = true ↔ (s.2 < r.2 ∨ (r.2 = s.2 ∧ s.1 < r.1)) := by
  simp [newer]
theorem newer_not (r s : Int × Int) (h : newer r s = false) : r = s ∨ newer s r = true := by
  have h' : ¬ (s.2 < r.2 ∨ (r.2 = s.2 ∧ s.1 < r.1)) := fun e => by rw [(newer_iff r s).2 e] at h; cases h
  rw [newer_iff]
  by_cases e1 : r.1 = s.1
  · by_cases e2 : r.2 = s.2
    · exact .inl (Prod.ext e1 e2)
    · right; omega
  · right; omega
theorem newer_asym (r s : Int × Int) (h : newer r s = true) : newer s r = false := by
  cases h2 : newer s r
  · rfl
  · rw [newer_iff] at h h2; omega
theorem newer_irr (r : Int × Int) : newer r r = false := by
  cases h2 : newer r r
  · rfl
  · rw [newer_iff] at h2; omega
theorem newer_trans {r s t : Int × Int} (h1 : newer r s = true) (h2 : newer s t = true) : newer r t = true := by
  rw [newer_iff] at h1 h2 ⊢; omega
theorem win_ss (x y : Int × Int) : win (some x) (some y) = if newer x y then some x else some y := rfl
theorem win_comm (x y : Option (Int × Int)) : win x y = win y x := by
  cases x with
  | none => cases y <;> rfl
  | some x =>
    cases y with
    | none => rfl
    | some y =>
      rw [win_ss, win_ss]
      cases h : newer x y
      · rcases newer_not x y h with e | e
        · subst e; rw [h]
        · rw [e]; rfl
      · rw [newer_asym x y h]; rfl
theorem win_self (x : Option (Int × Int)) : win x x = x := by
  cases x with
  | none => rfl
  | some x => rw [win_ss, newer_irr]; rfl
theorem win_none (x : Option (Int × Int)) : win x none = x := by cases x <;> rfl
theorem win_assoc (x y z : Option (Int × Int)) : win (win x y) z = win x (win y z) := by
  cases x with
  | none => rfl
  | some x =>
    cases y with
    | none => rfl
    | some y =>
      cases z with
      | none => rw [win_none, win_none]
      | some z =>
        cases h1 : newer x y <;> cases h2 : newer y z <;> cases h3 : newer x z <;> simp [win, h1, h2, h3]
        · rcases newer_not y z h2 with e | e
          · subst e; rw [h1] at h3; cases h3
          · have := newer_trans h3 e; rw [h1] at this; cases this
        · have := newer_trans h1 h2; rw [h3] at this; cases this
/-- What a board says of a beginning. -/
def look : List Rl → ByteArray → Option (Int × Int)
  | [], _ => none
  | q :: l, p => if q.1 = p then some q.2 else look l p
def Srt (L : List Rl) : Prop := L.Pairwise (fun a b => slt a.1 b.1 = true)
/-- A rule is put. -/
def bput : List Rl → Rl → List Rl
  | [], r => [r]
  | q :: l, r => if slt q.1 r.1 then q :: bput l r else if slt r.1 q.1 then r :: q :: l else if newer r.2 q.2 then r :: l else q :: l
theorem look_none (p : ByteArray) : ∀ L : List Rl, (∀ q ∈ L, q.1 ≠ p) → look L p = none
  | [], _ => rfl
  | q :: l, h => by
    unfold look
    rw [if_neg (h q (List.mem_cons_self ..))]
    exact look_none p l (fun x hx => h x (List.mem_cons_of_mem _ hx))
theorem look_mem (p : ByteArray) (v : Int × Int) : ∀ L : List Rl, look L p = some v → (p, v) ∈ L
  | [], h => by cases h
  | q :: l, h => by
    unfold look at h
    split at h
    · next e => obtain rfl := Option.some.inj h; rw [← e]; exact List.mem_cons_self ..
    · exact List.mem_cons_of_mem _ (look_mem p v l h)
theorem look_of (p : ByteArray) (v : Int × Int) : ∀ L : List Rl, Srt L → (p, v) ∈ L → look L p = some v
  | [], _, h => by cases h
  | q :: l, hs, h => by
    have hc := List.pairwise_cons.1 hs
    rcases List.mem_cons.1 h with e | e
    · subst e; unfold look; rw [if_pos rfl]
    · unfold look
      rw [if_neg (slt_ne (hc.1 _ e))]
      exact look_of p v l hc.2 e
theorem bput_mem (r : Rl) : ∀ L : List Rl, ∀ q ∈ bput L r, q = r ∨ q ∈ L
  | [], q, h => by simp [bput] at h; exact .inl h
  | x :: l, q, h => by
    unfold bput at h
    split at h
    · rcases List.mem_cons.1 h with e | e
      · exact .inr (by rw [e]; exact List.mem_cons_self ..)
      · exact (bput_mem r l q e).imp_right (List.mem_cons_of_mem _)
    · split at h
      · rcases List.mem_cons.1 h with e | e
        · exact .inl e
        · exact .inr e
      · split at h
        · rcases List.mem_cons.1 h with e | e
          · exact .inl e
          · exact .inr (List.mem_cons_of_mem _ e)
        · exact .inr h
theorem slt_eq {a b : ByteArray} (h1 : ¬ slt a b = true) (h2 : ¬ slt b a = true) : a = b := by
  rcases slt_tri a b with h | h | h
  · exact absurd h h1
  · exact absurd h h2
  · exact h
theorem bput_srt (r : Rl) : ∀ L : List Rl, Srt L → Srt (bput L r)
  | [], _ => List.pairwise_singleton _ _
  | x :: l, hs => by
    have hc := List.pairwise_cons.1 hs
    unfold bput
    split
    · next h => exact List.pairwise_cons.2 ⟨fun q hq => by
        rcases bput_mem r l q hq with e | e
        · rw [e]; exact h
        · exact hc.1 q e, bput_srt r l hc.2⟩
    · next h =>
      split
      · next h2 => exact List.pairwise_cons.2 ⟨fun q hq => by
          rcases List.mem_cons.1 hq with e | e
          · rw [e]; exact h2
          · exact slt_trans h2 (hc.1 q e), hs⟩
      · next h2 =>
        have e := slt_eq h h2
        split
        · exact List.pairwise_cons.2 ⟨fun q hq => by rw [← e]; exact hc.1 q hq, hc.2⟩
        · exact hs
theorem bput_look (r : Rl) (p : ByteArray) : ∀ L : List Rl, Srt L → look (bput L r) p = if r.1 = p then win (some r.2) (look L p) else look L p
  | [], _ => by
    unfold bput
    simp only [look]
    rfl
  | x :: l, hs => by
    have hc := List.pairwise_cons.1 hs
    unfold bput
    split
    · next h =>
      unfold look
      rw [bput_look r p l hc.2]
      by_cases e : x.1 = p
      · rw [if_pos e, if_neg (fun e2 => slt_ne h (e.trans e2.symm)), if_pos e]
      · rw [if_neg e, if_neg e]
    · next h =>
      split
      · next h2 =>
        show (if r.1 = p then some r.2 else look (x :: l) p) = _
        by_cases e : r.1 = p
        · rw [if_pos e, if_pos e, look_none p (x :: l) (fun q hq => by
            rw [← e]
            rcases List.mem_cons.1 hq with e2 | e2
            · rw [e2]; exact (slt_ne h2).symm
            · exact (slt_ne (slt_trans h2 (hc.1 q e2))).symm)]
          rfl
        · rw [if_neg e, if_neg e]
      · next h2 =>
        have e := slt_eq h h2
        split
        · next h3 =>
          unfold look
          rw [e]
          by_cases e2 : r.1 = p
          · rw [if_pos e2, if_pos e2, if_pos e2]
            rw [win_ss, h3]; rfl
          · rw [if_neg e2, if_neg e2, if_neg e2]
        · next h3 =>
          by_cases e2 : r.1 = p
          · rw [if_pos e2]
            unfold look
            rw [e, if_pos e2]
            rw [win_ss, show newer r.2 x.2 = false by simpa using h3]; rfl
          · rw [if_neg e2]
theorem srt_ext : ∀ L M : List Rl, Srt L → Srt M → (∀ p, look L p = look M p) → L = M
  | [], [], _, _, _ => rfl
  | [], q :: m, _, _, h => by have := h q.1; simp [look] at this
  | q :: l, [], _, _, h => by have := h q.1; simp [look] at this
  | q :: l, r :: m, h1, h2, h => by
    have hc := List.pairwise_cons.1 h1
    have hd := List.pairwise_cons.1 h2
    have e : q.1 = r.1 := by
      rcases slt_tri q.1 r.1 with e | e | e
      · have := h q.1
        rw [look_none q.1 (r :: m) (fun x hx => by
          rcases List.mem_cons.1 hx with e2 | e2
          · rw [e2]; exact (slt_ne e).symm
          · exact (slt_ne (slt_trans e (hd.1 x e2))).symm)] at this
        simp [look] at this
      · have := h r.1
        rw [look_none r.1 (q :: l) (fun x hx => by
          rcases List.mem_cons.1 hx with e2 | e2
          · rw [e2]; exact (slt_ne e).symm
          · exact (slt_ne (slt_trans e (hc.1 x e2))).symm)] at this
        simp [look] at this
      · exact e
    have e2 : q.2 = r.2 := by
      have := h q.1
      simp only [look, e, if_true] at this
      exact Option.some.inj this
    have e3 : q = r := Prod.ext e e2
    subst e3
    rw [srt_ext l m hc.2 hd.2 (fun p => by
      have := h p
      unfold look at this
      by_cases e4 : q.1 = p
      · rw [look_none p l (fun x hx => by rw [← e4]; exact (slt_ne (hc.1 x hx)).symm), look_none p m (fun x hx => by rw [← e4]; exact (slt_ne (hd.1 x hx)).symm)]
      · rw [if_neg e4, if_neg e4] at this
        exact this)]
/-- Many rules, one by one. -/
def bputs (L M : List Rl) : List Rl := M.foldl bput L
theorem bputs_snoc (L M : List Rl) (r : Rl) : bputs L (M ++ [r]) = bput (bputs L M) r := by simp [bputs]
theorem bputs_srt (L : List Rl) : ∀ M : List Rl, Srt L → Srt (bputs L M)
  | [], h => h
  | r :: m, h => bputs_srt _ m (bput_srt r L h)
/-- The newest word of a row of rules. -/
def best : List Rl → ByteArray → Option (Int × Int)
  | [], _ => none
  | q :: l, p => win (if q.1 = p then some q.2 else none) (best l p)
theorem bputs_look (p : ByteArray) : ∀ (M L : List Rl), Srt L → look (bputs L M) p = win (look L p) (best M p)
  | [], L, _ => by
    show look L p = win (look L p) none
    rw [win_none]
  | r :: m, L, h => by
    show look (bputs (bput L r) m) p = _
    rw [bputs_look p m _ (bput_srt r L h), bput_look r p L h]
    show _ = win (look L p) (win (if r.1 = p then some r.2 else none) (best m p))
    by_cases e : r.1 = p
    · rw [if_pos e, if_pos e, win_comm (some r.2) (look L p), win_assoc]
    · rw [if_neg e, if_neg e]; rfl
theorem best_append (p : ByteArray) (M : List Rl) : ∀ L : List Rl, best (L ++ M) p = win (best L p) (best M p)
  | [] => rfl
  | q :: l => by
    show win _ (best (l ++ M) p) = win (win _ (best l p)) (best M p)
    rw [best_append p M l, win_assoc]
theorem best_srt (p : ByteArray) : ∀ L : List Rl, Srt L → best L p = look L p
  | [], _ => rfl
  | q :: l, h => by
    have hc := List.pairwise_cons.1 h
    unfold best look
    rw [best_srt p l hc.2]
    by_cases e : q.1 = p
    · rw [if_pos e, if_pos e, look_none p l (fun x hx => by rw [← e]; exact (slt_ne (hc.1 x hx)).symm), win_none]
    · rw [if_neg e, if_neg e]; rfl
theorem join_look (p : ByteArray) (L M : List Rl) (h1 : Srt L) (h2 : Srt M) : look (bputs L M) p = win (look L p) (look M p) := by
  rw [bputs_look p M L h1, best_srt p M h2]
theorem join_comm (L M : List Rl) (h1 : Srt L) (h2 : Srt M) : bputs L M = bputs M L :=
  srt_ext _ _ (bputs_srt _ _ h1) (bputs_srt _ _ h2) (fun p => by rw [join_look p L M h1 h2, join_look p M L h2 h1, win_comm])
theorem join_assoc (L M N : List Rl) (h1 : Srt L) (h2 : Srt M) (h3 : Srt N) : bputs (bputs L M) N = bputs L (bputs M N) :=
  srt_ext _ _ (bputs_srt _ _ (bputs_srt _ _ h1)) (bputs_srt _ _ h1) (fun p => by
    rw [join_look p _ N (bputs_srt _ _ h1) h3, join_look p L M h1 h2, join_look p L _ h1 (bputs_srt _ _ h2), join_look p M N h2 h3, win_assoc])
theorem join_self (L M : List Rl) (h1 : Srt L) (h2 : Srt M) : bputs (bputs L M) L = bputs L M :=
  srt_ext _ _ (bputs_srt _ _ (bputs_srt _ _ h1)) (bputs_srt _ _ h1) (fun p => by
    rw [join_look p _ L (bputs_srt _ _ h1) h1, join_look p L M h1 h2, win_comm (look L p), win_assoc, win_self])
theorem srt_nil : Srt [] := List.Pairwise.nil
theorem join_all (A B : List Rl) : bputs (bputs [] A) (bputs [] B) = bputs [] (A ++ B) :=
  srt_ext _ _ (bputs_srt _ _ (bputs_srt _ _ srt_nil)) (bputs_srt _ _ srt_nil) (fun p => by
    rw [join_look p _ _ (bputs_srt _ _ srt_nil) (bputs_srt _ _ srt_nil), bputs_look p A [] srt_nil, bputs_look p B [] srt_nil, bputs_look p _ [] srt_nil, best_append]
    rfl)
/-- Where a beginning belongs. -/
def fpos : List Rl → ByteArray → Nat
  | [], _ => 0
  | q :: l, p => if slt q.1 p then fpos l p + 1 else 0
def fhas (L : List Rl) (p : ByteArray) : Bool := decide (fpos L p < L.length) && decide ((L.getD (fpos L p) nilRl).1 = p)
theorem fpos_le (p : ByteArray) : ∀ L : List Rl, fpos L p ≤ L.length
  | [] => Nat.le_refl _
  | q :: l => by
    unfold fpos
    split
    · have := fpos_le p l; simp; omega
    · exact Nat.zero_le _
theorem fpos_lt (p : ByteArray) : ∀ (L : List Rl) (i : Nat), i < fpos L p → slt (L.getD i nilRl).1 p = true
  | [], i, h => by simp [fpos] at h
  | q :: l, i, h => by
    unfold fpos at h
    split at h
    · next h2 =>
      cases i with
      | zero => exact h2
      | succ i => exact fpos_lt p l i (by omega)
    · omega
theorem fpos_of (p : ByteArray) : ∀ (L : List Rl) (i : Nat), i ≤ L.length → (∀ t, t < i → slt (L.getD t nilRl).1 p = true) → (∀ t, i ≤ t → t < L.length → slt (L.getD t nilRl).1 p = false) → fpos L p = i
  | [], i, h, _, _ => by simp at h; rw [h]; rfl
  | q :: l, 0, _, _, h => by
    have := h 0 (Nat.le_refl _) (by simp)
    show (if slt q.1 p then fpos l p + 1 else 0) = 0
    rw [if_neg (by rw [show slt q.1 p = false from this]; simp)]
  | q :: l, i + 1, h, h1, h2 => by
    show (if slt q.1 p then fpos l p + 1 else 0) = i + 1
    rw [if_pos (show slt q.1 p = true from h1 0 (by omega)), fpos_of p l i (by simpa using h) (fun t ht => h1 (t + 1) (by omega)) (fun t h3 h4 => h2 (t + 1) (by omega) (by simpa using h4))]
theorem bput_new (r : Rl) : ∀ L : List Rl, Srt L → fhas L r.1 = false → bput L r = L.take (fpos L r.1) ++ r :: L.drop (fpos L r.1)
  | [], _, _ => rfl
  | q :: l, hs, h => by
    have hc := List.pairwise_cons.1 hs
    cases h2 : slt q.1 r.1
    · have e : fpos (q :: l) r.1 = 0 := by unfold fpos; rw [h2]; rfl
      have h3 : ¬ q.1 = r.1 := by
        unfold fhas at h
        rw [e] at h
        simpa using h
      rw [e]
      have h4 : slt r.1 q.1 = true := by
        rcases slt_tri q.1 r.1 with a | a | a
        · rw [h2] at a; cases a
        · exact a
        · exact absurd a h3
      unfold bput
      rw [h2, h4]; rfl
    · have e : fpos (q :: l) r.1 = fpos l r.1 + 1 := by show (if _ then _ else _) = _; rw [if_pos h2]
      have h3 : fhas l r.1 = false := by
        unfold fhas at h ⊢
        rw [e] at h
        simpa using h
      rw [e]
      show (if slt q.1 r.1 then q :: bput l r else _) = _
      rw [if_pos h2, bput_new r l hc.2 h3]; rfl
theorem bput_old (r : Rl) : ∀ L : List Rl, Srt L → fhas L r.1 = true → bput L r = if newer r.2 (L.getD (fpos L r.1) nilRl).2 then L.set (fpos L r.1) r else L
  | [], _, h => by simp [fhas] at h
  | q :: l, hs, h => by
    have hc := List.pairwise_cons.1 hs
    cases h2 : slt q.1 r.1
    · have e : fpos (q :: l) r.1 = 0 := by unfold fpos; rw [h2]; rfl
      have h3 : q.1 = r.1 := by
        unfold fhas at h
        rw [e] at h
        simpa using h
      rw [e]
      unfold bput
      rw [h2, show slt r.1 q.1 = false by rw [h3, slt_irr]]
      rfl
    · have e : fpos (q :: l) r.1 = fpos l r.1 + 1 := by show (if _ then _ else _) = _; rw [if_pos h2]
      have h3 : fhas l r.1 = true := by
        unfold fhas at h ⊢
        rw [e] at h
        simpa using h
      rw [e]
      show (if slt q.1 r.1 then q :: bput l r else _) = _
      rw [if_pos h2, bput_old r l hc.2 h3]
      show q :: (if newer r.2 (l.getD (fpos l r.1) nilRl).2 then l.set (fpos l r.1) r else l) = if newer r.2 (l.getD (fpos l r.1) nilRl).2 then q :: l.set (fpos l r.1) r else q :: l
      split <;> rfl
theorem bput_len (r : Rl) : ∀ L : List Rl, (bput L r).length = L.length ∨ (bput L r).length = L.length + 1
  | [] => .inr rfl
  | q :: l => by
    unfold bput
    split
    · rcases bput_len r l with h | h
      · exact .inl (by simp [h])
      · exact .inr (by simp [h])
    · split
      · exact .inr rfl
      · split
        · exact .inl rfl
        · exact .inl rfl
theorem srt_len (S : List ByteArray) : ∀ L : List Rl, Srt L → (∀ q ∈ L, q.1 ∈ S) → L.length ≤ S.length := by
  induction S with
  | nil =>
    intro L _ h
    cases L with
    | nil => exact Nat.le_refl _
    | cons q l => exact absurd (h q (List.mem_cons_self ..)) (by simp)
  | cons s S ih =>
    intro L hs h
    have h2 := ih (L.filter (fun q => decide (q.1 ≠ s))) (List.Pairwise.filter _ hs) (fun q hq => by
      obtain ⟨a, b⟩ := List.mem_filter.1 hq
      rcases List.mem_cons.1 (h q a) with e | e
      · exact absurd e (by simpa using b)
      · exact e)
    have h3 : ∀ M : List Rl, Srt M → M.length ≤ (M.filter (fun q => decide (q.1 ≠ s))).length + 1 := by
      intro M
      induction M with
      | nil => intro _; simp
      | cons q m ihm =>
        intro hm
        have hc := List.pairwise_cons.1 hm
        by_cases e : q.1 = s
        · have : m.filter (fun q => decide (q.1 ≠ s)) = m := List.filter_eq_self.2 (fun x hx => by
            have := slt_ne (hc.1 x hx)
            rw [e] at this
            simpa using this.symm)
          rw [List.filter_cons_of_neg (by simp [e]), this]
          simp
        · rw [List.filter_cons_of_pos (by simp [e])]
          have := ihm hc.2
          simp only [List.length_cons]; omega
    have := h3 L hs
    simp only [List.length_cons]; omega
/-- A text begins with another one. -/
def begins (s p : ByteArray) : Bool := Lib.hasPrefix s.data.toList p.data.toList
end Go.Proofs.YtdfghgeccannnaaDoor
