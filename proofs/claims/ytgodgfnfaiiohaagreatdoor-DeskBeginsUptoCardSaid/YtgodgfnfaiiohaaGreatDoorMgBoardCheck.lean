/- Merged: BoardMath, ShelfB, Board, BoardFind, BoardCheck. -/
import Derived.Test.YtgodgfnfaiiohaaGreatDoorRules
import Derived.Sort.Walk0
import Derived.Lib.Bytealg
import Derived.Shelf.Strings.Prefix
import Derived.Test.YtgodgfnfaiiohaaGreatDoorShelf
import Derived.Deep.LoopGhost
import Derived.Deep.QuietTactic
import Derived.BigQuiet
import Derived.Shelf.Abstract
import Derived.WalkLawsBesides
/- The plain law of boards: rules by the order of their beginnings, each with its newest word. -/
namespace Go.Proofs.YtgodgfnfaiiohaaGreatDoor
open Go
set_option maxRecDepth 20000
/-- The order of texts. -/
def slt (a b : ByteArray) : Bool := Op.bytesLess a.toList b.toList
theorem tl_inj {s t : ByteArray} (h : s.toList = t.toList) : s = t := by
  rw [ByteArray.toList_eq, ByteArray.toList_eq] at h
  exact ByteArray.ext (Array.ext' h)
theorem bl_irr : ∀ x : List UInt8, Op.bytesLess x x = false
  | [] => rfl
  | a :: x => by simp [Op.bytesLess, bl_irr x]
theorem bl_trans : ∀ x y z : List UInt8, Op.bytesLess x y = true → Op.bytesLess y z = true → Op.bytesLess x z = true
  | _, [], _, h, _ => by simp [Op.bytesLess] at h
  | _, _ :: _, [], _, h => by simp [Op.bytesLess] at h
  | [], _ :: _, _ :: _, _, _ => rfl
  | a :: x, b :: y, c :: z, h1, h2 => by
    simp only [Op.bytesLess, Bool.or_eq_true, Bool.and_eq_true, decide_eq_true_eq, beq_iff_eq] at h1 h2 ⊢
    rcases h1 with h1 | ⟨rfl, h1⟩
    · rcases h2 with h2 | ⟨rfl, h2⟩
      · exact .inl (UInt8.lt_trans h1 h2)
      · exact .inl h1
    · rcases h2 with h2 | ⟨rfl, h2⟩
      · exact .inl h2
      · exact .inr ⟨rfl, bl_trans x y z h1 h2⟩
theorem bl_cmp : ∀ x y : List UInt8, (Op.bytesLess x y = true ∧ Lib.compareBytes x y = -1) ∨ (Op.bytesLess y x = true ∧ Lib.compareBytes x y = 1) ∨ (x = y ∧ Lib.compareBytes x y = 0)
  | [], [] => .inr (.inr ⟨rfl, rfl⟩)
  | [], _ :: _ => .inl ⟨rfl, rfl⟩
  | _ :: _, [] => .inr (.inl ⟨rfl, rfl⟩)
  | a :: x, b :: y => by
    simp only [Op.bytesLess, Lib.compareBytes, Bool.or_eq_true, Bool.and_eq_true, decide_eq_true_eq, beq_iff_eq]
    by_cases h1 : a < b
    · exact .inl ⟨.inl h1, by rw [if_pos h1]⟩
    · by_cases h2 : b < a
      · exact .inr (.inl ⟨.inl h2, by rw [if_neg h1, if_pos h2]⟩)
      · have e : a = b := by
          apply UInt8.toNat_inj.1
          rw [UInt8.lt_iff_toNat_lt] at h1 h2
          omega
        subst e
        rw [if_neg h1, if_neg h1]
        rcases bl_cmp x y with h | h | h
        · exact .inl ⟨.inr ⟨rfl, h.1⟩, h.2⟩
        · exact .inr (.inl ⟨.inr ⟨rfl, h.1⟩, h.2⟩)
        · exact .inr (.inr ⟨by rw [h.1], h.2⟩)
theorem slt_irr (a : ByteArray) : slt a a = false := bl_irr _
theorem slt_trans {a b c : ByteArray} (h1 : slt a b = true) (h2 : slt b c = true) : slt a c = true := bl_trans _ _ _ h1 h2
theorem slt_asym {a b : ByteArray} (h : slt a b = true) : slt b a = false := by
  cases h2 : slt b a
  · rfl
  · have := slt_trans h h2; rw [slt_irr] at this; cases this
theorem slt_tri (a b : ByteArray) : slt a b = true ∨ slt b a = true ∨ a = b := by
  rcases bl_cmp a.toList b.toList with h | h | h
  · exact .inl h.1
  · exact .inr (.inl h.1)
  · exact .inr (.inr (tl_inj h.1))
/-- What strings.Compare says. -/
def scmp (a b : ByteArray) : Int := if slt a b then -1 else if slt b a then 1 else 0
theorem scmp_eq (a b : ByteArray) : Lib.compareBytes a.data.toList b.data.toList = scmp a b := by
  have e : ∀ x : ByteArray, x.data.toList = x.toList := fun x => (ByteArray.toList_eq x).symm
  rw [e, e]
  unfold scmp slt
  rcases bl_cmp a.toList b.toList with h | h | h
  · rw [if_pos h.1, h.2]
  · have : Op.bytesLess a.toList b.toList = false := by
      cases h2 : Op.bytesLess a.toList b.toList
      · rfl
      · have := bl_trans _ _ _ h2 h.1; rw [bl_irr] at this; cases this
    rw [this, if_neg (by simp), if_pos h.1, h.2]
  · rw [h.1, bl_irr, if_neg (by simp), if_neg (by simp), ← h.2, h.1]
/-- Does a word win over another one? -/
def newer (r s : Int × Int) : Bool := decide (s.2 < r.2) || (decide (r.2 = s.2) && decide (s.1 < r.1))
/-- The newer of two words. -/
def win : Option (Int × Int) → Option (Int × Int) → Option (Int × Int)
  | none, y => y
  | some x, none => some x
  | some x, some y => if newer x y then some x else some y
/-- What a board says of a beginning. -/
def look : List Rl → ByteArray → Option (Int × Int)
  | [], _ => none
  | q :: l, p => if q.1 = p then some q.2 else look l p
def Srt (L : List Rl) : Prop := L.Pairwise (fun a b => slt a.1 b.1 = true)
/-- A rule is put. -/
def bput : List Rl → Rl → List Rl
  | [], r => [r]
  | q :: l, r => if slt q.1 r.1 then q :: bput l r else if slt r.1 q.1 then r :: q :: l else if newer r.2 q.2 then r :: l else q :: l
theorem bput_mem (r : Rl) : ∀ L : List Rl, ∀ q ∈ bput L r, q = r ∨ q ∈ L
  | [], q, h => by simp [bput] at h; exact .inl h
  | x :: l, q, h => by
    unfold bput at h
    split at h
    · rcases List.mem_cons.1 h with e | e
      · exact .inr (by rw [e]; exact List.mem_cons_self ..)
      · exact (bput_mem r l q e).imp_right (List.mem_cons_of_mem _)
    · split at h
      · rcases List.mem_cons.1 h with e | e
        · exact .inl e
        · exact .inr e
      · split at h
        · rcases List.mem_cons.1 h with e | e
          · exact .inl e
          · exact .inr (List.mem_cons_of_mem _ e)
        · exact .inr h
theorem slt_eq {a b : ByteArray} (h1 : ¬ slt a b = true) (h2 : ¬ slt b a = true) : a = b := by
  rcases slt_tri a b with h | h | h
  · exact absurd h h1
  · exact absurd h h2
  · exact h
theorem bput_srt (r : Rl) : ∀ L : List Rl, Srt L → Srt (bput L r)
  | [], _ => List.pairwise_singleton _ _
  | x :: l, hs => by
    have hc := List.pairwise_cons.1 hs
    unfold bput
    split
    · next h => exact List.pairwise_cons.2 ⟨fun q hq => by
        rcases bput_mem r l q hq with e | e
        · rw [e]; exact h
        · exact hc.1 q e, bput_srt r l hc.2⟩
    · next h =>
      split
      · next h2 => exact List.pairwise_cons.2 ⟨fun q hq => by
          rcases List.mem_cons.1 hq with e | e
          · rw [e]; exact h2
          · exact slt_trans h2 (hc.1 q e), hs⟩
      · next h2 =>
        have e := slt_eq h h2
        split
        · exact List.pairwise_cons.2 ⟨fun q hq => by rw [← e]; exact hc.1 q hq, hc.2⟩
        · exact hs
/-- The newest word of a row of rules. -/
def best : List Rl → ByteArray → Option (Int × Int)
  | [], _ => none
  | q :: l, p => win (if q.1 = p then some q.2 else none) (best l p)
/-- Where a beginning belongs. -/
def fpos : List Rl → ByteArray → Nat
  | [], _ => 0
  | q :: l, p => if slt q.1 p then fpos l p + 1 else 0
def fhas (L : List Rl) (p : ByteArray) : Bool := decide (fpos L p < L.length) && decide ((L.getD (fpos L p) nilRl).1 = p)
theorem fpos_le (p : ByteArray) : ∀ L : List Rl, fpos L p ≤ L.length
  | [] => Nat.le_refl _
  | q :: l => by
    unfold fpos
    split
    · have := fpos_le p l; simp; omega
    · exact Nat.zero_le _
theorem fpos_of (p : ByteArray) : ∀ (L : List Rl) (i : Nat), i ≤ L.length → (∀ t, t < i → slt (L.getD t nilRl).1 p = true) → (∀ t, i ≤ t → t < L.length → slt (L.getD t nilRl).1 p = false) → fpos L p = i
  | [], i, h, _, _ => by simp at h; rw [h]; rfl
  | q :: l, 0, _, _, h => by
    have := h 0 (Nat.le_refl _) (by simp)
    show (if slt q.1 p then fpos l p + 1 else 0) = 0
    rw [if_neg (by rw [show slt q.1 p = false from this]; simp)]
  | q :: l, i + 1, h, h1, h2 => by
    show (if slt q.1 p then fpos l p + 1 else 0) = i + 1
    rw [if_pos (show slt q.1 p = true from h1 0 (by omega)), fpos_of p l i (by simpa using h) (fun t ht => h1 (t + 1) (by omega)) (fun t h3 h4 => h2 (t + 1) (by omega) (by simpa using h4))]
theorem bput_new (r : Rl) : ∀ L : List Rl, Srt L → fhas L r.1 = false → bput L r = L.take (fpos L r.1) ++ r :: L.drop (fpos L r.1)
  | [], _, _ => rfl
  | q :: l, hs, h => by
    have hc := List.pairwise_cons.1 hs
    cases h2 : slt q.1 r.1
    · have e : fpos (q :: l) r.1 = 0 := by unfold fpos; rw [h2]; rfl
      have h3 : ¬ q.1 = r.1 := by
        unfold fhas at h
        rw [e] at h
        simpa using h
      rw [e]
      have h4 : slt r.1 q.1 = true := by
        rcases slt_tri q.1 r.1 with a | a | a
        · rw [h2] at a; cases a
        · exact a
        · exact absurd a h3
      unfold bput
      rw [h2, h4]; rfl
    · have e : fpos (q :: l) r.1 = fpos l r.1 + 1 := by show (if _ then _ else _) = _; rw [if_pos h2]
      have h3 : fhas l r.1 = false := by
        unfold fhas at h ⊢
        rw [e] at h
        simpa using h
      rw [e]
      show (if slt q.1 r.1 then q :: bput l r else _) = _
      rw [if_pos h2, bput_new r l hc.2 h3]; rfl
theorem bput_old (r : Rl) : ∀ L : List Rl, Srt L → fhas L r.1 = true → bput L r = if newer r.2 (L.getD (fpos L r.1) nilRl).2 then L.set (fpos L r.1) r else L
  | [], _, h => by simp [fhas] at h
  | q :: l, hs, h => by
    have hc := List.pairwise_cons.1 hs
    cases h2 : slt q.1 r.1
    · have e : fpos (q :: l) r.1 = 0 := by unfold fpos; rw [h2]; rfl
      have h3 : q.1 = r.1 := by
        unfold fhas at h
        rw [e] at h
        simpa using h
      rw [e]
      unfold bput
      rw [h2, show slt r.1 q.1 = false by rw [h3, slt_irr]]
      rfl
    · have e : fpos (q :: l) r.1 = fpos l r.1 + 1 := by show (if _ then _ else _) = _; rw [if_pos h2]
      have h3 : fhas l r.1 = true := by
        unfold fhas at h ⊢
        rw [e] at h
        simpa using h
      rw [e]
      show (if slt q.1 r.1 then q :: bput l r else _) = _
      rw [if_pos h2, bput_old r l hc.2 h3]
      show q :: (if newer r.2 (l.getD (fpos l r.1) nilRl).2 then l.set (fpos l r.1) r else l) = if newer r.2 (l.getD (fpos l r.1) nilRl).2 then q :: l.set (fpos l r.1) r else q :: l
      split <;> rfl
/-- A text begins with another one. -/
def begins (s p : ByteArray) : Bool := Lib.hasPrefix s.data.toList p.data.toList
end Go.Proofs.YtgodgfnfaiiohaaGreatDoor

/- The contracts of the library. -/

/- Contracts of package board: one, newer, find. -/
namespace Go.Proofs.YtgodgfnfaiiohaaGreatDoor
open Go.ChangeShapes Go.WideShapes Go.ChangeAt Go.RowKit Go.Lib
set_option maxRecDepth 20000
/-- A rune that a beginning may not hold. -/
def badR (r : Nat) : Bool := decide (r < 33) || decide (126 < r)
theorem badr_c (w : World) : PredAt Tryz.prog 182 #[] encR badR w := fun W r _ => by
  unfold FnGives
  have BR := hidp (show badR r = (decide (r < 33) || decide (126 < r)) from rfl)
  by_cases h1 : r < 33
  · have R := hidp (show badR r = true by rw [BR.out, decide_eq_true h1]; rfl)
    have z1 : (r : Int) < 33 := by omega
    clear h1
    go_enter Tryz.func182, Tryz.ntmps182
    go_wp2
    go_ret
    exact ⟨ret_bool R.out.symm, 0, rfl⟩
  · have z1 : ¬ (r : Int) < 33 := by omega
    by_cases h2 : 126 < r
    · have R := hidp (show badR r = true by rw [BR.out, decide_eq_true h2, Bool.or_true])
      have z2 : (126 : Int) < (r : Int) := by omega
      clear h1 h2
      go_enter Tryz.func182, Tryz.ntmps182
      go_wp2
      go_ret
      exact ⟨ret_bool R.out.symm, 0, rfl⟩
    · have R := hidp (show badR r = false by rw [BR.out, decide_eq_false h1, decide_eq_false h2]; rfl)
      have z2 : ¬ (126 : Int) < (r : Int) := by omega
      clear h1 h2
      go_enter Tryz.func182, Tryz.ntmps182
      go_wp2
      go_ret
      exact ⟨ret_bool R.out.symm, 0, rfl⟩
/-- A beginning that may not be. -/
def hasBad (s : ByteArray) : Bool := decide (0 ≤ Lib.idxFunc badR true s)
def txtE (s : ByteArray) : Bool := decide (16 < s.size) || hasBad s
def numE (l e : Int) : Bool := decide (l < 0 ∨ 20 < l ∨ e < 1 ∨ 1000000000000 < e)
/-- What board.one says. -/
def oneE (r : Rl) : Int := if txtE r.1 then 3 else if numE r.2.1 r.2.2 then 1 else 0
set_option maxHeartbeats 2000000 in
theorem one_c (s : ByteArray) (l e : Int) (w : World) :
    Calls Tryz.prog 153 #[.agg #[.string s, .int .i64 l, .int .i64 e]] w fun ee w' => ee = .returned (.int .i64 (oneE (s, l, e))) ∧ Below w.heap.size w w' := by
  have OE := hidp (show oneE (s, l, e) = if txtE s then 3 else if numE l e then 1 else 0 from rfl)
  have TE := hidp (show txtE s = (decide (16 < s.size) || hasBad s) from rfl)
  have NE := hidp (show numE l e = decide (l < 0 ∨ 20 < l ∨ e < 1 ∨ 1000000000000 < e) from rfl)
  have CF := hidp (fun W => show Calls Tryz.prog 181 #[.string s, .func (.func 182) #[] #[]] W fun ee w' => ee = .returned (.bool (hasBad s)) ∧ Below W.heap.size W w' from Tryz.strings_ContainsFunc 182 #[] (enters_of Tryz.func182 (by kernel_rfl) rfl) badR s W (badr_c W))
  have hb : Below w.heap.size w (w.alloc (.cells #[.string s, .int .i64 l, .int .i64 e] 146)) := bal (Below.refl _ _) _
  have c0 : (w.alloc (.cells #[.string s, .int .i64 l, .int .i64 e] 146)).cell? ⟨w.heap.size, 0, none⟩ = some (.string s) := by simp
  have c1 : (w.alloc (.cells #[.string s, .int .i64 l, .int .i64 e] 146)).cell? ⟨w.heap.size, 1, none⟩ = some (.int .i64 l) := by simp
  have c2 : (w.alloc (.cells #[.string s, .int .i64 l, .int .i64 e] 146)).cell? ⟨w.heap.size, 2, none⟩ = some (.int .i64 e) := by simp
  by_cases h16 : 16 < s.size
  · have R := hidp (show oneE (s, l, e) = 3 by rw [OE.out, TE.out, decide_eq_true h16]; rfl)
    have h16' : (16 : Int) < (s.size : Int) := by omega
    clear h16
    go_enter Tryz.func153, Tryz.ntmps153
    go_wp2
    go_ret
    exact ⟨ret_int R.out.symm, hb⟩
  · have h16' : ¬ (16 : Int) < (s.size : Int) := by omega
    have T2 := hidp (show txtE s = hasBad s by rw [TE.out, decide_eq_false h16]; rfl)
    clear h16
    generalize hasBad s = hB at *
    cases hB with
    | true =>
      have R := hidp (show oneE (s, l, e) = 3 by rw [OE.out, T2.out]; rfl)
      go_enter Tryz.func153, Tryz.ntmps153
      go_wp2_with (go_at_call 181; refine (CF.out _).mono ?_; rintro ee w' ⟨rfl, hb1⟩; have q1 := ck hb1 c1; have q2 := ck hb1 c2; replace hb1 := bstep hb hb1; clear c0 c1 c2)
      go_ret
      exact ⟨ret_int R.out.symm, hb1⟩
    | false =>
      have O2 := hidp (show oneE (s, l, e) = if numE l e then 1 else 0 by rw [OE.out, T2.out]; rfl)
      by_cases g1 : l < 0
      · have R := hidp (show oneE (s, l, e) = 1 by rw [O2.out, NE.out, decide_eq_true (by omega)]; rfl)
        go_enter Tryz.func153, Tryz.ntmps153
        go_wp2_with (go_at_call 181; refine (CF.out _).mono ?_; rintro ee w' ⟨rfl, hb1⟩; have q1 := ck hb1 c1; have q2 := ck hb1 c2; replace hb1 := bstep hb hb1; clear c0 c1 c2)
        go_ret
        exact ⟨ret_int R.out.symm, hb1⟩
      · by_cases g2 : 20 < l
        · have R := hidp (show oneE (s, l, e) = 1 by rw [O2.out, NE.out, decide_eq_true (by omega)]; rfl)
          go_enter Tryz.func153, Tryz.ntmps153
          go_wp2_with (go_at_call 181; refine (CF.out _).mono ?_; rintro ee w' ⟨rfl, hb1⟩; have q1 := ck hb1 c1; have q2 := ck hb1 c2; replace hb1 := bstep hb hb1; clear c0 c1 c2)
          go_ret
          exact ⟨ret_int R.out.symm, hb1⟩
        · by_cases g3 : e < 1
          · have R := hidp (show oneE (s, l, e) = 1 by rw [O2.out, NE.out, decide_eq_true (by omega)]; rfl)
            go_enter Tryz.func153, Tryz.ntmps153
            go_wp2_with (go_at_call 181; refine (CF.out _).mono ?_; rintro ee w' ⟨rfl, hb1⟩; have q1 := ck hb1 c1; have q2 := ck hb1 c2; replace hb1 := bstep hb hb1; clear c0 c1 c2)
            go_ret
            exact ⟨ret_int R.out.symm, hb1⟩
          · by_cases g4 : 1000000000000 < e
            · have R := hidp (show oneE (s, l, e) = 1 by rw [O2.out, NE.out, decide_eq_true (by omega)]; rfl)
              go_enter Tryz.func153, Tryz.ntmps153
              go_wp2_with (go_at_call 181; refine (CF.out _).mono ?_; rintro ee w' ⟨rfl, hb1⟩; have q1 := ck hb1 c1; have q2 := ck hb1 c2; replace hb1 := bstep hb hb1; clear c0 c1 c2)
              go_ret
              exact ⟨ret_int R.out.symm, hb1⟩
            · have R := hidp (show oneE (s, l, e) = 0 by rw [O2.out, NE.out, decide_eq_false (by omega)]; rfl)
              go_enter Tryz.func153, Tryz.ntmps153
              go_wp2_with (go_at_call 181; refine (CF.out _).mono ?_; rintro ee w' ⟨rfl, hb1⟩; have q1 := ck hb1 c1; have q2 := ck hb1 c2; replace hb1 := bstep hb hb1; clear c0 c1 c2)
              go_ret
              exact ⟨ret_int R.out.symm, hb1⟩
end Go.Proofs.YtgodgfnfaiiohaaGreatDoor

/- Contracts of package board: newer, find (slices.BinarySearchFunc at rules). -/
namespace Go.Proofs.YtgodgfnfaiiohaaGreatDoor
open Go.ChangeShapes Go.WideShapes Go.ChangeAt Go.RowKit Go.Lib
set_option maxRecDepth 20000
/-- Does a rule win over another one? -/
theorem newer_c (s1 s2 : ByteArray) (l1 e1 l2 e2 : Int) (w : World) :
    Calls Tryz.prog 156 #[.agg #[.string s1, .int .i64 l1, .int .i64 e1], .agg #[.string s2, .int .i64 l2, .int .i64 e2]] w fun ee w' => ee = .returned (.bool (newer (l1, e1) (l2, e2))) ∧ Below w.heap.size w w' := by
  have NW := hidp (show newer (l1, e1) (l2, e2) = (decide (e2 < e1) || (decide (e1 = e2) && decide (l2 < l1))) from rfl)
  have hb : Below w.heap.size w ((w.alloc (.cells #[.string s1, .int .i64 l1, .int .i64 e1] 146)).alloc (.cells #[.string s2, .int .i64 l2, .int .i64 e2] 146)) := bal (bal (Below.refl _ _) _) _
  by_cases g1 : e2 < e1
  · have R := hidp (show newer (l1, e1) (l2, e2) = true by rw [NW.out, decide_eq_true g1]; rfl)
    go_enter Tryz.func156, Tryz.ntmps156
    go_wp2
    go_ret
    exact ⟨ret_bool R.out.symm, hb⟩
  · by_cases g2 : e1 = e2
    · subst g2
      by_cases g3 : l2 < l1
      · have R := hidp (show newer (l1, e1) (l2, e1) = true by rw [NW.out, decide_eq_true g3]; simp)
        go_enter Tryz.func156, Tryz.ntmps156
        go_wp2
        go_ret
        exact ⟨ret_bool R.out.symm, hb⟩
      · have R := hidp (show newer (l1, e1) (l2, e1) = false by rw [NW.out, decide_eq_false g3, decide_eq_false g1]; simp)
        go_enter Tryz.func156, Tryz.ntmps156
        go_wp2
        go_ret
        exact ⟨ret_bool R.out.symm, hb⟩
    · have R := hidp (show newer (l1, e1) (l2, e2) = false by rw [NW.out, decide_eq_false g1, decide_eq_false g2]; rfl)
      go_enter Tryz.func156, Tryz.ntmps156
      go_wp2
      go_ret
      exact ⟨ret_bool R.out.symm, hb⟩
theorem zfindf_c (s : ByteArray) (l e : Int) (p : ByteArray) (w : World) :
    Calls Tryz.prog 184 #[.agg #[.string s, .int .i64 l, .int .i64 e], .string p] w fun ee w' => ee = .returned (.int .i64 (scmp s p)) ∧ Below w.heap.size w w' := by
  have hb : Below w.heap.size w (w.alloc (.cells #[.string s, .int .i64 l, .int .i64 e] 146)) := bal (Below.refl _ _) _
  have CC := hidp (fun W => show Calls Tryz.prog 185 #[.string s, .string p] W fun ee w' => ee = .returned (.int .i64 (scmp s p)) ∧ w' = W from (Tryz.strings_Compare s p W).mono (fun ee w' h => ⟨by rw [h.1, scmp_eq], h.2⟩))
  go_enter Tryz.func184, Tryz.ntmps184
  go_wp2_with (go_at_call 185; refine (CC.out _).mono ?_; rintro ee w' ⟨rfl, rfl⟩)
  go_ret
  exact ⟨rfl, hb⟩
theorem rp_rise (L : List Rl) (h : Srt L) (i j : Nat) (hij : i ≤ j) (hj : j < L.length) : rp L i = rp L j ∨ slt (rp L i) (rp L j) = true := by
  rcases Nat.eq_or_lt_of_le hij with e | e
  · rw [e]; exact .inl rfl
  · have := List.pairwise_iff_getElem.1 h i j (by omega) hj e
    have e1 : rp L i = L[i].1 := by unfold rp; rw [List.getD_eq_getElem?_getD, List.getElem?_eq_getElem (by omega)]; rfl
    have e2 : rp L j = L[j].1 := by unfold rp; rw [List.getD_eq_getElem?_getD, List.getElem?_eq_getElem hj]; rfl
    rw [e1, e2]; exact .inr this
theorem scmp_lt {a b : ByteArray} (h : slt a b = true) : scmp a b = -1 := by unfold scmp; rw [if_pos h]
theorem scmp_ge {a b : ByteArray} (h : slt a b = false) : 0 ≤ scmp a b := by
  unfold scmp; rw [h, if_neg (by simp)]; split <;> omega
theorem scmp_0 {a b : ByteArray} : scmp a b = 0 ↔ a = b := by
  unfold scmp
  constructor
  · intro h
    rcases slt_tri a b with e | e | e
    · rw [if_pos e] at h; omega
    · rw [slt_asym e, if_neg (by simp), if_pos e] at h; omega
    · exact e
  · intro h; rw [h, slt_irr, if_neg (by simp), if_neg (by simp)]
set_option maxHeartbeats 4000000 in
theorem zbsf_c (a : Option Addr) (n c : Nat) (L : List Rl) (k : ByteArray) (w : World) (h : RulesAt w a n c L) (hr : Srt L) (hn : n ≤ 1000) :
    Calls Tryz.prog 183 #[.slice a n c, .string k, .func (.func 184) #[] #[]] w fun e w' => e = .returned (.tuple #[.int .i64 (fpos L k : Nat), .bool (fhas L k)]) ∧ Below w.heap.size w w' := by
  obtain ⟨b, o, hz, hx⟩ := h.split
  have hz' : Hid (n = 0) ∨ a = some ⟨b, o, none⟩ := hz.imp_left hidp
  have HX := hidp hx
  have mm := h.max
  have ee := h.le
  have LN := hidp h.len
  have RI := hidp (fun i j (hij : i ≤ j) (hj : j < n) => rp_rise L hr i j hij (by rw [LN.out]; exact hj))
  have FF := hidp (fun y l e W => zfindf_c y l e k W)
  clear hx hz h hr
  go_enter Tryz.func183, Tryz.ntmps183
  go_wp2
  go_loopg [9, 10] n (fun gg s9 s10 wr => ∃ lo hi : Nat, s9 = .int .i64 lo ∧ s10 = .int .i64 hi ∧ lo ≤ hi ∧ hi ≤ n ∧ hi - lo ≤ gg ∧ Below w.heap.size w wr ∧ Hid ((∀ t, t < lo → slt (rp L t) k = true) ∧ (∀ t, hi ≤ t → t < n → slt (rp L t) k = false)))
  case atStart => exact ⟨0, n, rfl, rfl, Nat.zero_le _, Nat.le_refl _, by omega, Below.refl _ _, hidp ⟨fun t ht => absurd ht (Nat.not_lt_zero _), fun t h1 h2 => by omega⟩⟩
  case round =>
    obtain ⟨lo, hi, rfl, rfl, hlh, hin, hg, hbl, I⟩ := hrel
    by_cases hlt : lo < hi
    · obtain rfl : a = some ⟨b, o, none⟩ := hz'.resolve_left (fun e => by have := e.out; omega)
      obtain ⟨hbs, hc1, hc2, hc3⟩ := HX.out ((lo + hi) / 2) (by omega)
      have q0 := carry_cell ⟨hbs, hc1⟩ hbl
      have q1 := carry_cell ⟨hbs, hc2⟩ hbl
      have q2 := carry_cell ⟨hbs, hc3⟩ hbl
      clear hc1 hc2 hc3
      obtain ⟨y, hy⟩ : ∃ y, y = rp L ((lo + hi) / 2) := ⟨_, rfl⟩
      rw [← hy] at q0
      have HY := hidp hy
      clear hy
      generalize rl L ((lo + hi) / 2) = nu at *
      generalize re L ((lo + hi) / 2) = ne at *
      have hc := FF.out y nu ne wr
      cases hyx : slt y k with
      | true =>
        rw [scmp_lt hyx] at hc
        have HX2 := hidp hyx
        have HC := hidp hc
        clear hc hyx
        go_wp2_with fail
        refine HC.out.mono ?_
        rintro e w' ⟨rfl, hb1⟩
        go_wp2
        go_roundg (hi - ((lo + hi) / 2 + 1))
        case measure => omega
        case rel =>
          refine ⟨(lo + hi) / 2 + 1, hi, by rw [show ((lo : Int) + (hi : Int)) / 2 + 1 = (((lo + hi) / 2 + 1 : Nat) : Int) by omega], rfl, by omega, hin, Nat.le_refl _, bstep hbl hb1, hidp ⟨fun t ht => ?_, I.out.2⟩⟩
          have h2 := HX2.out
          rw [HY.out] at h2
          rcases RI.out t ((lo + hi) / 2) (by omega) (by omega) with e1 | e1
          · rw [e1]; exact h2
          · exact slt_trans e1 h2
      | false =>
        have hc' : Calls Tryz.prog 184 #[.agg #[.string y, .int .i64 nu, .int .i64 ne], .string k] wr fun e w' => (∃ r : Int, 0 ≤ r ∧ e = .returned (.int .i64 r)) ∧ Below wr.heap.size wr w' := by
          refine hc.mono ?_
          rintro e w' ⟨rfl, hb⟩
          exact ⟨⟨_, scmp_ge hyx, rfl⟩, hb⟩
        have HX2 := hidp hyx
        have HC := hidp hc'
        clear hc hc' hyx
        go_wp2_with fail
        refine HC.out.mono ?_
        rintro e w' ⟨⟨r, hr0, rfl⟩, hb1⟩
        go_wp2
        go_roundg ((lo + hi) / 2 - lo)
        case measure => omega
        case rel =>
          refine ⟨lo, (lo + hi) / 2, rfl, by rw [show ((lo : Int) + (hi : Int)) / 2 = (((lo + hi) / 2 : Nat) : Int) by omega], by omega, by omega, Nat.le_refl _, bstep hbl hb1, hidp ⟨I.out.1, fun t ht htn => ?_⟩⟩
          have h2 := HX2.out
          rw [HY.out] at h2
          rcases RI.out ((lo + hi) / 2) t ht htn with e1 | e1
          · rw [← e1]; exact h2
          · cases h3 : slt (rp L t) k
            · rfl
            · have := slt_trans e1 h3; rw [h2] at this; cases this
    · obtain rfl : hi = lo := by omega
      have hkp := fpos_of k L hi (by rw [LN.out]; exact hin) I.out.1 (fun t h3 h4 => I.out.2 t h3 (by rw [← LN.out]; exact h4))
      have hkh : fhas L k = (decide (hi < n) && decide (rp L hi = k)) := by unfold fhas; rw [hkp, LN.out]; rfl
      replace hkp := hidp hkp
      replace hkh := hidp hkh
      have I2 := hidp (I.out.2 hi (Nat.le_refl _))
      clear I
      by_cases hn' : hi < n
      · obtain rfl : a = some ⟨b, o, none⟩ := hz'.resolve_left (fun e => by have := e.out; omega)
        obtain ⟨hbs, hc1, hc2, hc3⟩ := HX.out hi hn'
        have q0 := carry_cell ⟨hbs, hc1⟩ hbl
        have q1 := carry_cell ⟨hbs, hc2⟩ hbl
        have q2 := carry_cell ⟨hbs, hc3⟩ hbl
        clear hc1 hc2 hc3
        generalize rp L hi = y at *
        generalize rl L hi = nu at *
        generalize re L hi = ne at *
        have hc := FF.out y nu ne wr
        by_cases hyx : y = k
        · rw [scmp_0.2 hyx] at hc
          have HC := hidp hc
          have KH := hidp (show fhas L k = true by rw [hkh.out, decide_eq_true hn', decide_eq_true hyx]; rfl)
          clear hc hyx
          go_wp2_with fail
          refine HC.out.mono ?_
          rintro e w' ⟨rfl, hb1⟩
          go_wp2
          go_ret2
          exact ⟨by rw [hkp.out, KH.out]; rfl, bstep hbl hb1⟩
        · have hc' : Calls Tryz.prog 184 #[.agg #[.string y, .int .i64 nu, .int .i64 ne], .string k] wr fun e w' => (∃ r : Int, r ≠ 0 ∧ e = .returned (.int .i64 r)) ∧ Below wr.heap.size wr w' := by
            refine hc.mono ?_
            rintro e w' ⟨rfl, hb⟩
            exact ⟨⟨_, fun e0 => hyx (scmp_0.1 e0), rfl⟩, hb⟩
          have HC := hidp hc'
          have KH := hidp (show fhas L k = false by rw [hkh.out, decide_eq_false hyx]; simp)
          clear hc hc' hyx
          go_wp2_with fail
          refine HC.out.mono ?_
          rintro e w' ⟨⟨r, hr0, rfl⟩, hb1⟩
          have hr1 : (r == 0) = false := beq_eq_false_iff_ne.2 hr0
          go_wp2
          go_ret2
          exact ⟨by rw [hkp.out, KH.out]; rfl, bstep hbl hb1⟩
      · have KH := hidp (show fhas L k = false by rw [hkh.out, decide_eq_false hn']; simp)
        go_wp2
        go_ret2
        exact ⟨by rw [hkp.out, KH.out]; rfl, hbl⟩
theorem zfind_c (a : Option Addr) (n c : Nat) (L : List Rl) (k : ByteArray) (w : World) (h : RulesAt w a n c L) (hr : Srt L) (hn : n ≤ 1000) :
    Calls Tryz.prog 155 #[.slice a n c, .string k] w fun e w' => e = .returned (.tuple #[.int .i64 (fpos L k : Nat), .bool (fhas L k)]) ∧ Below w.heap.size w w' := by
  have HC := hidp (zbsf_c a n c L k w h hr hn)
  clear h hr
  go_enter Tryz.func155, Tryz.ntmps155
  go_wp2_with fail
  refine HC.out.mono ?_
  rintro e w' ⟨rfl, hb⟩
  go_wp2_with fail
  go_ret2
  exact ⟨rfl, hb⟩
end Go.Proofs.YtgodgfnfaiiohaaGreatDoor

/- Contract of board.Check at boards that may be. -/
namespace Go.Proofs.YtgodgfnfaiiohaaGreatDoor
open Go.ChangeShapes Go.WideShapes Go.ChangeAt Go.RowKit Go.Lib
set_option maxRecDepth 20000
/-- A board that may be. -/
structure BdOk (L : List Rl) : Prop where
  srt : Srt L
  len : L.length ≤ 16
  one : ∀ r ∈ L, oneE r = 0
set_option maxHeartbeats 4000000 in
theorem bdcheck_c (a : Option Addr) (n c : Nat) (L : List Rl) (w : World) (h : RulesAt w a n c L) (ho : BdOk L) :
    Calls Tryz.prog 152 #[.slice a n c] w fun e w' => e = .returned (.int .i64 0) ∧ Below w.heap.size w w' := by
  have mm := h.max
  have ee := h.le
  have hn : n ≤ 16 := by have := ho.len; rw [h.len] at this; exact this
  have h16 : ¬ (16 : Int) < (n : Int) := by omega
  obtain ⟨b, o, hz, hx⟩ := h.split
  have hz' : Hid (n = 0) ∨ a = some ⟨b, o, none⟩ := hz.imp_left hidp
  have HX := hidp hx
  have ON := hidp (fun k (hk : k < n) => show oneE (rp L k, rl L k, re L k) = 0 from ho.one _ (rmem L k (by rw [h.len]; exact hk)))
  have LT := hidp (fun k (hk : k + 1 < n) => show Op.bytesLess (rp L k).toList (rp L (k + 1)).toList = true from by
    have h1 := h.len
    have := List.pairwise_iff_getElem.1 ho.srt k (k + 1) (by omega) (by omega) (by omega)
    have e1 : rp L k = L[k].1 := by unfold rp; rw [List.getD_eq_getElem?_getD, List.getElem?_eq_getElem (by omega)]; rfl
    have e2 : rp L (k + 1) = L[k + 1].1 := by unfold rp; rw [List.getD_eq_getElem?_getD, List.getElem?_eq_getElem (by omega)]; rfl
    rw [e1, e2]; exact this)
  have OC := hidp one_c
  clear h hz hx ho
  go_enter Tryz.func152, Tryz.ntmps152
  go_wp2_with fail
  go_loopg [11] n (fun gg i wr => ∃ k : Nat, k ≤ n ∧ n - k ≤ gg ∧ i = .int .i64 k ∧ Below w.heap.size w wr)
  case atStart => exact ⟨0, by omega, by omega, rfl, Below.refl _ _⟩
  case round =>
    obtain ⟨k, hk, hgg, rfl, hbl⟩ := hrel
    by_cases hlt : k < n
    · obtain rfl : a = some ⟨b, o, none⟩ := hz'.resolve_left (fun e => by have := e.out; omega)
      obtain ⟨hbs, x0, x1, x2⟩ := HX.out k hlt
      have q0 := carry_cell ⟨hbs, x0⟩ hbl
      have q1 := carry_cell ⟨hbs, x1⟩ hbl
      have q2 := carry_cell ⟨hbs, x2⟩ hbl
      have O1 := hidp (ON.out k hlt)
      have K1 := hidp (OC.out (rp L k) (rl L k) (re L k))
      rw [O1.out] at K1
      clear x0 x1 x2
      rcases Nat.eq_zero_or_pos k with rfl | hpos
      · simp only [Nat.zero_mul, Nat.add_zero] at q0 q1 q2
        generalize rp L 0 = s at *
        generalize rl L 0 = l at *
        generalize re L 0 = e at *
        have hb2 : Below w.heap.size w (wr.alloc (.cells #[.string s, .int .i64 l, .int .i64 e] 146)) := bal hbl _
        have r0 : (wr.alloc (.cells #[.string s, .int .i64 l, .int .i64 e] 146)).cell? ⟨wr.heap.size, 0, none⟩ = some (.string s) := by simp
        go_wp2_with fail
        refine (K1.out _).mono ?_
        rintro ee w' ⟨rfl, hb1⟩
        have hb3 := bstep hb2 hb1
        have r2 := ck hb1 r0
        clear hb1 hb2 r0
        go_wp2_with fail
        go_quiet (fail)
        go_wp2_with fail
        go_roundg (n - 1)
        case measure => omega
        case rel => exact ⟨1, by omega, by omega, by go_num, below_drewN hb3 _⟩
      · obtain ⟨j, rfl⟩ : ∃ j, k = j + 1 := ⟨k - 1, by omega⟩
        obtain ⟨_, x0, _, _⟩ := HX.out j (by omega)
        have p0 := carry_cell ⟨hbs, x0⟩ hbl
        have L1 := hidp (LT.out j hlt)
        clear x0
        generalize rp L (j + 1) = s at *
        generalize rl L (j + 1) = l at *
        generalize re L (j + 1) = e at *
        generalize rp L j = s0 at *
        have hb2 : Below w.heap.size w (wr.alloc (.cells #[.string s, .int .i64 l, .int .i64 e] 146)) := bal hbl _
        have p1 := ca p0 (.cells #[.string s, .int .i64 l, .int .i64 e] 146)
        have r0 : (wr.alloc (.cells #[.string s, .int .i64 l, .int .i64 e] 146)).cell? ⟨wr.heap.size, 0, none⟩ = some (.string s) := by simp
        go_wp2_with fail
        refine (K1.out _).mono ?_
        rintro ee w' ⟨rfl, hb1⟩
        have hb3 := bstep hb2 hb1
        have p2 := ck hb1 p1
        have r2 := ck hb1 r0
        have hj : (0 : Int) < (j : Int) + 1 := by omega
        have L2 := L1.out
        clear hb1 hb2 p0 p1 r0 q0 q1 q2
        go_wp2_with fail
        go_quiet (fail)
        go_wp2_with fail
        go_roundg (n - (j + 2))
        case measure => omega
        case rel => exact ⟨j + 2, by omega, by omega, by go_num, below_drewN hb3 _⟩
    · go_wp2_with fail
      go_ret
      exact ⟨rfl, hbl⟩
end Go.Proofs.YtgodgfnfaiiohaaGreatDoor
