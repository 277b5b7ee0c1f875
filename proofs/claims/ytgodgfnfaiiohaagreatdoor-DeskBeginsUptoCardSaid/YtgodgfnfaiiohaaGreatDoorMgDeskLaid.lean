/- Merged: BoardLaw, DeskGood, DeskRun, DeskPlain, DeskScan, DeskLinesC, DeskAfter, DeskLit, DeskLinesW, DeskLaid. -/
import Derived.Test.YtgodgfnfaiiohaaGreatDoorMgBoardPut
import Derived.Test.YtgodgfnfaiiohaaGreatDoorMgDeskRunDef
import Derived.Lib.SmallJoins
import Derived.Test.YtgodgfnfaiiohaaGreatDoorWordsMath
import Derived.Test.YtgodgfnfaiiohaaGreatDoorCards
import Derived.Test.YtgodgfnfaiiohaaGreatDoorTie
import Derived.WalkKit
import Derived.ProofKit
import Derived.OpenShut
import Derived.ShutString
import Derived.ChangeOld
import Derived.Below
import Derived.Deep.DeepHandedRow
import Derived.Lib.LaidTab
import Derived.Stop.LaidErr
import Derived.MakeChecks
/- Plain: what Put makes may be; what it tells. -/
namespace Go.Proofs.YtgodgfnfaiiohaaGreatDoor
set_option maxRecDepth 20000
theorem bput_ok (L : List Rl) (r : Rl) (h : BdOk L) (h1 : oneE r = 0) (hl : (bput L r).length ≤ 16) : BdOk (bput L r) :=
  ⟨bput_srt r L h.srt, hl, fun q hq => by
    rcases bput_mem r L q hq with e | e
    · rw [e]; exact h1
    · exact h.one q e⟩
theorem bput_hasLen (L : List Rl) (r : Rl) (hs : Srt L) (h : fhas L r.1 = true) : (bput L r).length = L.length := by
  rw [bput_old r L hs h]
  split
  · exact List.length_set
  · rfl
end Go.Proofs.YtgodgfnfaiiohaaGreatDoor

/- Plain: what the desk answers is good, and what it keeps may be. -/
namespace Go.Proofs.YtgodgfnfaiiohaaGreatDoor
open Go.ChangeShapes Go.WideShapes Go.ChangeAt Go.RowKit
set_option maxRecDepth 20000
set_option linter.unusedVariables false
open CombMath
/-- A text that may be an answer. -/
def GoodS (s : ByteArray) : Prop := (∃ t, s.data.toList = 111 :: 107 :: t) ∧ (10 : UInt8) ∉ s.data.toList ∧ s.size ≤ 100000
def GoodR : Res → Prop
  | .ok s => GoodS s
  | .error c => 1 ≤ c ∧ c ≤ 9
theorem dig_ne : ∀ d, d < 10 → (10 : UInt8) ≠ UInt8.ofNat (48 + d) := by decide
theorem dec_no : ∀ u, (10 : UInt8) ∉ Lib.decDigits u := by
  intro u
  induction u using Nat.strongRecOn with
  | ind u ih =>
    rw [Lib.decDigits]
    split
    · rename_i h
      intro hm
      exact dig_ne u h (List.mem_singleton.1 hm)
    · rename_i h
      intro hm
      rcases List.mem_append.1 hm with hm | hm
      · exact ih (u / 10) (by omega) hm
      · exact dig_ne (u % 10) (Nat.mod_lt _ (by omega)) (List.mem_singleton.1 hm)
theorem itoS_no (n : Int) : (10 : UInt8) ∉ (itoS n).data.toList := by
  show (10 : UInt8) ∉ Lib.itoa n
  unfold Lib.itoa
  split
  · intro hm
    rcases List.mem_cons.1 hm with h | h
    · cases h
    · exact dec_no _ h
  · exact dec_no _
theorem told_any : ∀ (l : List Int) (s : ByteArray), (∀ x ∈ l, I64 x) → (10 : UInt8) ∉ s.data.toList → (∃ t, s.data.toList = 111 :: 107 :: t) → (10 : UInt8) ∉ (l.foldl (fun s x => s ++ (⟨#[32]⟩ ++ itoS x)) s).data.toList ∧ (∃ t, (l.foldl (fun s x => s ++ (⟨#[32]⟩ ++ itoS x)) s).data.toList = 111 :: 107 :: t) ∧ (l.foldl (fun s x => s ++ (⟨#[32]⟩ ++ itoS x)) s).size ≤ s.size + 22 * l.length
  | [], s, _, h1, h2 => ⟨h1, h2, by simp⟩
  | x :: l, s, hb, h1, ⟨t, h2⟩ => by
    have hx := hb x (by simp)
    have e : (s ++ (⟨#[32]⟩ ++ itoS x)).data.toList = s.data.toList ++ (32 :: (itoS x).data.toList) := by rw [Go.Joins.data_append, Go.Joins.data_append]; rfl
    have hsz : (s ++ (⟨#[32]⟩ ++ itoS x)).size ≤ s.size + 22 := by
      have := itoS_size x hx.1 hx.2
      have e1 : (⟨#[32]⟩ ++ itoS x : ByteArray).size = 1 + (itoS x).size := by simp [ByteArray.size_append]; rfl
      rw [ByteArray.size_append, e1]; omega
    obtain ⟨g1, g2, g3⟩ := told_any l (s ++ (⟨#[32]⟩ ++ itoS x)) (fun y hy => hb y (by simp [hy])) (by
      rw [e]
      intro hm
      rcases List.mem_append.1 hm with hm | hm
      · exact h1 hm
      · rcases List.mem_cons.1 hm with h | h
        · cases h
        · exact itoS_no x h) ⟨t ++ (32 :: (itoS x).data.toList), by rw [e, h2]; rfl⟩
    refine ⟨g1, g2, ?_⟩
    simp only [List.foldl_cons, List.length_cons] at g3 ⊢
    omega
theorem told_good (l : List Int) (hl : l.length ≤ 4000) (hb : ∀ x ∈ l, I64 x) : GoodS (toldS l) := by
  obtain ⟨h1, h2, h3⟩ := told_any l ⟨#[111, 107]⟩ hb (by decide) ⟨[], rfl⟩
  refine ⟨h2, h1, ?_⟩
  have e : (⟨#[111, 107]⟩ : ByteArray).size = 2 := rfl
  unfold toldS
  omega
theorem one_good {V E : Int} (h0 : E = 0 → I64 V) (h1 : 0 ≤ E ∧ E ≤ 9) : GoodR (oneR V E) := by
  unfold oneR
  split
  · rename_i h
    exact told_good [V] (by simp) (fun x hx => by simp at hx; subst hx; exact h0 h)
  · show 1 ≤ E ∧ E ≤ 9
    omega
theorem many_good {l : List Int} {E : Int} (h0 : E = 0 → l.length ≤ 4000 ∧ ∀ x ∈ l, I64 x) (h1 : 0 ≤ E ∧ E ≤ 9) : GoodR (manyR l E) := by
  unfold manyR
  split
  · rename_i h
    exact told_good l (h0 h).1 (h0 h).2
  · show 1 ≤ E ∧ E ≤ 9
    omega
theorem text_good {s : ByteArray} {E : Int} (h0 : E = 0 → (10 : UInt8) ∉ s.data.toList ∧ s.size ≤ 1000) (h1 : 0 ≤ E ∧ E ≤ 9) : GoodR (textR s E) := by
  unfold textR
  split
  · rename_i h
    obtain ⟨g1, g2⟩ := h0 h
    have e : (⟨#[111, 107, 32]⟩ ++ s : ByteArray).data.toList = 111 :: 107 :: 32 :: s.data.toList := by rw [Go.Joins.data_append]; rfl
    refine ⟨⟨_, e⟩, ?_, ?_⟩
    · rw [e]
      intro hm
      simp at hm
      exact g1 (by simpa using hm)
    · have : (⟨#[111, 107, 32]⟩ ++ s : ByteArray).size = 3 + s.size := by simp [ByteArray.size_append]; rfl
      rw [this]; omega
  · show 1 ≤ E ∧ E ≤ 9
    omega
theorem fE_bd (f : Nat → Int) (h : ∀ i, 0 ≤ f i ∧ f i ≤ 9) : ∀ n, 0 ≤ fE f n ∧ fE f n ≤ 9
  | 0 => by simp [fE]
  | n + 1 => by
    simp only [fE]
    split
    · exact h n
    · exact fE_bd f h n
theorem dkE_bd (xs : List Int) (n : Nat) : 0 ≤ dkE xs n ∧ dkE xs n ≤ 9 := by
  unfold dkE
  split
  · omega
  · exact fE_bd _ (fun i => by unfold dkF; split <;> (try split) <;> omega) n
theorem ckE_bd (xs : List Int) (n : Nat) : 0 ≤ ckE xs n ∧ ckE xs n ≤ 9 := by
  unfold ckE
  split
  · omega
  · exact fE_bd _ (fun i => by unfold ckF; split <;> (try split) <;> omega) n
theorem wtsE_9 (xs : List Int) (n : Nat) : 0 ≤ wtsE xs n ∧ wtsE xs n ≤ 9 := by
  unfold wtsE
  split
  · omega
  · split
    · split <;> omega
    · omega
theorem wantE_9 (xs : List Int) (n : Nat) : 0 ≤ wantE xs n ∧ wantE xs n ≤ 9 := by
  unfold wantE
  split
  · omega
  · split <;> omega
theorem frE_9 (xs : List Int) (n : Nat) (p : Int) : 0 ≤ qfrE xs n p ∧ qfrE xs n p ≤ 9 := by
  have := wantE_9 xs n
  unfold qfrE
  split
  · split <;> omega
  · exact this
theorem leE_9 (xs : List Int) (n : Nat) (p : Int) : 0 ≤ qleE xs n p ∧ qleE xs n p ≤ 9 := by
  have := frE_9 xs n p
  unfold qleE lvB
  split
  · split <;> omega
  · exact this
theorem piE_9 (xs : List Int) (n : Nat) (p : Int) : 0 ≤ qpiE xs n p ∧ qpiE xs n p ≤ 9 := by
  have := wtsE_9 xs n
  unfold qpiE
  split
  · split <;> omega
  · exact this
theorem evE_9 (xs : List Int) (n : Nat) (k s : Int) : 0 ≤ evE xs n k s ∧ evE xs n k s ≤ 9 := by
  have := wtsE_9 xs n
  unfold evE
  split
  · split <;> omega
  · exact this
theorem lkE_9 (x y : List Int) (n m : Nat) : 0 ≤ lkE x y n m ∧ lkE x y n m ≤ 9 := by
  unfold lkE
  split
  · omega
  · split
    · omega
    · exact fE_bd _ (fun i => by unfold lkF; split <;> omega) n
theorem sumE_9 (x y z : List Int) (n m k : Nat) : 0 ≤ sumE x y z n m k ∧ sumE x y z n m k ≤ 9 := by
  have := lkE_9 x y n m
  unfold sumE
  split
  · split
    · exact fE_bd _ (fun i => by unfold rdF; split <;> omega) n
    · omega
  · exact this
theorem chkF_9 (L : List (ByteArray × ByteArray)) : ∀ n, 0 ≤ chkF L n ∧ chkF L n ≤ 9
  | 0 => by simp [chkF]
  | n + 1 => by
    have := chkF_9 L n
    simp only [chkF]
    split
    · unfold chk1
      split
      · split <;> omega
      · omega
    · exact this
theorem chkE_9 (L : List (ByteArray × ByteArray)) : 0 ≤ chkE L ∧ chkE L ≤ 9 := by
  unfold chkE
  split
  · omega
  · exact chkF_9 L _
theorem rE_9 (s : ByteArray) : 0 ≤ rE s ∧ rE s ≤ 9 := by
  have := chkE_9 (rL s)
  unfold rE
  split
  · omega
  · split
    · omega
    · split
      · exact this
      · omega
theorem mErr_9 (L : List (ByteArray × ByteArray)) : 0 ≤ mErr L ∧ mErr L ≤ 9 := by
  have := chkE_9 L
  unfold mErr
  split
  · rcases mkE_all L L.length with ⟨h, _⟩ | ⟨h, _⟩ <;> omega
  · exact this
theorem setE_9 (L : List (ByteArray × ByteArray)) (th rv : Int) (ht hr : Bool) : 0 ≤ setE L th rv ht hr ∧ setE L th rv ht hr ≤ 9 := by
  have := chkE_9 L
  unfold setE
  split
  · split
    · split <;> omega
    · omega
  · exact this
theorem wE_9 (L : List (ByteArray × ByteArray)) : 0 ≤ wE L ∧ wE L ≤ 9 := by
  have := chkE_9 L
  unfold wE
  split
  · split <;> omega
  · exact this
theorem zbyt_mem {s : ByteArray} {c : UInt8} (h : c ∈ s.data.toList) : ∃ i, i < s.size ∧ byt s i = c.toNat := by
  obtain ⟨i, hi, e⟩ := List.mem_iff_getElem.1 h
  refine ⟨i, by rw [Array.length_toList] at hi; exact hi, ?_⟩
  unfold byt
  rw [List.getD_eq_getElem?_getD, List.getElem?_eq_getElem hi, e]; rfl
theorem zkey_no {s : ByteArray} (h : keyB s = true) (c : UInt8) (hc : kcOk c.toNat = false) : c ∉ s.data.toList := fun hm => by
  obtain ⟨i, hi, e⟩ := zbyt_mem hm
  unfold keyB at h
  rw [Bool.and_eq_true] at h
  have := kPre_at s s.size i hi h.2
  rw [e, hc] at this; cases this
theorem zval_no {s : ByteArray} (h : valB s = true) (c : UInt8) (hc : vcOk c.toNat = false) : c ∉ s.data.toList := fun hm => by
  obtain ⟨i, hi, e⟩ := zbyt_mem hm
  unfold valB at h
  rw [Bool.and_eq_true] at h
  have := vPre_at s s.size i hi h.2
  rw [e, hc] at this; cases this
theorem mem_inter {sep : List UInt8} {c : UInt8} : ∀ (l : List (List UInt8)), c ∈ sep.intercalate l → c ∈ sep ∨ ∃ x ∈ l, c ∈ x
  | [], h => by simp [List.intercalate] at h
  | [x], h => by simp [List.intercalate] at h; exact .inr ⟨x, by simp, h⟩
  | x :: y :: l, h => by
    have e : sep.intercalate (x :: y :: l) = x ++ sep ++ sep.intercalate (y :: l) := by simp [List.intercalate, List.intersperse]
    rw [e] at h
    rcases List.mem_append.1 h with h | h
    · rcases List.mem_append.1 h with h | h
      · exact .inr ⟨x, by simp, h⟩
      · exact .inl h
    · rcases mem_inter (y :: l) h with h | ⟨z, hz, h⟩
      · exact .inl h
      · exact .inr ⟨z, List.mem_cons_of_mem _ hz, h⟩
theorem wT_no (L : List (ByteArray × ByteArray)) (h : wE L = 0) : (10 : UInt8) ∉ (wT L).data.toList ∧ (wT L).size ≤ 1000 := by
  have hc : chkE L = 0 := Classical.byContradiction fun hh => hh (by unfold wE at h; rw [if_neg hh] at h; exact h)
  have h2 : ¬ 200 < (txt L).size := fun hh => by unfold wE at h; rw [if_pos hc, if_pos hh] at h; cases h
  have e : wT L = txt L := by unfold wT; rw [if_pos h]
  rw [e]
  refine ⟨fun hm => ?_, by omega⟩
  have hm2 : (10 : UInt8) ∈ ([44] : List UInt8).intercalate (L.map wdL) := hm
  rcases mem_inter _ hm2 with h3 | ⟨x, hx, h3⟩
  · simp at h3
  · obtain ⟨p, hp, rfl⟩ := List.mem_map.1 hx
    obtain ⟨k1, k2⟩ := ((chkE_zero L).1 hc).2.1 p hp
    unfold wdL at h3
    rcases List.mem_append.1 h3 with h3 | h3
    · exact zkey_no k1 10 (by decide) h3
    · rcases List.mem_cons.1 h3 with h3 | h3
      · cases h3
      · exact zval_no k2 10 (by decide) h3
theorem hc_no : ∀ d, d < 16 → (10 : UInt8) ≠ hc d := by decide
theorem thS_no (n : Int) : (10 : UInt8) ∉ (qthS n).data.toList := by
  unfold qthS
  split
  · unfold thTxt hexB
    intro hm
    obtain ⟨j, hj, e⟩ := tab_mem _ _ _ (by simpa using hm)
    exact hc_no (hn n.toNat j) (Nat.mod_lt _ (by omega)) e
  · decide
theorem mark_good (s : ByteArray) : GoodR (markR s) := by
  unfold markR
  split
  · split
    · split
      · exact text_good (fun h => wT_no _ h) (wE_9 _)
      · show 1 ≤ _ ∧ _ ≤ 9
        have := setE_9 (rL s) (mTh (rL s)) (mRv (rL s)) (mHT (rL s)) (mHR (rL s))
        omega
    · show 1 ≤ _ ∧ _ ≤ 9
      have := mErr_9 (rL s)
      omega
  · show 1 ≤ _ ∧ _ ≤ 9
    have := rE_9 s
    omega
theorem wk_inv (A : Int) (W : Nat → Int) (n : Nat) (hW : ∀ i, i < n → 0 ≤ W i) (hs : Wk.sumT W n = n * A) : ∀ m, Wk.Inv n A W (wkI A m ⟨fun _ => A, W, fun i => i, Wk.loF A W n, Wk.hiF A W n⟩).own (wkI A m ⟨fun _ => A, W, fun i => i, Wk.loF A W n, Wk.hiF A W n⟩).left (wkI A m ⟨fun _ => A, W, fun i => i, Wk.loF A W n, Wk.hiF A W n⟩).rest (wkI A m ⟨fun _ => A, W, fun i => i, Wk.loF A W n, Wk.hiF A W n⟩).low (wkI A m ⟨fun _ => A, W, fun i => i, Wk.loF A W n, Wk.hiF A W n⟩).high
  | 0 => Wk.Inv.init n A W hW hs
  | m + 1 => by
    have ih := wk_inv A W n hW hs m
    show Wk.Inv n A W (wkStep A (wkI A m _)).own (wkStep A (wkI A m _)).left (wkStep A (wkI A m _)).rest (wkStep A (wkI A m _)).low (wkStep A (wkI A m _)).high
    generalize wkI A m ⟨fun _ => A, W, fun i => i, Wk.loF A W n, Wk.hiF A W n⟩ = S at *
    obtain ⟨own, left, rest, L, H⟩ := S
    simp only at ih
    by_cases hL : L = []
    · subst hL
      exact ih
    · have hH := ih.high_ne hL
      obtain ⟨L', i, rfl⟩ : ∃ L' i, L = L' ++ [i] := ⟨L.dropLast, L.getLast hL, (List.dropLast_concat_getLast hL).symm⟩
      obtain ⟨H', q, rfl⟩ : ∃ H' q, H = H' ++ [q] := ⟨H.dropLast, H.getLast hH, (List.dropLast_concat_getLast hH).symm⟩
      rw [wkStep_two]
      split
      · rename_i hv
        exact ih.step.1 hv
      · rename_i hv
        exact ih.step.2 hv
theorem alias_bd (l : List Int) (h : wtsE l l.length = 0) : (aliasL l).length ≤ 4000 ∧ ∀ x ∈ aliasL l, I64 x := by
  obtain ⟨k1, k2, k3⟩ := wtsE_zero l l.length h
  obtain ⟨s1, s2⟩ := sumK_ok l l.length k2
  have ih := wk_inv (sumK l l.length) (ws l l.length) l.length (fun i hi => (prod_bd (gi l i) l.length k1 (okN_at l l.length k2 i hi).1 (okN_at l l.length k2 i hi).2).1) (by rw [sumT_ws]) l.length
  have own : ∀ i, i < l.length → 0 ≤ (wkEnd (sumK l l.length) (ws l l.length) l.length).own i ∧ (wkEnd (sumK l l.length) (ws l l.length) l.length).own i ≤ sumK l l.length ∧ (wkEnd (sumK l l.length) (ws l l.length) l.length).rest i < l.length := fun i hi => by
    show 0 ≤ (wkI _ _ _).own i ∧ (wkI _ _ _).own i ≤ _ ∧ (wkI _ _ _).rest i < _
    have hle := ih.own_le i hi
    generalize wkI (sumK l l.length) l.length ⟨fun _ => sumK l l.length, ws l l.length, fun i => i, Wk.loF (sumK l l.length) (ws l l.length) l.length, Wk.hiF (sumK l l.length) (ws l l.length) l.length⟩ = S at *
    refine ⟨?_, hle, ?_⟩
    · by_cases h1 : i ∈ S.low
      · have := (ih.lo i h1).2.2.1; omega
      · by_cases h2 : i ∈ S.high
        · have := (ih.hi i h2).2.1; omega
        · exact (ih.dn i hi h1 h2).1
    · by_cases h1 : i ∈ S.low
      · have := (ih.lo i h1).2.2.2; omega
      · by_cases h2 : i ∈ S.high
        · have := (ih.hi i h2).2.2.1; omega
        · exact (ih.dn i hi h1 h2).2.2.2.1
  unfold aliasL
  refine ⟨by simp only [List.length_cons, List.length_append, tab_len]; omega, fun x hx => ?_⟩
  rcases List.mem_cons.1 hx with rfl | hx
  · unfold I64; omega
  · rcases List.mem_append.1 hx with hx | hx
    · obtain ⟨j, hj, rfl⟩ := tab_mem _ _ _ hx
      have := own j hj
      unfold I64; omega
    · obtain ⟨j, hj, rfl⟩ := tab_mem _ _ _ hx
      have := (own j hj).2.2
      unfold I64; omega
theorem putE_9 (L : List Rl) (r : Rl) : 0 ≤ putE L r ∧ putE L r ≤ 9 := by
  have h1 : 0 ≤ oneE r ∧ oneE r ≤ 9 := by unfold oneE; split <;> (try split) <;> omega
  unfold putE
  split
  · exact h1
  · split
    · split
      · omega
      · split <;> omega
    · split <;> omega
theorem zbput_le (L : List Rl) (r : Rl) (h : BdOk L) (h0 : putE L r = 0) : oneE r = 0 ∧ (bput L r).length ≤ 16 := by
  have hl := h.len
  unfold putE at h0
  by_cases h1 : oneE r = 0
  · refine ⟨h1, ?_⟩
    rw [if_neg (by rw [h1]; exact fun e => e rfl)] at h0
    cases hf : fhas L r.1 with
    | true => rw [bput_hasLen L r h.srt hf]; exact hl
    | false =>
      rw [hf] at h0
      simp only [Bool.false_eq_true, if_false] at h0
      by_cases h16 : L.length = 16
      · rw [if_pos h16] at h0; omega
      · rw [bput_new r L h.srt hf]
        simp only [List.length_append, List.length_cons, List.length_take, List.length_drop]
        have := fpos_le r.1 L
        omega
  · rw [if_pos h1] at h0; exact absurd h0 h1
theorem someF_i64 (k r j : Nat) (hj : j + 1 ≤ 30) : I64 (someF k r j) := by
  unfold someF I64
  have := (top_spec (j + 1) (rk k r (k - 1 - j)) (by omega) hj).2.1
  omega
theorem opF_good (D : DeskSt) (c : Cmd) (hD : StOk D) (hc : CmdOk c) : GoodR (opF D c).1 ∧ StOk (opF D c).2 := by
  cases c with
  | rank l =>
    refine ⟨one_good (fun h0 => ?_) (dkE_bd l _), hD⟩
    have := rkD_le l l.length (dkE_ok l _ h0).1 l.length (Nat.le_refl _)
    rw [if_pos h0]
    unfold I64; omega
  | comb l =>
    refine ⟨one_good (fun h0 => ?_) (ckE_bd l _), hD⟩
    have hok := ckE_ok l _ h0
    have h1 := rs_bd (cN l) l.length (fun i hi => by have := hok.2 i hi; unfold cN; omega)
    have h2 : 155117520 * l.length ≤ 155117520 * 30 := Nat.mul_le_mul_left _ hok.1
    rw [if_pos h0]
    unfold I64; omega
  | alias l => exact ⟨many_good (fun h0 => alias_bd l h0) (wtsE_9 l _), hD⟩
  | most l =>
    refine ⟨?_, hD⟩
    show GoodR (if qmoE l.length = 0 then (if (qmoR l l.length).2 = true then .ok (toldS [(qmoR l l.length).1]) else .error 4) else .error (qmoE l.length))
    split
    · split
      · exact told_good _ (by simp) (fun x hx => by simp at hx; subst hx; exact qmoR_bd l _ hc)
      · show 1 ≤ (4 : Int) ∧ (4 : Int) ≤ 9
        omega
    · rename_i h
      unfold qmoE at h ⊢
      split at h
      · exact absurd rfl h
      · rename_i h2
        rw [if_neg h2]
        show 1 ≤ (2 : Int) ∧ (2 : Int) ≤ 9
        omega
  | hash s =>
    have := mixText.ofI_bd s
    exact ⟨one_good (fun _ => by unfold I64; omega) (by unfold mixText.ofE; split <;> omega), hD⟩
  | th n => exact ⟨text_good (fun _ => ⟨thS_no n, by have := qthS_size n; omega⟩) (by unfold qthE; split <;> omega), hD⟩
  | part x y =>
    refine ⟨one_good (fun h0 => ?_) (by unfold qpaE; split <;> omega), hD⟩
    have hp : 1 ≤ x ∧ x ≤ y ∧ y ≤ 1000000000000 := Classical.byContradiction fun hh => by
      unfold qpaE at h0; rw [if_neg hh] at h0; omega
    obtain ⟨b1, b2⟩ := cq_le x.toNat y.toNat (by omega) (by omega)
    unfold qpaV I64
    rw [if_pos h0]
    have h3 : cq x.toNat y.toNat ≤ 72057594037927936 := by
      unfold cq
      by_cases hr : 0 < 72057594037927936 * x.toNat % y.toNat
      · rw [if_pos hr]; exact b2 hr
      · rw [if_neg hr]; exact b1
    omega
  | count x y =>
    refine ⟨one_good (fun h0 => ?_) ?_, hD⟩
    · have h1 : qcoV x y = ((72057594037927936 * x.toNat / (72057594037927936 - y).toNat : Nat) : Int) := by unfold qcoV; rw [if_pos h0]
      have h2 : ¬ (4611686018427387904 : Int) < ((72057594037927936 * x.toNat / (72057594037927936 - y).toNat : Nat) : Int) := fun hh => by
        unfold qcoE at h0
        rw [if_pos hh] at h0
        split at h0
        · split at h0 <;> omega
        · omega
      rw [h1]
      generalize 72057594037927936 * x.toNat / (72057594037927936 - y).toNat = q at h2 ⊢
      unfold I64
      omega
    · unfold qcoE
      split
      · split
        · omega
        · split <;> omega
      · omega
  | mark s => exact ⟨mark_good s, hD⟩
  | order x y =>
    refine ⟨many_good (fun h0 => ?_) (by unfold qodE; split <;> (try split) <;> omega), hD⟩
    have h12 : ¬ (12 : Int) < x := fun hh => by unfold qodE at h0; rw [if_pos hh] at h0; omega
    have hr : ¬ (fct x.toNat : Int) ≤ y := fun hh => by unfold qodE at h0; rw [if_neg h12, if_pos hh] at h0; omega
    have hp := ordL_perm x.toNat y.toNat (idn x.toNat) (by unfold idn; rw [tab_len]) (by have := fct_pos x.toNat; omega)
    refine ⟨by rw [ordL_len]; omega, fun z hz => ?_⟩
    obtain ⟨j, hj, rfl⟩ := tab_mem _ _ _ (hp.mem_iff.1 hz)
    unfold I64; omega
  | some x y =>
    refine ⟨many_good (fun h0 => ?_) (by unfold smE; split <;> (try split) <;> omega), hD⟩
    have h1 : ¬ 30 < x.toNat := fun h => by unfold smE at h0; rw [if_pos h] at h0; omega
    refine ⟨by rw [tab_len]; omega, fun z hz => ?_⟩
    obtain ⟨j, hj, rfl⟩ := tab_mem _ _ _ hz
    exact someF_i64 x.toNat y.toNat j (by omega)
  | pick p l =>
    refine ⟨one_good (fun h0 => ?_) (piE_9 l _ p), hD⟩
    have h2 := piI_le l p l.length
    have h3 : l.length ≤ 40 := Classical.byContradiction fun hh => by
      unfold qpiE wtsE at h0
      rw [if_pos (show 40 < l.length by omega)] at h0
      simp at h0
    unfold qpiV I64
    rw [if_pos h0]
    omega
  | fair p l =>
    refine ⟨many_good (fun h0 => ?_) (frE_9 l _ p), hD⟩
    have hw : wantE l l.length = 0 := Classical.byContradiction fun hh => hh (by unfold qfrE at h0; rw [if_neg hh] at h0; exact h0)
    have hr : 0 ≤ p ∧ p ≤ 1000000000000 := Classical.byContradiction fun hh => by
      unfold qfrE at h0; rw [if_pos hw, if_neg hh] at h0; omega
    obtain ⟨h1, h2⟩ := want_zero l l.length hw
    refine ⟨by rw [tab_len]; omega, fun z hz => ?_⟩
    obtain ⟨j, hj, rfl⟩ := tab_mem _ _ _ hz
    have := FairM.fair_bd l l.length p hr.1 (fun i hi => (h2 i hi).1) j hj
    have := h2 j hj
    unfold I64; omega
  | level p l =>
    refine ⟨one_good (fun h0 => ?_) (leE_9 l _ p), hD⟩
    unfold qleV lvA I64
    split
    · split <;> omega
    · omega
  | even k s l =>
    refine ⟨many_good (fun h0 => ?_) (evE_9 l _ k s), hD⟩
    obtain ⟨e0, h1, h2, h3, h4⟩ := evE_zero l l.length k s h0
    obtain ⟨g1, g2, g3⟩ := wtsE_zero l l.length e0
    refine ⟨by rw [tab_len]; omega, fun z hz => ?_⟩
    obtain ⟨j, hj, rfl⟩ := tab_mem _ _ _ hz
    have := SortMath.cn_le (hit l k (sumK l l.length) s j) k.toNat
    unfold evM evF I64
    omega
  | est x y z => exact ⟨one_good (fun h0 => sumV_bd x y z h0) (sumE_9 x y z _ _ _), hD⟩
  | pond x d =>
    show GoodR (if qpoE D.seen d = 0 then _ else _ : Res × DeskSt).1 ∧ StOk (if qpoE D.seen d = 0 then _ else _ : Res × DeskSt).2
    have pn := hD.pn
    have s0 := hD.s0
    have s1 := hD.s1
    have hx : I64 x := hc
    split
    · rename_i h0
      have h1 : ¬ D.seen = 1000000000000 := fun e => by unfold qpoE at h0; rw [if_pos e] at h0; omega
      have h2 : ¬ (d < 0 ∨ D.seen < d) := fun e => by unfold qpoE at h0; rw [if_neg h1, if_pos e] at h0; omega
      have hb : ∀ y ∈ pput 3 D.seen D.items x d, I64 y := fun y hy => by
        unfold pput at hy
        split at hy
        · rcases List.mem_append.1 hy with hy | hy
          · exact hD.pb y hy
          · simp at hy; subst hy; exact hx
        · split at hy
          · rcases List.mem_or_eq_of_mem_set hy with hy | hy
            · exact hD.pb y hy
            · subst hy; exact hx
          · exact hD.pb y hy
      have hlen : min 3 (D.seen + 1) = ((pput 3 D.seen D.items x d).length : Int) := by
        unfold pput
        split
        · rw [List.length_append, List.length_singleton]; omega
        · split
          · rw [List.length_set]; omega
          · omega
      exact ⟨told_good _ (by omega) hb, ⟨hD.few, hD.bd, by show 0 ≤ D.seen + 1; omega, by show D.seen + 1 ≤ _; omega, hlen, hb, hD.bot⟩⟩
    · refine ⟨?_, hD⟩
      rename_i h0
      show 1 ≤ qpoE D.seen d ∧ qpoE D.seen d ≤ 9
      unfold qpoE at h0 ⊢
      split
      · omega
      · rename_i h1
        rw [if_neg h1] at h0
        split
        · omega
        · rename_i h2
          rw [if_neg h2] at h0
          exact absurd rfl h0
  | least n =>
    show GoodR (if n < 72057594037927936 then _ else _ : Res × DeskSt).1 ∧ StOk (if n < 72057594037927936 then _ else _ : Res × DeskSt).2
    split
    · rename_i h0
      have hp := hD.bot.put n ⟨hc, h0⟩
      refine ⟨told_good _ (by have := hp.ln; omega) (fun y hy => by have := hp.bd y hy; unfold I64; omega), ⟨hD.few, hD.bd, hD.s0, hD.s1, hD.pn, hD.pb, hp⟩⟩
    · exact ⟨by show 1 ≤ (1 : Int) ∧ (1 : Int) ≤ 9; omega, hD⟩
  | many =>
    refine ⟨?_, hD⟩
    show GoodR (if D.nums.length < 3 then oneR D.nums.length 0 else oneR ((72057594037927936 * 2 / (gi D.nums 2).toNat : Nat) : Int) 0)
    split
    · exact one_good (fun _ => by unfold I64; omega) (by omega)
    · refine one_good (fun _ => ?_) (by omega)
      have : 72057594037927936 * 2 / (gi D.nums 2).toNat ≤ 72057594037927936 * 2 := Nat.div_le_self _ _
      generalize 72057594037927936 * 2 / (gi D.nums 2).toNat = q at this ⊢
      unfold I64; omega
  | few k n =>
    obtain ⟨r1, r2, r3⟩ := few_r D k n
    by_cases h1 : 1 ≤ n ∧ n ≤ 1000000000000
    · by_cases h2 : FewOk 3 (fput 3 (D.lost, D.cnt) k n)
      · rw [r1 ⟨h1, h2⟩]
        have l0 := h2.l0
        have l1 := h2.l1
        have ln := h2.ln
        exact ⟨told_good _ (by simp) (fun y hy => by simp at hy; rcases hy with rfl | rfl <;> (unfold I64; omega)), ⟨h2, hD.bd, hD.s0, hD.s1, hD.pn, hD.pb, hD.bot⟩⟩
      · rw [r2 ⟨h1, h2⟩]
        exact ⟨by show 1 ≤ (2 : Int) ∧ (2 : Int) ≤ 9; omega, hD⟩
    · rw [r3 h1]
      exact ⟨by show 1 ≤ (1 : Int) ∧ (1 : Int) ≤ 9; omega, hD⟩
  | ask k =>
    obtain ⟨⟨i1, i2⟩, i3, i4⟩ := occ_i64 hD k
    exact ⟨told_good _ (by simp) (fun y hy => by simp at hy; rcases hy with rfl | rfl <;> (unfold I64; omega)), hD⟩
  | rule p l e =>
    show GoodR (if putE D.rules (p, l, e) = 0 then _ else _ : Res × DeskSt).1 ∧ StOk (if putE D.rules (p, l, e) = 0 then _ else _ : Res × DeskSt).2
    have h9 := putE_9 D.rules (p, l, e)
    split
    · rename_i h0
      obtain ⟨g1, g2⟩ := zbput_le D.rules (p, l, e) hD.bd h0
      exact ⟨⟨⟨[], rfl⟩, by show (10 : UInt8) ∉ [111, 107]; decide, by show (⟨#[111, 107]⟩ : ByteArray).size ≤ _; decide⟩, ⟨hD.few, bput_ok D.rules (p, l, e) hD.bd g1 g2, hD.s0, hD.s1, hD.pn, hD.pb, hD.bot⟩⟩
    · refine ⟨?_, hD⟩
      show 1 ≤ putE D.rules (p, l, e) ∧ putE D.rules (p, l, e) ≤ 9
      omega
  | of s =>
    refine ⟨one_good (fun _ => qasV_bd D.rules s hD.bd) ?_, hD⟩
    unfold qasE askE
    split
    · split <;> omega
    · omega
theorem one_er {V E e : Int} (h : oneR V E = .error e) (hE : 0 ≤ E ∧ E ≤ 9) : 0 ≤ e ∧ e ≤ 9 := by
  unfold oneR at h
  split at h
  · cases h
  · cases h; exact hE
theorem many_er {l : List Int} {E e : Int} (h : manyR l E = .error e) (hE : 0 ≤ E ∧ E ≤ 9) : 0 ≤ e ∧ e ≤ 9 := by
  unfold manyR at h
  split at h
  · cases h
  · cases h; exact hE
theorem text_er {s : ByteArray} {E e : Int} (h : textR s E = .error e) (hE : 0 ≤ E ∧ E ≤ 9) : 0 ≤ e ∧ e ≤ 9 := by
  unfold textR at h
  split at h
  · cases h
  · cases h; exact hE
theorem opF_code (D : DeskSt) (c : Cmd) (e : Int) (h : (opF D c).1 = .error e) : 0 ≤ e ∧ e ≤ 9 := by
  cases c with
  | rank l => exact one_er h (dkE_bd l _)
  | comb l => exact one_er h (ckE_bd l _)
  | alias l => exact many_er h (wtsE_9 l _)
  | most l =>
    have h' : (if qmoE l.length = 0 then (if (qmoR l l.length).2 = true then (.ok (toldS [(qmoR l l.length).1]) : Res) else .error 4) else .error (qmoE l.length)) = .error e := h
    by_cases hq : qmoE l.length = 0
    · rw [if_pos hq] at h'
      split at h'
      · cases h'
      · cases h'; omega
    · rw [if_neg hq] at h'
      cases h'
      unfold qmoE
      split <;> omega
  | hash s => exact one_er h (by unfold mixText.ofE; split <;> omega)
  | th n => exact text_er h (by unfold qthE; split <;> omega)
  | part x y => exact one_er h (by unfold qpaE; split <;> omega)
  | count x y => exact one_er h (by
      unfold qcoE
      split
      · split
        · omega
        · split <;> omega
      · omega)
  | mark s =>
    have g := mark_good s
    have h' : markR s = .error e := h
    rw [h'] at g
    have g' : 1 ≤ e ∧ e ≤ 9 := g
    omega
  | order x y => exact many_er h (by unfold qodE; split <;> (try split) <;> omega)
  | some x y => exact many_er h (by unfold smE; split <;> (try split) <;> omega)
  | pick p l => exact one_er h (piE_9 l _ p)
  | fair p l => exact many_er h (frE_9 l _ p)
  | level p l => exact one_er h (leE_9 l _ p)
  | even k s l => exact many_er h (evE_9 l _ k s)
  | est x y z => exact one_er h (sumE_9 x y z _ _ _)
  | pond x d =>
    have h' : (if qpoE D.seen d = 0 then ((.ok (toldS (pput 3 D.seen D.items x d)), { D with seen := D.seen + 1, items := pput 3 D.seen D.items x d }) : Res × DeskSt) else (.error (qpoE D.seen d), D)).1 = .error e := h
    split at h'
    · cases h'
    · cases h'
      unfold qpoE
      split
      · omega
      · split <;> omega
  | least n =>
    have h' : (if n < 72057594037927936 then ((.ok (toldS (bot 3 D.nums n)), { D with nums := bot 3 D.nums n }) : Res × DeskSt) else (.error 1, D)).1 = .error e := h
    split at h'
    · cases h'
    · cases h'; omega
  | many =>
    have h' : (if D.nums.length < 3 then oneR D.nums.length 0 else oneR ((72057594037927936 * 2 / (gi D.nums 2).toNat : Nat) : Int) 0) = .error e := h
    split at h'
    · exact one_er h' (by omega)
    · exact one_er h' (by omega)
  | few k n =>
    obtain ⟨r1, r2, r3⟩ := few_r D k n
    by_cases h1 : 1 ≤ n ∧ n ≤ 1000000000000
    · by_cases h2 : FewOk 3 (fput 3 (D.lost, D.cnt) k n)
      · rw [r1 ⟨h1, h2⟩] at h; cases h
      · rw [r2 ⟨h1, h2⟩] at h; cases h; omega
    · rw [r3 h1] at h; cases h; omega
  | ask k => cases h
  | rule p l q =>
    have h9 := putE_9 D.rules (p, l, q)
    have h' : (if putE D.rules (p, l, q) = 0 then ((.ok ⟨#[111, 107]⟩, { D with rules := bput D.rules (p, l, q) }) : Res × DeskSt) else (.error (putE D.rules (p, l, q)), D)).1 = .error e := h
    split at h'
    · cases h'
    · cases h'; exact h9
  | of s => exact one_er h (by
      unfold qasE askE
      split
      · split <;> omega
      · omega)
theorem opsOk : OpsOk := ⟨fun D c e h => by have := opF_code D c e h; unfold I64; omega, fun D c hD hc => by
  obtain ⟨h1, h2⟩ := opF_good D c hD hc
  refine ⟨h2, fun s hs => ?_⟩
  rw [hs] at h1
  exact h1.2.2⟩
end Go.Proofs.YtgodgfnfaiiohaaGreatDoor

/- desk.Run: the walk. -/
namespace Go.Proofs.YtgodgfnfaiiohaaGreatDoor
open Go.ChangeShapes Go.WideShapes Go.ChangeAt Go.RowKit
set_option maxRecDepth 20000
set_option linter.unusedVariables false
def restR : Nat → Code → Code
  | 0, c => c
  | n + 1, .seq _ b => restR n b
  | _, c => c
noncomputable def cdR (k : Nat) : Code := restR k (Tryz.f5.body.getD .skip)
/-- The blocks that the desk's lists keep off. -/
def FF (P b : Nat) (g : Option Nat) (q : Nat) : Prop := q = P ∨ q = b ∨ g = some q
theorem filt_no (l : List ByteArray) (y : ByteArray) (h : y.size = 0) : (l ++ [y]).filter (fun w => decide (¬ w.size = 0)) = l.filter (fun w => decide (¬ w.size = 0)) := by
  rw [List.filter_append, List.filter_cons, if_neg (by rw [decide_eq_true_eq]; exact fun e => e h), List.filter_nil, List.append_nil]
theorem filt_yes (l : List ByteArray) (y : ByteArray) (h : ¬ y.size = 0) : (l ++ [y]).filter (fun w => decide (¬ w.size = 0)) = l.filter (fun w => decide (¬ w.size = 0)) ++ [y] := by
  rw [List.filter_append, List.filter_cons, if_pos (by rw [decide_eq_true_eq]; exact h), List.filter_nil]
theorem wg_take_lt (l : List ByteArray) (n k : Nat) (h : k < n) : wg (l.take n) k = wg l k := by
  unfold wg
  rw [List.getD_eq_getElem?_getD, List.getD_eq_getElem?_getD, List.getElem?_take_of_lt h]
theorem linesOf_size (s x : ByteArray) (h : x ∈ linesOf s) : x.size ≤ s.size := by
  unfold linesOf at h
  split at h
  · exact spB_size 10 s x (List.mem_of_mem_take h)
  · exact spB_size 10 s x h
theorem Kp.cell {w w' : World} {b : Nat} {g : Option Nat} (h : Kp w w' b g) {q o : Nat} {v : Value} (hc : w.cell? ⟨q, o, none⟩ = some v) (h1 : q ≠ b) (h2 : g ≠ some q) : w'.cell? ⟨q, o, none⟩ = some v := by
  have hl : q < w.heap.size := lt_of_cell hc
  have e := h.block q hl h1 h2
  unfold World.cell? at hc ⊢
  rw [e]; exact hc
theorem Kp.fz {w w' : World} {b : Nat} {g : Option Nat} (h : Kp w w' b g) {q o : Nat} (hc : w.frozen? ⟨q, o, none⟩ = false) (hl : q < w.heap.size) (h1 : q ≠ b) (h2 : g ≠ some q) : w'.frozen? ⟨q, o, none⟩ = false := by
  have e := h.block q hl h1 h2
  unfold World.frozen? at hc ⊢
  rw [e]; exact hc
theorem Kp.below {w0 w w' : World} {b : Nat} {g : Option Nat} (h : Kp w w' b g) (hB : Below w0.heap.size w0 w) (hb : w0.heap.size ≤ b) (hl : ∀ k, g = some k → b < k) : Below w0.heap.size w0 w' :=
  hB.trans ⟨h.os, h.tape, h.output, h.size, fun q hq => h.block q (Nat.lt_of_lt_of_le hq hB.size) (by omega) (fun e => by have := hl q e; omega)⟩
theorem BldAt.up {W : World} {b : Nat} {g : Option Nat} {l : List UInt8} (h : BldAt W b g l) : ∀ k, g = some k → b < k ∧ k < W.heap.size := by
  obtain ⟨p, v, _, hb, ho, rfl⟩ := h
  intro k hk
  have := ho.lt k hk
  omega
theorem BldAt.grown {W W' : World} {P b : Nat} {g : Option Nat} {l : List UInt8} (h : BldAt W b g l) (hg : W.grownBy W' (some P)) (h1 : P ≠ b) (h2 : g ≠ some P) : BldAt W' b g l := by
  have hlt := h.lt
  obtain ⟨p, v, hp, hb, ho, rfl⟩ := h
  refine ⟨p, v, hp, (hg.block b hlt (fun e => h1 (Option.some.inj e).symm)).trans hb, ?_, rfl⟩
  exact ho.kept hg (by
    cases hv : v.ownBlock with
    | none => exact .inl rfl
    | some k => exact .inr (fun e => h2 (by rw [hv]; exact e)))
theorem BldAt.below {W W' : World} {b : Nat} {g : Option Nat} {l : List UInt8} (h : BldAt W b g l) (hb : Below W.heap.size W W') : BldAt W' b g l := by
  have hlt := h.lt
  obtain ⟨p, v, hp, hbk, ho, rfl⟩ := h
  exact ⟨p, v, hp, (hb.block b hlt).trans hbk, owns_belowD ho hb, rfl⟩
theorem DeskAt.kp {w w' : World} {P b : Nat} {g g' : Option Nat} {D : DeskSt} (h : DeskAt w P (FF P b g) D) (hk : Kp w w' b g) (hb : P ≠ b) (hg : g ≠ some P) (hg' : g' = g ∨ ∃ k, g' = some k ∧ w.heap.size ≤ k) (hgb : ∀ k, g' = some k → k < w'.heap.size) : DeskAt w' P (FF P b g') D := by
  have off : ∀ a : Option Addr, OffF w a (FF P b g) → OffF w' a (FF P b g') := fun a ha ad e => by
    obtain ⟨h1, h2⟩ := ha ad e
    refine ⟨Nat.lt_of_lt_of_le h1 hk.size, ?_⟩
    rintro (e1 | e1 | e1)
    · exact h2 (.inl e1)
    · exact h2 (.inr (.inl e1))
    · rcases hg' with rfl | ⟨k, rfl, hkk⟩
      · exact h2 (.inr (.inr e1))
      · cases e1; omega
  have ne : ∀ a : Option Addr, OffF w a (FF P b g) → ∀ q o, a = some ⟨q, o, none⟩ → q ≠ b ∧ g ≠ some q := fun a ha q o e => by
    have h2 := (ha _ e).2
    exact ⟨fun e2 => h2 (.inr (.inl e2)), fun e2 => h2 (.inr (.inr e2))⟩
  have ints : ∀ {a n c L}, IntsAt w a n c L → OffF w a (FF P b g) → IntsAt w' a n c L := fun {a n c L} hi ha => by
    refine ⟨hi.len, hi.le, hi.max, fun hn => ?_, hi.bd⟩
    obtain ⟨q, o, rfl, hlt, hc⟩ := hi.cells hn
    obtain ⟨e1, e2⟩ := ne _ ha q o rfl
    exact ⟨q, o, rfl, Nat.lt_of_lt_of_le hlt hk.size, fun i u hu => hk.cell (hc i u hu) e1 e2⟩
  obtain ⟨a2, n2, c2, q2, r2, o2⟩ := h.k2
  obtain ⟨a3, n3, c3, q3, r3, o3⟩ := h.k3
  obtain ⟨a6, n6, c6, q6, r6, o6⟩ := h.k6
  obtain ⟨a8, n8, c8, q8, r8, o8⟩ := h.k8
  refine ⟨.inl rfl, fun q hq => ?_, hk.cell h.k0 hb hg, hk.cell h.k1 hb hg, ⟨a2, n2, c2, hk.cell q2 hb hg, ?_, off _ o2⟩, ⟨a3, n3, c3, hk.cell q3 hb hg, ?_, off _ o3⟩, hk.cell h.k4 hb hg, hk.cell h.k5 hb hg, ⟨a6, n6, c6, hk.cell q6 hb hg, ints r6 o6, off _ o6⟩, hk.cell h.k7 hb hg, ⟨a8, n8, c8, hk.cell q8 hb hg, ints r8 o8, off _ o8⟩, fun i => hk.fz (h.fz i) h.lt hb hg⟩
  · rcases hq with rfl | rfl | e
    · exact Nat.lt_of_lt_of_le h.lt hk.size
    · exact Nat.lt_of_lt_of_le (h.fl _ (.inr (.inl rfl))) hk.size
    · exact hgb q e
  · refine ⟨r2.len, r2.le, r2.max, fun hn => ?_⟩
    obtain ⟨q, o, rfl, hlt, hc⟩ := r2.cells hn
    obtain ⟨e1, e2⟩ := ne _ o2 q o rfl
    exact ⟨q, o, rfl, Nat.lt_of_lt_of_le hlt hk.size, fun i hi => ⟨hk.cell (hc i hi).1 e1 e2, hk.cell (hc i hi).2 e1 e2⟩⟩
  · refine ⟨r3.len, r3.le, r3.max, fun hn => ?_⟩
    obtain ⟨q, o, rfl, hlt, hc⟩ := r3.cells hn
    obtain ⟨e1, e2⟩ := ne _ o3 q o rfl
    exact ⟨q, o, rfl, Nat.lt_of_lt_of_le hlt hk.size, fun i hi => ⟨hk.cell (hc i hi).1 e1 e2, hk.cell (hc i hi).2.1 e1 e2, hk.cell (hc i hi).2.2 e1 e2⟩⟩
set_option maxHeartbeats 16000000 in
theorem pR3 {s : ByteArray} {w W : World} {LB M N : Nat} {LL : List ByteArray} {OUT : List UInt8} {u1 u4 u5 u6 u7 u8 u9 u10 u11 u12 u13 u14 u15 u16 u17 u18 u19 u20 u21 u22 u23 u24 u25 u26 u27 u28 u29 u30 u31 u32 u33 u34 u35 u36 u37 u38 u39 u40 u41 u42 u43 u44 u45 u46 u47 u48 u49 u50 u51 u52 u53 u54 u55 u56 u57 u58 u59 u60 u61 u62 u63 u64 u65 u66 u67 u68 u69 u70 u71 u72 u73 u74 : Value}
    (hB : Below w.heap.size w W) (hT : Tabs w) (hO : OpsOk) (hLB : w.heap.size ≤ LB) (hLW : LB < W.heap.size) (hM : M ≤ N) (hN : N ≤ 4294967281) (hs : s.size ≤ 4294967280) (hLL : LL.length = M) (hc : ∀ k, k < M → W.cell? ⟨LB, k, none⟩ = some (.string (wg LL k))) (hsz : ∀ x ∈ LL, x.size ≤ s.size)
    (hR : OUT = if 65536 < s.size ∨ 200 < M then [101, 114, 114, 111, 114, 32, 50, 10] else (runQ LL).2) :
    (cdR 3).wp Tryz.prog (bodyPost Tryz.prog Tryz.f5 (fun e w' => e = .returned (.string ⟨OUT.toArray⟩) ∧ Below w.heap.size w w')) ⟨#[.string s, u1, .string ⟨#[]⟩, .slice (some ⟨LB, 0, none⟩) M N, u4, u5, u6, u7, u8, u9, u10, u11, u12, u13, u14, u15, u16, u17, u18, u19, u20, u21, u22, u23, u24, u25, u26, u27, u28, u29, u30, u31, u32, u33, u34, u35, u36, u37, u38, u39, u40, u41, u42, u43, u44, u45, u46, u47, u48, u49, u50, u51, u52, u53, u54, u55, u56, u57, u58, u59, u60, u61, u62, u63, u64, u65, u66, u67, u68, u69, u70, u71, u72, u73, u74], []⟩ W := by
  have HB := hidp hB
  have HT := hidp hT
  have HO := hidp hO
  have HL := hidp hLL
  have HC := hidp hc
  have HSZ := hidp hsz
  have HR := hidp hR
  clear hB hT hO hLL hc hsz hR
  conv => arg 2; whnf
  dsimp only
  by_cases h1 : 65536 < s.size
  · have h1I : (65536 : Int) < (s.size : Int) := by omega
    have R1 := hidp (show OUT = [101, 114, 114, 111, 114, 32, 50, 10] by rw [HR.out, if_pos (.inl h1)])
    clear h1
    go_wp2_with fail
    go_ret
    exact ⟨by rw [R1.out]; rfl, HB.out⟩
  · have h1I : ¬ (65536 : Int) < (s.size : Int) := by omega
    by_cases h2 : 200 < M
    · have h2I : (200 : Int) < (M : Int) := by omega
      have R1 := hidp (show OUT = [101, 114, 114, 111, 114, 32, 50, 10] by rw [HR.out, if_pos (.inr h2)])
      clear h1 h2
      go_wp2_with fail
      go_ret
      exact ⟨by rw [R1.out]; rfl, HB.out⟩
    · have h2I : ¬ (200 : Int) < (M : Int) := by omega
      have R1 := hidp (show OUT = (runQ LL).2 by rw [HR.out, if_neg (fun e => e.elim h1 h2)])
      go_upto_region 10 with fail
      have hb2 : Below W.heap.size W ((W.alloc (.cells #[.int .i64 3, .int .i64 0, .slice none 0 0, .slice none 0 0, .int .i64 3, .int .i64 0, .slice none 0 0, .int .i64 3, .slice none 0 0] 44)).alloc (.cells #[.pointer none, .slice none 0 0] 48)) := bal (bal (Below.refl _ _) _) _
      have B2 := hidp (bstep HB.out hb2)
      have C2 := hidp (show ∀ i, i < M → ((W.alloc (.cells #[.int .i64 3, .int .i64 0, .slice none 0 0, .slice none 0 0, .int .i64 3, .int .i64 0, .slice none 0 0, .int .i64 3, .slice none 0 0] 44)).alloc (.cells #[.pointer none, .slice none 0 0] 48)).cell? ⟨LB, i, none⟩ = some (.string (wg LL i)) from fun i hi => ck hb2 (HC.out i hi))
      have hPL : LB ≠ W.heap.size := by omega
      have hP8 : 8 ≤ W.heap.size := Nat.le_trans HT.out.size HB.out.size
      have hPw : w.heap.size ≤ W.heap.size := HB.out.size
      have FL : ∀ q, FF W.heap.size (W.heap.size + 1) none q → q < ((W.alloc (.cells #[.int .i64 3, .int .i64 0, .slice none 0 0, .slice none 0 0, .int .i64 3, .int .i64 0, .slice none 0 0, .int .i64 3, .slice none 0 0] 44)).alloc (.cells #[.pointer none, .slice none 0 0] 48)).heap.size := by
        intro q hq
        rcases hq with rfl | rfl | h
        · simp; omega
        · simp
        · cases h
      have D2 := hidp (show DeskAt ((W.alloc (.cells #[.int .i64 3, .int .i64 0, .slice none 0 0, .slice none 0 0, .int .i64 3, .int .i64 0, .slice none 0 0, .int .i64 3, .slice none 0 0] 44)).alloc (.cells #[.pointer none, .slice none 0 0] 48)) W.heap.size (FF W.heap.size (W.heap.size + 1) none) desk0 from
        ⟨.inl rfl, FL, by go_simp, by show _ = some (Value.int .i64 0); go_simp, ⟨none, 0, 0, by go_simp, ⟨rfl, Nat.le_refl _, by omega, fun h => by omega⟩, fun ad e => by cases e⟩, ⟨none, 0, 0, by go_simp, ⟨rfl, Nat.le_refl _, by omega, fun h => by omega⟩, fun ad e => by cases e⟩, by go_simp, by show _ = some (Value.int .i64 0); go_simp, ⟨none, 0, 0, by go_simp, ints_nil _, fun ad e => by cases e⟩, by go_simp, ⟨none, 0, 0, by go_simp, ints_nil _, fun ad e => by cases e⟩, fun i => by go_simp⟩)
      have E2 := hidp (show BldAt ((W.alloc (.cells #[.int .i64 3, .int .i64 0, .slice none 0 0, .slice none 0 0, .int .i64 3, .int .i64 0, .slice none 0 0, .int .i64 3, .slice none 0 0] 44)).alloc (.cells #[.pointer none, .slice none 0 0] 48)) (W.heap.size + 1) none [] from ⟨_, .slice none 0 0, .inl rfl, by
        have h := heap_alloc_new (W.alloc (.cells #[.int .i64 3, .int .i64 0, .slice none 0 0, .slice none 0 0, .int .i64 3, .int .i64 0, .slice none 0 0, .int .i64 3, .slice none 0 0] 44)) (.cells #[.pointer none, .slice none 0 0] 48)
        have hsz : (W.alloc (.cells #[.int .i64 3, .int .i64 0, .slice none 0 0, .slice none 0 0, .int .i64 3, .int .i64 0, .slice none 0 0, .int .i64 3, .slice none 0 0] 44)).heap.size = W.heap.size + 1 := by simp
        rw [hsz] at h
        exact h, World.ownsRow_nil _ _ _ _, rfl⟩)
      clear hb2 HB HC HR FL
      generalize ((W.alloc (.cells #[.int .i64 3, .int .i64 0, .slice none 0 0, .slice none 0 0, .int .i64 3, .int .i64 0, .slice none 0 0, .int .i64 3, .slice none 0 0] 44)).alloc (.cells #[.pointer none, .slice none 0 0] 48)) = W2 at *
      generalize W.heap.size = P at *
      have HM := hidp (show M ≤ 200 by omega)
      have AO := hidp (runQ_ok HO.out LL)
      have ST := hidp (runQ_take LL)
      have WM := hidp (fun k (h : k < M) => HSZ.out (wg LL k) (wg_mem LL k (by rw [HL.out]; exact h)))
      go_loopg [41] M (fun gg i wr => ∃ (k : Nat) (g : Option Nat), k ≤ M ∧ M - k ≤ gg ∧ i = .int .i64 k ∧ Hid (DeskAt wr P (FF P (P + 1) g) (runQ (LL.take k)).1) ∧ Hid (BldAt wr (P + 1) g (runQ (LL.take k)).2) ∧ Hid (∀ i, i < M → wr.cell? ⟨LB, i, none⟩ = some (.string (wg LL i))) ∧ Hid (g ≠ some P ∧ g ≠ some LB) ∧ Hid (Below w.heap.size w wr))
      case atStart => exact ⟨0, none, by omega, by omega, rfl, D2, E2, C2, hidp ⟨by simp, by simp⟩, B2⟩
      case round =>
        clear D2 E2 C2 B2
        obtain ⟨k, g, hk, hgg, rfl, DA, BA, CA, GA, BB⟩ := hrel
        generalize wr = wo at *
        by_cases hlt : k < M
        · have q0 := CA.out k hlt
          obtain ⟨SO, LO⟩ := AO.out k (by rw [HL.out]; omega)
          have SOK := hidp SO
          have ST1 := hidp (ST.out k (by rw [HL.out]; exact hlt))
          have hx : (wg LL k).size ≤ 65536 := Nat.le_trans (WM.out k hlt) (by omega)
          have T0 := hidp (HT.out.on BB.out)
          clear SO
          generalize runQ (LL.take k) = q at *
          generalize wg LL k = x at *
          have SPX := hidp (spl_c 32 x wo (by omega) T0.out)
          have WX := hidp (show wordsOf x = (spB 32 x).filter (fun w => decide (¬ w.size = 0)) from rfl)
          have NBX := spB_le 32 x
          have PZX := hidp (spB_size 32 x)
          have STX := hidp (show stepF q x = if (wordsOf x).length = 0 ∨ wg (wordsOf x) 0 = hash1 then q else ((lineR q.1 (wordsOf x) (wordsOf x).length).2, q.2 ++ (ansS (lineR q.1 (wordsOf x) (wordsOf x).length).1).data.toList ++ [10]) from rfl)
          generalize stepF q x = q2 at *
          generalize wordsOf x = Z at *
          generalize spB 32 x = Y at *
          obtain ⟨NW, hNW⟩ : ∃ NW, NW = Y.length := ⟨_, rfl⟩
          rw [← hNW] at SPX NBX
          have HNW := hidp hNW
          have TKY := hidp (wg_take Y)
          have MMY := hidp (wg_mem Y)
          clear hNW
          go_wp2_with fail
          refine SPX.out.mono ?_
          rintro e w5 ⟨rfl, hb5, hc5⟩
          have HC5 := hidp hc5
          have HB5 := hidp hb5
          clear SPX hc5 hb5
          go_wp2_with fail
          go_loopg [9, 48] NW (fun gg2 v j wx => ∃ m : Nat, m ≤ NW ∧ NW - m ≤ gg2 ∧ j = .int .i64 m ∧ Hid (wx.ownsRow w5.heap.size 9 1 v ((Y.take m).filter (fun w => decide (¬ w.size = 0))).length (((Y.take m).filter (fun w => decide (¬ w.size = 0))).map Value.string)) ∧ Below w5.heap.size w5 wx)
          case atStart => exact ⟨0, by omega, by omega, rfl, hidp (World.ownsRow_nil _ _ _ _), Below.refl _ _⟩
          case round =>
            obtain ⟨m, hm, hgm, rfl, hv, hbx⟩ := hrel
            by_cases hmn : m < NW
            · have r0 := ck hbx (HC5.out m hmn)
              have TK := hidp (TKY.out m (by rw [← HNW.out]; exact hmn))
              generalize wg Y m = y at *
              by_cases hy : y.size = 0
              · obtain ⟨e0, e1⟩ := eq_empty1 y hy
                have FT := hidp (show (Y.take (m + 1)).filter (fun w => decide (¬ w.size = 0)) = (Y.take m).filter (fun w => decide (¬ w.size = 0)) by rw [TK.out]; exact filt_no _ _ hy)
                clear hy
                go_wp2_with fail
                go_roundg (NW - (m + 1))
                case measure => omega
                case rel => exact ⟨m + 1, by omega, by omega, by go_num, by rw [FT.out]; exact hv, hbx⟩
              · obtain ⟨e0, e1⟩ := eq_empty0 y hy
                have FT := hidp (show (Y.take (m + 1)).filter (fun w => decide (¬ w.size = 0)) = (Y.take m).filter (fun w => decide (¬ w.size = 0)) ++ [y] by rw [TK.out]; exact filt_yes _ _ hy)
                have FL := hidp (show ((Y.take m).filter (fun w => decide (¬ w.size = 0))).length < 1000000000 by
                  refine Nat.lt_of_le_of_lt (List.length_filter_le _ _) ?_
                  rw [List.length_take]; omega)
                clear hy
                generalize (Y.take m).filter (fun w => decide (¬ w.size = 0)) = ZZ at *
                go_wp2_with (at_builtin; refine wpList_append_new rfl (.tmp 54) (.tmp 56) 23 rfl w5.heap.size 9 _ 1 16 info_str rfl (by decide) Tryz.underlying23 _ _ _ rfl hv.out rfl (one_str _) rfl rfl FL.out (by decide) hbx.size ?_; intro v0 x0 nv g0 d0; have bl0 := append_step hv.out hbx (Nat.le_refl _) g0; clear g0 d0)
                have NV := hidp nv
                clear nv hbx hv r0
                go_roundg (NW - (m + 1))
                case measure => omega
                case rel => exact ⟨m + 1, by omega, by omega, by go_num, by rw [FT.out, List.length_append, List.map_append]; exact NV, bl0⟩
            · obtain rfl : m = NW := by omega
              have hv1 := hv.out
              rw [show Y.take m = Y by rw [HNW.out, List.take_length], ← WX.out] at hv1
              have SZZ := hidp (show ∀ i, (wg Z i).size ≤ 65536 from fun i => by
                by_cases hi : i < Z.length
                · have hm0 := wg_mem Z i hi
                  have hm1 : wg Z i ∈ Y.filter (fun w => decide (¬ w.size = 0)) := by rw [← WX.out]; exact hm0
                  exact Nat.le_trans (PZX.out _ (List.mem_filter.1 hm1).1) hx
                · unfold wg
                  rw [List.getD_eq_getElem?_getD, List.getElem?_eq_none (by omega)]
                  decide)
              have ZL : Z.length ≤ 65537 := by
                rw [WX.out]
                refine Nat.le_trans (List.length_filter_le _ _) ?_
                rw [← HNW.out]; omega
              have B6 := hidp (HB5.out.trans (hbx.mono HB5.out.size))
              have D6 := hidp (DA.out.below B6.out)
              have E6 := hidp (BA.out.below B6.out)
              have C6 := hidp (fun i hi => ck B6.out (CA.out i hi))
              have BB6 := hidp (bstep BB.out B6.out)
              clear hv HC5 TKY MMY HNW PZX hbx HB5 WX DA BA CA BB q0
              by_cases h0 : Z.length = 0
              · have Q2 := hidp (show q2 = q by rw [STX.out, if_pos (.inl h0)])
                obtain ⟨av, cv, hve, _, _⟩ := owns_form hv1
                subst hve
                rw [h0]
                have hz : ((0 : Nat) : Int) = 0 := rfl
                clear hv1
                go_wp2_with fail
                go_roundg (M - (k + 1))
                case measure => omega
                case rel => exact ⟨k + 1, g, by omega, by omega, by go_num, hidp (by rw [ST1.out, Q2.out]; exact D6.out), hidp (by rw [ST1.out, Q2.out]; exact E6.out), hidp (C6.out), GA, BB6⟩
              · obtain ⟨ga, cap, hve, ga1, ga2, hnc, hcm⟩ := owns_addr hv1 (by omega)
                subst hve
                have cells := hidp (show ∀ i, i < Z.length → wr.cell? ⟨ga, 0 + i, none⟩ = some (.string (wg Z i)) from fun i hi => by
                  have := hv1.cellAt i (by omega)
                  rw [List.getElem?_map, wg_get Z i hi] at this
                  rw [Nat.zero_add]
                  exact this)
                have z0 : wr.cell? ⟨ga, 0, none⟩ = some (.string (wg Z 0)) := cells.out 0 (by omega)
                have hzn : ((Z.length : Int) == 0) = false := by rw [beq_eq_false_iff_ne]; omega
                have hzp : (0 : Int) < (Z.length : Int) := by omega
                have T6 := hidp (HT.out.on BB6.out)
                clear hv1
                by_cases hh : wg Z 0 = hash1
                · have Q2 := hidp (show q2 = q by rw [STX.out, if_pos (.inr hh)])
                  have eh : ((wg Z 0).toList == [35]) = true := by rw [hh]; decide +kernel
                  clear hh STX
                  generalize wg Z 0 = zz at *
                  go_wp2_with fail
                  go_roundg (M - (k + 1))
                  case measure => omega
                  case rel => exact ⟨k + 1, g, by omega, by omega, by go_num, hidp (by rw [ST1.out, Q2.out]; exact D6.out), hidp (by rw [ST1.out, Q2.out]; exact E6.out), hidp (C6.out), GA, BB6⟩
                · have QE := hidp (show q2 = ((lineR q.1 Z Z.length).2, q.2 ++ (ansS (lineR q.1 Z Z.length).1).data.toList ++ [10]) by rw [STX.out, if_neg (fun e => e.elim h0 hh)])
                  have eh : ((wg Z 0).toList == [35]) = false := eqFl (t := hash1) (by decide +kernel) hh
                  have AC := hidp (answer_c (FF P (P + 1) g) P ga 0 Z Z.length cap q.1 wr T6.out D6.out SOK.out hP8 rfl (by omega) hnc hcm cells.out SZZ.out (HO.out.1 q.1))
                  have AL := (lineR_ok HO.out q.1 Z Z.length SOK.out).2
                  clear hh STX cells
                  generalize lineR q.1 Z Z.length = LR at *
                  generalize wg Z 0 = zz at *
                  generalize ansS LR.1 = A at *
                  go_wp2_with fail
                  refine AC.out.mono ?_
                  rintro e w7 ⟨rfl, hD7, hg7⟩
                  have D7 := hidp hD7
                  have E7 := hidp (E6.out.grown hg7 (by omega) GA.out.1)
                  have C7 := hidp (fun i hi => gb_cell hg7 (C6.out i hi) hPL)
                  have BB7 := hidp (BB6.out.grown hg7 BB6.out.size (fun q e => by cases e; exact hPw))
                  clear AC hD7 hg7 D6 E6 C6 BB6 z0 T6
                  go_wp2_with fail
                  refine (bws_c (P + 1) g q.2 A w7 E7.out (by omega)).mono ?_
                  rintro e w8 ⟨rfl, hk8, g8, hE8, hg8⟩
                  have D8 := hidp (D7.out.kp hk8 (by omega) GA.out.1 hg8 (fun k e => (hE8.up k e).2))
                  have E8 := hidp hE8
                  have C8 := hidp (fun i hi => hk8.cell (C7.out i hi) (by omega) GA.out.2)
                  have hl7 := D7.out.lt
                  have G8 := hidp (show g8 ≠ some P ∧ g8 ≠ some LB by
                    rcases hg8 with rfl | ⟨k8, rfl, hk⟩
                    · exact GA.out
                    · exact ⟨fun e => by cases e; omega, fun e => by cases e; omega⟩)
                  have BB8 := hidp (hk8.below BB7.out (by omega) (fun k e => by have := (E7.out.up k e).1; omega))
                  have hw8 := hk8.size
                  clear hk8 hE8 hg8 D7 E7 C7 BB7 GA
                  go_wp2_with fail
                  have WB := hidp (show Calls Tryz.prog 14 #[.pointer (some ⟨P + 1, 0, none⟩), .int .u8 10] w8 _ from bwb_c (P + 1) g8 (q.2 ++ A.data.toList) 10 w8 E8.out (by rw [List.length_append, Array.length_toList]; have hA : A.data.size ≤ 100000 := AL; omega))
                  refine WB.out.mono ?_
                  rintro e w9 ⟨rfl, hk9, g9, hE9, hg9⟩
                  have D9 := hidp (D8.out.kp hk9 (by omega) G8.out.1 hg9 (fun k e => (hE9.up k e).2))
                  have E9 := hidp hE9
                  have C9 := hidp (fun i hi => hk9.cell (C8.out i hi) (by omega) G8.out.2)
                  have G9 := hidp (show g9 ≠ some P ∧ g9 ≠ some LB by
                    rcases hg9 with rfl | ⟨k9, rfl, hk⟩
                    · exact G8.out
                    · exact ⟨fun e => by cases e; omega, fun e => by cases e; omega⟩)
                  have BB9 := hidp (hk9.below BB8.out (by omega) (fun k e => by have := (E8.out.up k e).1; omega))
                  clear WB hk9 hE9 hg9 D8 E8 C8 BB8 G8
                  go_wp2_with fail
                  go_roundg (M - (k + 1))
                  case measure => omega
                  case rel => exact ⟨k + 1, g9, by omega, by omega, by go_num, hidp (by rw [ST1.out, QE.out]; exact D9.out), hidp (by rw [ST1.out, QE.out]; exact E9.out), C9, G9, BB9⟩
        · obtain rfl : k = M := by omega
          have RF := hidp (show OUT = (runQ (LL.take k)).2 by rw [← HL.out, List.take_length]; exact R1.out)
          generalize runQ (LL.take k) = q at *
          go_wp2_with fail
          refine (bst_c (P + 1) g q.2 _ BA.out).mono ?_
          rintro e w9 ⟨rfl, hb9⟩
          have HF := hidp (BB.out.trans (hb9.mono (by omega)))
          clear hb9
          go_wp2_with fail
          go_ret
          exact ⟨by rw [RF.out]; rfl, HF.out⟩
set_option maxHeartbeats 16000000 in
theorem pR2 {s : ByteArray} {w W : World} {u1 u4 u5 u6 u7 u8 u9 u10 u11 u12 u13 u14 u15 u16 u17 u18 u19 u20 u21 u22 u23 u24 u25 u26 u27 u28 u29 u30 u31 u32 u33 u34 u35 u36 u37 u38 u39 u40 u41 u42 u43 u44 u45 u46 u47 u48 u49 u50 u51 u52 u53 u54 u55 u56 u57 u58 u59 u60 u61 u62 u63 u64 u65 u66 u67 u68 u69 u70 u71 u72 u73 u74 : Value} (hs : s.size ≤ 4294967280) (hB : Below w.heap.size w W) (hW : w.heap.size < W.heap.size) (hT : Tabs w) (hO : OpsOk) (hc : ∀ k, k < (spB 10 s).length → W.cell? ⟨w.heap.size, k, none⟩ = some (.string (wg (spB 10 s) k))) :
    (cdR 2).wp Tryz.prog (bodyPost Tryz.prog Tryz.f5 (fun e w' => e = .returned (.string ⟨(runO s).toArray⟩) ∧ Below w.heap.size w w')) ⟨#[.string s, u1, .string ⟨#[]⟩, .slice (some ⟨w.heap.size, 0, none⟩) (spB 10 s).length (spB 10 s).length, u4, u5, u6, u7, u8, u9, u10, u11, u12, u13, u14, u15, u16, u17, u18, u19, u20, u21, u22, u23, u24, u25, u26, u27, u28, u29, u30, u31, u32, u33, u34, u35, u36, u37, u38, u39, u40, u41, u42, u43, u44, u45, u46, u47, u48, u49, u50, u51, u52, u53, u54, u55, u56, u57, u58, u59, u60, u61, u62, u63, u64, u65, u66, u67, u68, u69, u70, u71, u72, u73, u74], []⟩ W := by
  have NB := spB_le 10 s
  have N0 := spB_pos 10 s
  have x0 := hc ((spB 10 s).length - 1) (by omega)
  have LI := hidp (show linesOf s = if (wg (spB 10 s) ((spB 10 s).length - 1)).size = 0 then (spB 10 s).take ((spB 10 s).length - 1) else spB 10 s from rfl)
  have RO := hidp (show runO s = if 65536 < s.size ∨ 200 < (linesOf s).length then [101, 114, 114, 111, 114, 32, 50, 10] else (runQ (linesOf s)).2 from rfl)
  have LSZ := hidp (linesOf_size s)
  generalize runO s = OUT at *
  generalize linesOf s = LL at *
  generalize spB 10 s = X at *
  obtain ⟨N, hN⟩ : ∃ N, N = X.length := ⟨_, rfl⟩
  rw [← hN] at NB N0 LI hc x0 ⊢
  have HN := hidp hN
  have HB := hidp hB
  have HT := hidp hT
  have HO := hidp hO
  have HC := hidp hc
  clear hB hT hO hc hN
  conv => arg 2; whnf
  dsimp only
  apply wp_seq_k
  intro K hK
  have HK := hidp hK
  clear hK
  have hn1 : ((N : Int) - 1).toNat = N - 1 := by omega
  by_cases h0 : (wg X (N - 1)).size = 0
  · obtain ⟨e0, e1⟩ := eq_empty1 _ h0
    have L1 := hidp (show LL = X.take (N - 1) by rw [LI.out, if_pos h0])
    clear h0
    generalize wg X (N - 1) = x at *
    go_wp2_with fail
    refine HK.out _ _ ?_
    have hl : LL.length = N - 1 := by rw [L1.out, List.length_take, ← HN.out]; omega
    exact pR3 HB.out HT.out HO.out (Nat.le_refl _) hW (by omega) (by omega) hs hl (fun k hk => by rw [L1.out, wg_take_lt X (N - 1) k hk]; exact HC.out k (by omega)) LSZ.out (by rw [RO.out, hl])
  · obtain ⟨e0, e1⟩ := eq_empty0 _ h0
    have L1 := hidp (show LL = X by rw [LI.out, if_neg h0])
    clear h0
    generalize wg X (N - 1) = x at *
    go_wp2_with fail
    refine HK.out _ _ ?_
    have hl : LL.length = N := by rw [L1.out, ← HN.out]
    exact pR3 HB.out HT.out HO.out (Nat.le_refl _) hW (Nat.le_refl _) (by omega) hs hl (fun k hk => by rw [L1.out]; exact HC.out k hk) LSZ.out (by rw [RO.out, hl])
set_option maxHeartbeats 16000000 in
theorem pR1 {s : ByteArray} {w : World} {u1 u3 u4 u5 u6 u7 u8 u9 u10 u11 u12 u13 u14 u15 u16 u17 u18 u19 u20 u21 u22 u23 u24 u25 u26 u27 u28 u29 u30 u31 u32 u33 u34 u35 u36 u37 u38 u39 u40 u41 u42 u43 u44 u45 u46 u47 u48 u49 u50 u51 u52 u53 u54 u55 u56 u57 u58 u59 u60 u61 u62 u63 u64 u65 u66 u67 u68 u69 u70 u71 u72 u73 u74 : Value} (hs : s.size ≤ 4294967280) (hT : Tabs w) (hO : OpsOk) :
    (cdR 1).wp Tryz.prog (bodyPost Tryz.prog Tryz.f5 (fun e w' => e = .returned (.string ⟨(runO s).toArray⟩) ∧ Below w.heap.size w w')) ⟨#[.string s, u1, .string ⟨#[]⟩, u3, u4, u5, u6, u7, u8, u9, u10, u11, u12, u13, u14, u15, u16, u17, u18, u19, u20, u21, u22, u23, u24, u25, u26, u27, u28, u29, u30, u31, u32, u33, u34, u35, u36, u37, u38, u39, u40, u41, u42, u43, u44, u45, u46, u47, u48, u49, u50, u51, u52, u53, u54, u55, u56, u57, u58, u59, u60, u61, u62, u63, u64, u65, u66, u67, u68, u69, u70, u71, u72, u73, u74], []⟩ w := by
  have SP := hidp (spl_c 10 s w hs hT)
  have HT := hidp hT
  have HO := hidp hO
  clear hT hO
  conv => arg 2; whnf
  dsimp only
  apply wp_seq_k
  intro K hK
  have HK := hidp hK
  clear hK
  go_wp2_with fail
  refine SP.out.mono ?_
  rintro e w1 ⟨rfl, hb1, hcell⟩
  have h0 := spB_pos 10 s
  have hl : w.heap.size < w1.heap.size := lt_of_cell (hcell 0 h0)
  have HC := hidp hcell
  have HB := hidp hb1
  clear SP hcell hb1
  go_wp2_with fail
  refine HK.out _ _ ?_
  exact pR2 hs HB.out hl HT.out HO.out HC.out
/-- desk.Run. -/
theorem run_c (s : ByteArray) (hs : s.size ≤ 4294967280) (w : World) (hT : Tabs w) (hO : OpsOk) :
    Calls Tryz.prog 5 #[.string s] w fun e w' => e = .returned (.string ⟨(runO s).toArray⟩) ∧ Below w.heap.size w w' := by
  go_enter Tryz.func5, Tryz.ntmps5
  apply wp_seq_k
  intro K hK
  have HK := hidp hK
  clear hK
  go_wp2_with fail
  refine HK.out _ _ ?_
  exact pR1 hs hT hO
end Go.Proofs.YtgodgfnfaiiohaaGreatDoor

/- Plain: what is answered, piece by piece; a script's lines, and their words. -/
namespace Go.Proofs.YtgodgfnfaiiohaaGreatDoor
open Go.ChangeShapes Go.WideShapes Go.ChangeAt Go.RowKit
open Lib
set_option maxRecDepth 20000
set_option linter.unusedVariables false
/-- An answer's bytes. -/
def GoodL (l : List UInt8) : Prop := (10 : UInt8) ∉ l ∧ ((∃ t, l = 111 :: 107 :: t) ∨ ∃ t, l = 101 :: 114 :: 114 :: 111 :: 114 :: 32 :: t)
theorem ans_good (r : Res) (h : GoodR r) : GoodL (ansS r).data.toList := by
  cases r with
  | ok s => exact ⟨h.2.1, .inl h.1⟩
  | error e =>
    have ee : (errS e).data.toList = 101 :: 114 :: 114 :: 111 :: 114 :: 32 :: (itoS e).data.toList := by unfold errS; rw [Go.Joins.data_append]; rfl
    refine ⟨?_, .inr ⟨_, ee⟩⟩
    show (10 : UInt8) ∉ (errS e).data.toList
    rw [ee]
    intro hm
    simp only [List.mem_cons] at hm
    rcases hm with h | h | h | h | h | h | h
    · cases h
    · cases h
    · cases h
    · cases h
    · cases h
    · cases h
    · exact itoS_no e h
theorem lineR_good (D : DeskSt) (L : List ByteArray) (n : Nat) (hD : StOk D) : GoodR (lineR D L n).1 := by
  have e9 : GoodR (.error 9) := by show 1 ≤ (9 : Int) ∧ (9 : Int) ≤ 9; omega
  unfold lineR
  cases hc : lineC L n with
  | none => exact e9
  | some q =>
    obtain ⟨c, k⟩ := q
    simp only
    by_cases hk : k = n
    · rw [if_pos hk]
      exact (opF_good D c hD (lineC_ok hc)).1
    · rw [if_neg hk]
      exact e9
/-- Is a line answered? -/
def live (x : ByteArray) : Bool := decide (¬ ((wordsOf x).length = 0 ∨ wg (wordsOf x) 0 = hash1))
def nl (a : List UInt8) : List UInt8 := a ++ [10]
theorem runQ_out (l : List ByteArray) : ∀ k, k ≤ l.length → ∃ bs : List (List UInt8), (runQ (l.take k)).2 = (bs.map nl).flatten ∧ (∀ a ∈ bs, GoodL a) ∧ bs.length = ((l.take k).filter live).length
  | 0, _ => ⟨[], rfl, fun a h => (by cases h), rfl⟩
  | k + 1, h => by
    obtain ⟨bs, h1, h2, h3⟩ := runQ_out l k (by omega)
    have hk : k < l.length := by omega
    obtain ⟨SO, _⟩ := runQ_ok opsOk l k (by omega)
    rw [runQ_take l k hk, wg_take l k hk, List.filter_append, List.length_append]
    unfold stepF
    by_cases hl : (wordsOf (wg l k)).length = 0 ∨ wg (wordsOf (wg l k)) 0 = hash1
    · rw [if_pos hl]
      refine ⟨bs, h1, h2, ?_⟩
      have : live (wg l k) = false := by unfold live; rw [decide_eq_false_iff_not]; exact fun e => e hl
      rw [List.filter_cons, this, h3]; rfl
    · rw [if_neg hl]
      refine ⟨bs ++ [(ansS (lineR (runQ (l.take k)).1 (wordsOf (wg l k)) (wordsOf (wg l k)).length).1).data.toList], ?_, ?_, ?_⟩
      · show (runQ (l.take k)).2 ++ _ ++ [10] = _
        rw [h1]
        simp [nl]
      · intro a ha
        rcases List.mem_append.1 ha with ha | ha
        · exact h2 a ha
        · rw [List.mem_singleton.1 ha]
          exact ans_good _ (lineR_good _ _ _ SO)
      · have : live (wg l k) = true := by unfold live; rw [decide_eq_true_eq]; exact hl
        rw [List.filter_cons, this, List.length_append, h3]; rfl
theorem split1_cons (c : UInt8) (x y : List UInt8) (h : c ∉ x) (k : Nat) : splitK [c] 1 (k + 1) (x ++ c :: y) = (x ++ [c]) :: splitK [c] 1 k y := by
  rw [splitK, ix_at c y x h, if_neg (by simp only [beq_iff_eq]; omega)]
  congr 1
  · have e : x ++ c :: y = (x ++ [c]) ++ y := by simp
    rw [e, List.take_append_of_le_length (by simp), List.take_of_length_le (by simp)]
  · have e : x ++ c :: y = (x ++ [c]) ++ y := by simp
    rw [e, List.drop_append_of_le_length (by simp), List.drop_of_length_le (by simp)]
    rfl
/-- The pieces of what is answered. -/
theorem split_out : ∀ (bs : List (List UInt8)), (∀ a ∈ bs, (10 : UInt8) ∉ a) → ((bs.map nl).flatten).count 10 = bs.length ∧ splitK [10] 1 bs.length (bs.map nl).flatten = bs.map nl ++ [[]]
  | [], _ => ⟨rfl, rfl⟩
  | a :: bs, h => by
    obtain ⟨h1, h2⟩ := split_out bs (fun x hx => h x (List.mem_cons_of_mem _ hx))
    have ha := h a (List.mem_cons_self ..)
    have e : ((a :: bs).map nl).flatten = a ++ 10 :: (bs.map nl).flatten := by simp [nl]
    rw [e]
    refine ⟨?_, ?_⟩
    · rw [List.count_append, List.count_eq_zero.2 ha, List.count_cons_self, h1, List.length_cons]; omega
    · rw [List.length_cons, split1_cons 10 a _ ha, h2]; rfl
/-- A script's lines, one by one. -/
def trimL (l : List (List UInt8)) : List (List UInt8) := if l.getLastD [] = [] then l.dropLast else l
theorem trim_cons (x : List UInt8) (l : List (List UInt8)) (h : l ≠ []) : trimL (x :: l) = x :: trimL l := by
  unfold trimL
  cases l with
  | nil => exact absurd rfl h
  | cons y m =>
    have e : (x :: y :: m).getLastD [] = (y :: m).getLastD [] := rfl
    rw [e]
    split
    · rfl
    · rfl
def spL (c : UInt8) (s : List UInt8) : List (List UInt8) := splitK [c] 0 (s.count c) s
theorem spL_none (c : UInt8) (s : List UInt8) (h : c ∉ s) : spL c s = [s] := by unfold spL; rw [List.count_eq_zero.2 h]; rfl
theorem spL_at (c : UInt8) (x y : List UInt8) (h : c ∉ x) : spL c (x ++ c :: y) = x :: spL c y := by
  unfold spL
  rw [List.count_append, List.count_eq_zero.2 h, List.count_cons_self, Nat.zero_add, split_cons c x y h]
def linesL (s : List UInt8) : List (List UInt8) := trimL (spL 10 s)
theorem linesL_nil : linesL [] = [] := by decide +kernel
theorem linesL_cut (s : List UInt8) (h : s ≠ []) : linesL s = (cut s [10]).1 :: linesL (cut s [10]).2.1 ∧ (cut s [10]).2.1.length < s.length := by
  by_cases hc : (10 : UInt8) ∈ s
  · obtain ⟨x, y, rfl, hx⟩ := ix_part 10 s hc
    rw [cut_at 10 x y hx]
    refine ⟨?_, by simp; omega⟩
    unfold linesL
    rw [spL_at 10 x y hx]
    exact trim_cons _ _ (split_ne 10 _ _)
  · rw [cut_none 10 s hc]
    refine ⟨?_, by simp; exact List.length_pos_iff.2 h⟩
    rw [linesL_nil]
    unfold linesL
    rw [spL_none 10 s hc]
    unfold trimL
    rw [if_neg (by exact h)]
theorem spB_data (c : UInt8) (s : ByteArray) : (spB c s).map (fun x => x.data.toList) = spL c s.data.toList := by
  unfold spB spL
  have hc : countB s ⟨#[c]⟩ = s.data.toList.count c := count_one c s.data.toList
  rw [splitB_data ⟨#[c]⟩ 0 (countB s ⟨#[c]⟩) s, hc]
theorem linesOf_data (s : ByteArray) : (linesOf s).map (fun x => x.data.toList) = linesL s.data.toList := by
  unfold linesOf linesL
  have hp := spB_pos 10 s
  have hd := spB_data 10 s
  have hl : (spL 10 s.data.toList).getLastD [] = (wg (spB 10 s) ((spB 10 s).length - 1)).data.toList := by
    rw [← hd]
    have hne : (spB 10 s).map (fun x => x.data.toList) ≠ [] := by intro e; have := congrArg List.length e; simp at this; rw [this] at hp; simp at hp
    rw [List.getLastD_eq_getLast?, List.getLast?_eq_getElem?, List.length_map, List.getElem?_map, wg_get _ _ (by omega)]
    rfl
  unfold trimL
  rw [hl]
  by_cases h0 : (wg (spB 10 s) ((spB 10 s).length - 1)).size = 0
  · rw [if_pos h0, if_pos (by
      apply List.eq_nil_of_length_eq_zero
      rw [Array.length_toList]; exact h0), List.map_take, hd, List.dropLast_eq_take]
    congr 1
    rw [← hd, List.length_map]
  · rw [if_neg h0, if_neg (by
      intro e
      have := congrArg List.length e
      rw [Array.length_toList] at this
      exact h0 this), hd]
end Go.Proofs.YtgodgfnfaiiohaaGreatDoor

/- Plain: words by scanning. -/
namespace Go.Proofs.YtgodgfnfaiiohaaGreatDoor
open Go.ChangeShapes Go.WideShapes Go.ChangeAt Go.RowKit
open Lib
set_option maxRecDepth 20000
set_option linter.unusedVariables false
def full (l : List (List UInt8)) : List (List UInt8) := l.filter (fun w => decide (¬ w = []))
theorem wordsOf_data (x : ByteArray) : (wordsOf x).map (fun w => w.data.toList) = full (spL 32 x.data.toList) := by
  unfold wordsOf full
  rw [← spB_data, List.filter_map]
  congr 1
  apply List.filter_congr
  intro w _
  show decide (¬ w.size = 0) = decide (¬ w.data.toList = [])
  have : w.size = w.data.toList.length := by rw [Array.length_toList]; rfl
  exact decide_eq_decide.2 (by rw [this, List.length_eq_zero_iff])
/-- What is found behind k bytes: the words ws, and the bytes of the next one. -/
structure Scan (x : ByteArray) (k : Nat) (ws : List ByteArray) (cur : ByteArray) : Prop where
  no : (32 : UInt8) ∉ cur.data.toList
  eq : ws.map (fun w => w.data.toList) ++ full (spL 32 (cur.data.toList ++ x.data.toList.drop k)) = full (spL 32 x.data.toList)
  ln : ws.length ≤ k
  sz : cur.size ≤ k
theorem scan_start (x : ByteArray) : Scan x 0 [] ⟨#[]⟩ := ⟨by decide, by simp, Nat.le_refl _, Nat.le_refl _⟩
theorem drop_byt (x : ByteArray) (k : Nat) (h : k < x.size) : x.data.toList.drop k = (x.data.toList.getD k 0) :: x.data.toList.drop (k + 1) := by
  have hl : k < x.data.toList.length := by rw [Array.length_toList]; exact h
  rw [List.drop_eq_getElem_cons hl, List.getD_eq_getElem?_getD, List.getElem?_eq_getElem hl]
  rfl
theorem byt_get (x : ByteArray) (k : Nat) (h : k < x.size) : byt x k = (x.data.toList.getD k 0).toNat := rfl
theorem extract_one (x : ByteArray) (k : Nat) (h : k < x.size) : (x.extract k (k + 1)).data.toList = [x.data.toList.getD k 0] := by
  have hl : k < x.data.toList.length := by rw [Array.length_toList]; exact h
  have e : (x.extract k (k + 1)).data = x.data.extract k (k + 1) := by simp [ByteArray.data_extract]
  rw [e, Array.toList_extract, List.extract_eq_take_drop, drop_byt x k h, show k + 1 - k = 1 by omega]
  rfl
theorem Scan.byte {x : ByteArray} {k : Nat} {ws : List ByteArray} {cur : ByteArray} (h : Scan x k ws cur) (hk : k < x.size) (hb : ¬ byt x k = 32) : Scan x (k + 1) ws (cur ++ x.extract k (k + 1)) := by
  have e := extract_one x k hk
  have hb' : x.data.toList.getD k 0 ≠ 32 := fun e2 => hb (by rw [byt_get x k hk, e2]; rfl)
  refine ⟨?_, ?_, by have := h.ln; omega, ?_⟩
  · rw [Go.Joins.data_append, e]
    intro hm
    rcases List.mem_append.1 hm with hm | hm
    · exact h.no hm
    · exact hb' (List.mem_singleton.1 hm).symm
  · rw [Go.Joins.data_append, e, List.append_assoc]
    show _ ++ full (spL 32 (cur.data.toList ++ (x.data.toList.getD k 0 :: x.data.toList.drop (k + 1)))) = _
    rw [← drop_byt x k hk]
    exact h.eq
  · rw [ByteArray.size_append, ByteArray.size_extract]
    have := h.sz
    omega
def addW (ws : List ByteArray) (cur : ByteArray) : List ByteArray := if cur.size = 0 then ws else ws ++ [cur]
theorem full_cons (a : ByteArray) (l : List (List UInt8)) (ws : List ByteArray) : (addW ws a).map (fun w => w.data.toList) ++ full l = ws.map (fun w => w.data.toList) ++ full (a.data.toList :: l) := by
  have hs : a.size = a.data.toList.length := by rw [Array.length_toList]; rfl
  unfold addW full
  by_cases h : a.size = 0
  · have h' : a.data.toList = [] := List.eq_nil_of_length_eq_zero (by omega)
    rw [if_pos h, List.filter_cons, h', if_neg (by simp)]
  · have h' : ¬ a.data.toList = [] := fun e => h (by rw [hs, e]; rfl)
    rw [if_neg h, List.filter_cons, if_pos (by rw [decide_eq_true_eq]; exact h')]
    simp
theorem Scan.space {x : ByteArray} {k : Nat} {ws : List ByteArray} {cur : ByteArray} (h : Scan x k ws cur) (hk : k < x.size) (hb : byt x k = 32) : Scan x (k + 1) (addW ws cur) ⟨#[]⟩ := by
  have hb' : x.data.toList.getD k 0 = 32 := by
    have := byt_get x k hk
    rw [hb] at this
    exact UInt8.toNat_inj.1 this.symm
  refine ⟨by decide, ?_, ?_, Nat.zero_le _⟩
  · have e := h.eq
    rw [drop_byt x k hk, hb', spL_at 32 _ _ h.no] at e
    rw [full_cons]
    exact e
  · unfold addW
    have := h.ln
    split
    · omega
    · rw [List.length_append, List.length_singleton]; omega
theorem Scan.done {x : ByteArray} {ws : List ByteArray} {cur : ByteArray} (h : Scan x x.size ws cur) : addW ws cur = wordsOf x := by
  have e := h.eq
  rw [List.drop_of_length_le (by rw [Array.length_toList]; exact Nat.le_refl _), List.append_nil, spL_none 32 _ h.no, ← full_cons, ← wordsOf_data] at e
  have e2 : full [] = ([] : List (List UInt8)) := rfl
  rw [e2, List.append_nil] at e
  have h2 := congrArg (List.map mkB) e
  rw [List.map_map, List.map_map] at h2
  have id : ∀ l : List ByteArray, l.map (mkB ∘ fun w => w.data.toList) = l := fun l => by
    induction l with
    | nil => rfl
    | cons a l ih => rw [List.map_cons, ih]; congr 1
  rw [id, id] at h2
  exact h2
end Go.Proofs.YtgodgfnfaiiohaaGreatDoor

/- culref.Lines: how many lines are answered, and how many there are. -/
namespace Go.Proofs.YtgodgfnfaiiohaaGreatDoor
open Go.ChangeShapes Go.WideShapes Go.ChangeAt Go.RowKit
open Lib
set_option maxRecDepth 20000
set_option linter.unusedVariables false
theorem info_strs : (Tryz.prog.info? 23).map (fun i => (i.zero, i.size, i.bytes)) = some (some (.slice none 0 0), 1, 24) := by kernel_rfl
theorem one_slc (a : Option Addr) (n c : Nat) : ∀ u ∈ [Value.slice a n c], u.oneCell' = true := by
  intro u hu
  rw [List.mem_singleton.1 hu]; rfl
theorem drop_wg (LL : List ByteArray) (m : Nat) (a : List UInt8) (r : List (List UInt8)) (h : (LL.map (fun x => x.data.toList)).drop m = a :: r) : m < LL.length ∧ (wg LL m).data.toList = a ∧ (LL.map (fun x => x.data.toList)).drop (m + 1) = r := by
  have hl : m < (LL.map (fun x => x.data.toList)).length := Classical.byContradiction fun hh => by
    rw [List.drop_of_length_le (by omega)] at h; cases h
  rw [List.drop_eq_getElem_cons hl] at h
  have hm : m < LL.length := by simpa using hl
  refine ⟨hm, ?_, (List.cons.inj h).2⟩
  have := (List.cons.inj h).1
  rw [List.getElem_map] at this
  have e := wg_get LL m hm
  rw [List.getElem?_eq_getElem hm] at e
  rw [← Option.some.inj e]
  exact this
set_option maxHeartbeats 16000000 in
theorem lines_cl (s : ByteArray) (hs : s.size ≤ 65536) (w : World) (hT : Tabs w) :
    Calls Tryz.prog 10 #[.string s] w fun e w' => ∃ (a : Option Addr) (c : Nat), e = .returned (.tuple #[.slice a ((linesOf s).filter live).length c, .bool (decide ((linesOf s).length ≤ 200))]) ∧ ((linesOf s).filter live).length ≤ c ∧ c ≤ 9223372036854775807 ∧ Below w.heap.size w w' := by
  have HT := hidp hT
  have LD := hidp (linesOf_data s)
  have LSZ : (linesOf s).length ≤ 65537 := by
    unfold linesOf
    have := spB_le 10 s
    split
    · rw [List.length_take]; omega
    · omega
  have XSZ := hidp (fun x hx => Nat.le_trans (linesOf_size s x hx) hs)
  generalize linesOf s = LL at *
  have CU := hidp (fun (t : ByteArray) (ht : t.size ≤ 65536) W (hW : Tabs W) => by
    obtain ⟨m, hm⟩ := hW.ml
    exact Tryz.strings_Cut t ⟨#[10]⟩ m W (by omega) hm)
  clear hT
  go_enter Tryz.func10, Tryz.ntmps10
  go_wp2_with fail
  go_loopg [0, 4, 5] (s.size + 1) (fun gg tv ov nv wr => ∃ (t : ByteArray) (m : Nat), tv = .string t ∧ nv = .int .i64 m ∧ m ≤ LL.length ∧ t.size + 1 ≤ gg ∧ t.size ≤ 65536 ∧ Hid (linesL t.data.toList = (LL.map (fun x => x.data.toList)).drop m) ∧ Hid (∃ vs, wr.ownsRow w.heap.size 23 1 ov ((LL.take m).filter live).length vs) ∧ Below w.heap.size w wr)
  case atStart => exact ⟨s, 0, rfl, rfl, by omega, by omega, hs, hidp (by rw [LD.out]; rfl), hidp ⟨[], World.ownsRow_nil _ _ _ _⟩, Below.refl _ _⟩
  case round =>
    obtain ⟨t, m, rfl, rfl, hm, hgg, htz, hL, hv, hbl⟩ := hrel
    generalize wr = wo at *
    by_cases h0 : t.size = 0
    · obtain ⟨e0, e1⟩ := eq_empty1 t h0
      have hnil : t.data.toList = [] := List.eq_nil_of_length_eq_zero (by rw [Array.length_toList]; exact h0)
      have hd := hL.out
      rw [hnil, linesL_nil] at hd
      have hme : m = LL.length := by
        have := congrArg List.length hd
        rw [List.length_drop, List.length_map] at this
        simp at this
        omega
      subst hme
      obtain ⟨vs, ho⟩ := hv.out
      rw [List.take_length] at ho
      obtain ⟨a, cap, hve, hn1, hn2, _⟩ := owns_cells ho
      subst hve
      clear hv ho hL hd
      go_wp2_with fail
      go_ret2
      exact ⟨a, cap, by rw [show decide (LL.length ≤ 200) = decide ((LL.length : Int) ≤ 200) from decide_eq_decide.2 (by omega)]; rfl, hn1, hn2, hbl⟩
    · obtain ⟨e0, e1⟩ := eq_empty0 t h0
      have hne : t.data.toList ≠ [] := fun e => h0 (by have := congrArg List.length e; rw [Array.length_toList] at this; exact this)
      obtain ⟨c1, c2⟩ := linesL_cut t.data.toList hne
      have hd := hL.out
      rw [c1] at hd
      obtain ⟨hm1, hx, hr⟩ := drop_wg LL m _ _ hd.symm
      have CUT := hidp (show Calls Tryz.prog 19 #[.string t, .string ⟨#[10]⟩] wo fun e w' => e = .returned (.tuple #[.string ⟨(cut t.data.toList [10]).1.toArray⟩, .string ⟨(cut t.data.toList [10]).2.1.toArray⟩, .bool (cut t.data.toList [10]).2.2]) ∧ ∃ n, w' = wo.drewN n from CU.out t htz wo (HT.out.on hbl))
      have htl : t.data.toList.length = t.size := by rw [Array.length_toList]; rfl
      rw [htl] at c2
      have TK := hidp (wg_take LL m hm1)
      have hxs := XSZ.out (wg LL m) (wg_mem LL m hm1)
      generalize wg LL m = x at *
      have hxe : (⟨(cut t.data.toList [10]).1.toArray⟩ : ByteArray) = x := by rw [← hx]
      rw [hxe] at CUT
      generalize (cut t.data.toList [10]).2.1 = b1 at *
      generalize (cut t.data.toList [10]).2.2 = bb at *
      have HR := hidp hr
      clear hd c1 hx hr hxe hL hne
      go_wp2_with fail
      refine CUT.out.mono ?_
      rintro e w3 ⟨rfl, hw3⟩
      have B3 := hidp (show Below wo.heap.size wo w3 by obtain ⟨nq, rfl⟩ := hw3; exact below_drewN (Below.refl _ _) _)
      clear CUT hw3
      go_wp2_with fail
      go_loopg [9, 10, 11] (x.size + 1) (fun gg2 v cv iv wx => ∃ (k : Nat) (ws : List ByteArray) (cur : ByteArray), iv = .int .i64 k ∧ cv = .string cur ∧ k ≤ x.size + 1 ∧ x.size + 1 - k ≤ gg2 ∧ Hid ((k ≤ x.size ∧ Scan x k ws cur) ∨ (k = x.size + 1 ∧ ws = wordsOf x)) ∧ Hid (wx.ownsRow w3.heap.size 9 1 v ws.length (ws.map Value.string)) ∧ cur.size ≤ 65536 ∧ ws.length ≤ 65537 ∧ Below w3.heap.size w3 wx)
      case atStart => exact ⟨0, [], ⟨#[]⟩, rfl, rfl, by omega, by omega, hidp (.inl ⟨by omega, scan_start x⟩), hidp (World.ownsRow_nil _ _ _ _), by decide, by simp, Below.refl _ _⟩
      case round =>
        obtain ⟨k, ws, cur, rfl, rfl, hk, hgk, hsc, hws, hcz, hwl, hbx⟩ := hrel
        by_cases hk1 : k ≤ x.size
        · have SC := hidp (show Scan x k ws cur from by
            rcases hsc.out with h | h
            · exact h.2
            · omega)
          have hsz := SC.out.sz
          have hln := SC.out.ln
          clear hsc
          by_cases hk2 : k < x.size
          · have IX := index_byt x k hk2
            by_cases hb : byt x k = 32
            · have S2 := hidp (SC.out.space hk2 hb)
              rw [hb] at IX
              by_cases hcu : cur.size = 0
              · obtain ⟨f0, f1⟩ := eq_empty1 cur hcu
                have S3 := hidp (show Scan x (k + 1) ws ⟨#[]⟩ by have := S2.out; unfold addW at this; rw [if_pos hcu] at this; exact this)
                clear S2 SC hcu
                go_wp2_with fail
                go_roundg (x.size + 1 - (k + 1))
                case measure => omega
                case rel => exact ⟨k + 1, ws, ⟨#[]⟩, by go_num, rfl, by omega, by omega, hidp (.inl ⟨by omega, S3.out⟩), hws, by decide, hwl, hbx⟩
              · obtain ⟨f0, f1⟩ := eq_empty0 cur hcu
                have S3 := hidp (show Scan x (k + 1) (ws ++ [cur]) ⟨#[]⟩ by have := S2.out; unfold addW at this; rw [if_neg hcu] at this; exact this)
                clear S2 SC hcu
                go_wp2_with (at_builtin; refine wpList_append_new rfl (.tmp 48) (.tmp 50) 23 rfl w3.heap.size 9 _ 1 16 info_str rfl (by decide) Tryz.underlying23 _ ws.length _ rfl hws.out rfl (one_str _) rfl rfl (by omega) (by decide) hbx.size ?_; intro v0 x0 nv g0 d0; have bl0 := append_step hws.out hbx (Nat.le_refl _) g0; clear g0 d0)
                have NV := hidp nv
                clear nv hbx hws
                go_roundg (x.size + 1 - (k + 1))
                case measure => omega
                case rel => exact ⟨k + 1, ws ++ [cur], ⟨#[]⟩, by go_num, rfl, by omega, by omega, hidp (.inl ⟨by omega, S3.out⟩), hidp (by rw [List.length_append, List.map_append]; exact NV.out), by decide, by rw [List.length_append, List.length_singleton]; omega, bl0⟩
            · have S3 := hidp (SC.out.byte hk2 hb)
              have hb' : (((byt x k : Nat) : Int) != 32) = true := by rw [bne_iff_ne]; omega
              have SL : ∀ W : World, (Instr.slice 9 (.string x) (some (.int .i64 (k : Int))) (some (.int .i64 ((k : Int) + 1))) none).run Tryz.prog W = .ok (.string (x.extract k (k + 1))) W := fun W => by
                rw [run_slice_string W _ _ _ _ _ _ Tryz.underlying9 (by omega) (by omega) (by omega)]
                have e1 : ((k : Int)).toNat = k := by omega
                have e2 : ((k : Int) + 1).toNat = k + 1 := by omega
                rw [e1, e2]
              have hex : (x.extract k (k + 1)).size = 1 := by rw [ByteArray.size_extract]; omega
              have hap : (cur ++ x.extract k (k + 1)).size = cur.size + 1 := by rw [ByteArray.size_append, hex]
              clear SC hb
              generalize x.extract k (k + 1) = y at *
              generalize byt x k = by_ at *
              go_wp2_with fail
              go_roundg (x.size + 1 - (k + 1))
              case measure => omega
              case rel => exact ⟨k + 1, ws, cur ++ y, by go_num, rfl, by omega, by omega, hidp (.inl ⟨by omega, S3.out⟩), hws, by omega, hwl, hbx⟩
          · obtain rfl : k = x.size := by omega
            have S2 := hidp SC.out.done
            by_cases hcu : cur.size = 0
            · obtain ⟨f0, f1⟩ := eq_empty1 cur hcu
              have S3 := hidp (show ws = wordsOf x by have := S2.out; unfold addW at this; rw [if_pos hcu] at this; exact this)
              clear S2 SC hcu
              go_wp2_with fail
              go_roundg (x.size + 1 - (x.size + 1))
              case measure => omega
              case rel => exact ⟨x.size + 1, ws, ⟨#[]⟩, by go_num, rfl, by omega, by omega, hidp (.inr ⟨rfl, S3.out⟩), hws, by decide, hwl, hbx⟩
            · obtain ⟨f0, f1⟩ := eq_empty0 cur hcu
              have S3 := hidp (show ws ++ [cur] = wordsOf x by have := S2.out; unfold addW at this; rw [if_neg hcu] at this; exact this)
              clear S2 SC hcu
              go_wp2_with (at_builtin; refine wpList_append_new rfl (.tmp 48) (.tmp 50) 23 rfl w3.heap.size 9 _ 1 16 info_str rfl (by decide) Tryz.underlying23 _ ws.length _ rfl hws.out rfl (one_str _) rfl rfl (by omega) (by decide) hbx.size ?_; intro v0 x0 nv g0 d0; have bl0 := append_step hws.out hbx (Nat.le_refl _) g0; clear g0 d0)
              have NV := hidp nv
              clear nv hbx hws
              go_roundg (x.size + 1 - (x.size + 1))
              case measure => omega
              case rel => exact ⟨x.size + 1, ws ++ [cur], ⟨#[]⟩, by go_num, rfl, by omega, by omega, hidp (.inr ⟨rfl, S3.out⟩), hidp (by rw [List.length_append, List.map_append]; exact NV.out), by decide, by rw [List.length_append, List.length_singleton]; omega, bl0⟩
        · obtain rfl : k = x.size + 1 := by omega
          have WE := hidp (show ws = wordsOf x from by
            rcases hsc.out with h | h
            · omega
            · exact h.2)
          have LV := hidp (show live x = decide (¬ ((wordsOf x).length = 0 ∨ wg (wordsOf x) 0 = hash1)) from rfl)
          rw [← WE.out] at LV
          obtain ⟨vs, ho⟩ := hv.out
          have B6 := hidp (B3.out.trans (hbx.mono B3.out.size))
          have HO6 := hidp (owns_belowD ho B6.out)
          have BB6 := hidp (bstep hbl B6.out)
          have hws1 := hws.out
          have FI := hidp (show ((LL.take (m + 1)).filter live).length = ((LL.take m).filter live).length + if live x = true then 1 else 0 by
            rw [TK.out, List.filter_append, List.length_append, List.filter_cons]
            split <;> simp)
          have hml : ((LL.take m).filter live).length ≤ 65537 := by
            refine Nat.le_trans (List.length_filter_le _ _) ?_
            rw [List.length_take]; omega
          clear hsc hws hv ho hbl hbx B3 TK WE
          have hbs : (⟨b1.toArray⟩ : ByteArray).size = b1.length := List.size_toArray
          by_cases h0 : ws.length = 0
          · have FF0 := hidp (show ((LL.take (m + 1)).filter live).length = ((LL.take m).filter live).length by rw [FI.out, LV.out, if_neg (by rw [decide_eq_true_eq]; exact fun e => e (.inl h0))]; rfl)
            obtain ⟨av, cv, hve, _, _⟩ := owns_form hws1
            subst hve
            rw [h0]
            clear hws1 FI LV
            go_wp2_with fail
            go_roundg (b1.length + 1)
            case measure => omega
            case rel => exact ⟨⟨b1.toArray⟩, m + 1, rfl, by go_num, by omega, by rw [hbs]; omega, by rw [hbs]; omega, hidp HR.out.symm, hidp ⟨vs, by rw [FF0.out]; exact HO6.out⟩, BB6.out⟩
          · obtain ⟨ga, cap, hve, ga1, ga2, hnc, hcm⟩ := owns_addr hws1 (by omega)
            subst hve
            have z0 := hws1.cellAt 0 (by omega)
            rw [List.getElem?_map, wg_get ws 0 (by omega)] at z0
            have z1 := ck (Below.refl _ _) (show wr.cell? ⟨ga, 0, none⟩ = some (.string (wg ws 0)) from z0)
            have hzp : (0 : Int) < (ws.length : Int) := by omega
            clear hws1 z0
            by_cases hh : wg ws 0 = hash1
            · have FF0 := hidp (show ((LL.take (m + 1)).filter live).length = ((LL.take m).filter live).length by rw [FI.out, LV.out, if_neg (by rw [decide_eq_true_eq]; exact fun e => e (.inr hh))]; rfl)
              have eh : ((wg ws 0).toList == [35]) = true := by rw [hh]; decide +kernel
              have eh2 : ((wg ws 0).toList != [35]) = false := by rw [hh]; decide +kernel
              clear FI LV hh
              generalize wg ws 0 = zz at *
              go_wp2_with fail
              go_roundg (b1.length + 1)
              case measure => omega
              case rel => exact ⟨⟨b1.toArray⟩, m + 1, rfl, by go_num, by omega, by rw [hbs]; omega, by rw [hbs]; omega, hidp HR.out.symm, hidp ⟨vs, by rw [FF0.out]; exact HO6.out⟩, BB6.out⟩
            · have FF0 := hidp (show ((LL.take (m + 1)).filter live).length = ((LL.take m).filter live).length + 1 by rw [FI.out, LV.out, if_pos (by rw [decide_eq_true_eq]; exact fun e => e.elim h0 hh)])
              have eh : ((wg ws 0).toList == [35]) = false := eqFl (t := hash1) (by decide +kernel) hh
              have eh2 : ((wg ws 0).toList != [35]) = true := by rw [bne, eqFl (t := hash1) (by decide +kernel) hh]; rfl
              have hbz : w.heap.size ≤ wr.heap.size := BB6.out.size
              clear FI LV hh
              generalize wg ws 0 = zz at *
              generalize ((LL.take m).filter live).length = nn at *
              go_wp2_with (at_builtin; refine wpList_append_new rfl (.tmp 61) (.tmp 63) 29 rfl w.heap.size 23 _ 1 24 info_strs rfl (by decide) Tryz.underlying29 _ nn _ rfl HO6.out rfl (one_slc _ _ _) rfl rfl (by omega) (by decide) hbz ?_; intro v0 x0 nv g0 d0; have bl0 := append_step HO6.out BB6.out (Nat.le_refl _) g0; clear g0 d0)
              have NV := hidp nv
              clear nv
              go_roundg (b1.length + 1)
              case measure => omega
              case rel => exact ⟨⟨b1.toArray⟩, m + 1, rfl, by go_num, by omega, by rw [hbs]; omega, by rw [hbs]; omega, hidp HR.out.symm, hidp ⟨_, by rw [FF0.out]; exact NV.out⟩, bl0⟩
end Go.Proofs.YtgodgfnfaiiohaaGreatDoor

/- strings.SplitAfter at one byte, and the first checks of the two laws at their literals. -/
namespace Go.Proofs.YtgodgfnfaiiohaaGreatDoor
open Go.ChangeShapes Go.WideShapes Go.ChangeAt Go.RowKit
open Lib
set_option maxRecDepth 20000
set_option linter.unusedVariables false
/-- What strings.SplitAfter makes of a text at the line feed. -/
def afB (s : ByteArray) : List ByteArray := Lib.splitB ⟨#[10]⟩ 1 (Lib.countB s ⟨#[10]⟩) s
theorem afB_len (s : ByteArray) : (afB s).length = s.data.toList.count 10 + 1 := by
  rw [afB, Lib.splitB_all ⟨#[10]⟩ (Nat.le_refl 1) _ _ _ rfl]
  show Lib.count s.data.toList [10] + 1 = _
  rw [Lib.count_one]
theorem afB_data (s : ByteArray) : (afB s).map (fun x => x.data.toList) = splitK [10] 1 (s.data.toList.count 10) s.data.toList := by
  rw [afB, Lib.splitB_data, ← Lib.count_one]
theorem after_c (s : ByteArray) (w : World) (hs : s.size ≤ 4294967280) (hT : Tabs w) :
    Calls Tryz.prog 6 #[.string s, .string ⟨#[10]⟩] w fun e w' => e = .returned (.slice (some ⟨w.heap.size, 0, none⟩) (afB s).length (afB s).length) ∧ Below w.heap.size w w' ∧ ∀ k, k < (afB s).length → w'.cell? ⟨w.heap.size, k, none⟩ = some (.string (wg (afB s) k)) := by
  obtain ⟨m, hm⟩ := hT.ml
  have hle := Lib.countB_le ⟨#[10]⟩ (Nat.le_refl 1) s.size s (Nat.le_refl _)
  have SC := Tryz.strings_genSplit s ⟨#[10]⟩ 1 (-1) (Lib.countB s ⟨#[10]⟩ + 1) m w (by omega) hm (Nat.le_refl 1) (Nat.le_refl 1) (by decide) (by decide) (by rw [if_pos (by decide)]; omega)
  rw [Nat.add_sub_cancel] at SC
  change Calls _ _ _ _ (fun e w' => e = .returned (.slice (some ⟨w.heap.size, 0, none⟩) (afB s).length (Lib.countB s ⟨#[10]⟩ + 1)) ∧ w' = w.alloc (.cells (Lib.cellsOf (afB s) (Lib.countB s ⟨#[10]⟩ + 1)) 9)) at SC
  have hl : Lib.countB s ⟨#[10]⟩ + 1 = (afB s).length := (Lib.splitB_all ⟨#[10]⟩ (Nat.le_refl 1) 1 _ s rfl).symm
  rw [hl, Lib.cellsOf_full] at SC
  generalize afB s = L at *
  clear hl hle hm hT
  have CC := hidp SC
  clear SC
  go_enter Tryz.func6, Tryz.ntmps6
  go_wp2_with fail
  refine CC.out.mono ?_
  rintro e w' ⟨rfl, rfl⟩
  go_wp2_with fail
  go_ret
  refine ⟨rfl, bal (Below.refl _ _) _, fun k hk => ?_⟩
  unfold World.cell?
  rw [heap_alloc_new]
  have : (L.map Value.string)[k]? = some (.string (wg L k)) := by
    rw [List.getElem?_map, wg_get _ _ hk]; rfl
  simpa using this
end Go.Proofs.YtgodgfnfaiiohaaGreatDoor

/- The first checks of the two laws, at their literals. -/
namespace Go.Proofs.YtgodgfnfaiiohaaGreatDoor
open Go.ChangeShapes Go.WideShapes Go.ChangeAt Go.RowKit
open Lib
set_option maxRecDepth 20000
set_option linter.unusedVariables false
def lit1 : ByteArray := ⟨#[35, 32, 120, 10, 10, 109, 111, 115, 116, 32, 52, 44, 53, 44, 52, 10]⟩
def lw1 : ByteArray := ⟨#[109, 111, 115, 116, 32, 52, 44, 53, 44, 52]⟩
theorem lit1_lines : linesOf lit1 = [⟨#[35, 32, 120]⟩, ⟨#[]⟩, lw1] := by decide +kernel
theorem lit1_w0 : wordsOf ⟨#[35, 32, 120]⟩ = [hash1, ⟨#[120]⟩] := by decide +kernel
theorem lit1_w1 : wordsOf ⟨#[]⟩ = [] := by decide +kernel
theorem lit1_w2 : wordsOf lw1 = [⟨#[109, 111, 115, 116]⟩, ⟨#[52, 44, 53, 44, 52]⟩] := by decide +kernel
theorem lit1_c : lineC [⟨#[109, 111, 115, 116]⟩, ⟨#[52, 44, 53, 44, 52]⟩] 2 = some (.most [4, 5, 4], 2) := by kernel_rfl
theorem lit1_out : runO lit1 = [111, 107, 32, 52, 10] := by
  unfold runO
  rw [lit1_lines, if_neg (by decide +kernel)]
  show (stepF (stepF (stepF (desk0, []) ⟨#[35, 32, 120]⟩) ⟨#[]⟩) lw1).2 = _
  rw [show stepF (desk0, []) ⟨#[35, 32, 120]⟩ = (desk0, []) by unfold stepF; rw [if_pos (.inr (by rw [lit1_w0]; rfl))]]
  rw [show stepF (desk0, []) ⟨#[]⟩ = (desk0, []) by unfold stepF; rw [if_pos (.inl (by rw [lit1_w1]; rfl))]]
  unfold stepF
  rw [lit1_w2, if_neg (by decide +kernel)]
  have hl : lineR desk0 [⟨#[109, 111, 115, 116]⟩, ⟨#[52, 44, 53, 44, 52]⟩] 2 = (.ok (toldS [4]), desk0) := by
    unfold lineR
    rw [lit1_c]
    show (if (2 : Nat) = 2 then opF desk0 (.most [4, 5, 4]) else _) = _
    rw [if_pos rfl]
    have e1 : qmoE [(4 : Int), 5, 4].length = 0 := by decide +kernel
    have e2 : qmoR [4, 5, 4] [(4 : Int), 5, 4].length = (4, true) := by decide +kernel
    simp only [opF, e1, e2, if_true]
  show [] ++ (ansS (lineR desk0 [⟨#[109, 111, 115, 116]⟩, ⟨#[52, 44, 53, 44, 52]⟩] 2).1).data.toList ++ [10] = _
  rw [hl]
  decide +kernel
end Go.Proofs.YtgodgfnfaiiohaaGreatDoor

/- The walk of culkeep.DeskLines. -/
namespace Go.Proofs.YtgodgfnfaiiohaaGreatDoor
open Go.ChangeShapes Go.WideShapes Go.ChangeAt Go.RowKit
open Lib
set_option maxRecDepth 20000
set_option linter.unusedVariables false
theorem pre_ok (t : List UInt8) : Lib.hasPrefix (111 :: 107 :: t) [111, 107] = true := by simp [Lib.hasPrefix, List.isPrefixOf]
theorem pre_er (t : List UInt8) : Lib.hasPrefix (101 :: 114 :: 114 :: 111 :: 114 :: 32 :: t) [101, 114, 114, 111, 114, 32] = true := by simp [Lib.hasPrefix, List.isPrefixOf]
theorem linesOf_ok {s : ByteArray} (h : runO s ≠ [101, 114, 114, 111, 114, 32, 50, 10]) : s.size ≤ 65536 ∧ (linesOf s).length ≤ 200 ∧ runO s = (runQ (linesOf s)).2 := by
  unfold runO at h ⊢
  by_cases hc : 65536 < s.size ∨ 200 < (linesOf s).length
  · rw [if_pos hc] at h; exact absurd rfl h
  · rw [if_neg hc]
    exact ⟨by omega, by omega, rfl⟩
theorem wg_map (L : List ByteArray) (k : Nat) (h : k < L.length) : (L.map (fun x => x.data.toList))[k]? = some (wg L k).data.toList := by
  rw [List.getElem?_map, wg_get L k h]; rfl
theorem after_good (l : List ByteArray) (hl : l.length ≤ 200) (g : ByteArray) (hg : g = ⟨(runQ l).2.toArray⟩) : g.size ≤ 100000000 ∧ (afB g).length = (l.filter live).length + 1 ∧ wg (afB g) (l.filter live).length = ⟨#[]⟩ ∧
    ∀ k, k < (l.filter live).length → Lib.hasPrefix (wg (afB g) k).data.toList [111, 107] = true ∨ Lib.hasPrefix (wg (afB g) k).data.toList [101, 114, 114, 111, 114, 32] = true := by
  obtain ⟨bs, h1, h2, h3⟩ := runQ_out l l.length (Nat.le_refl _)
  have h0 := (runQ_ok opsOk l l.length (Nat.le_refl _)).2
  rw [List.take_length] at h0 h1 h3
  have hd : g.data.toList = (bs.map nl).flatten := by rw [hg, ← h1]
  obtain ⟨k1, k2⟩ := split_out bs (fun a ha => (h2 a ha).1)
  have L1 := afB_len g
  have L2 := afB_data g
  rw [hd, k1] at L1 L2
  rw [k2] at L2
  rw [h3] at L1
  have hz : g.size = g.data.toList.length := by rw [Array.length_toList]; rfl
  refine ⟨by rw [hz, hd, ← h1]; omega, L1, ?_, fun k hk => ?_⟩
  · have e := wg_map (afB g) (l.filter live).length (by omega)
    rw [L2, ← h3, List.getElem?_append_right (by rw [List.length_map]; exact Nat.le_refl _), List.length_map, Nat.sub_self] at e
    have e2 : (wg (afB g) bs.length).data.toList = [] := (Option.some.inj e).symm
    rw [← h3]
    exact ByteArray.ext (Array.toList_inj.1 e2)
  · have e := wg_map (afB g) k (by omega)
    rw [L2, List.getElem?_append_left (by rw [List.length_map]; omega), List.getElem?_map, List.getElem?_eq_getElem (by omega)] at e
    have e2 := Option.some.inj e
    rw [← e2]
    rcases (h2 _ (List.getElem_mem (show k < bs.length by omega))).2 with ⟨t, ht⟩ | ⟨t, ht⟩
    · rw [ht]; exact .inl (pre_ok (t ++ [10]))
    · rw [ht]; exact .inr (pre_er (t ++ [10]))
set_option maxHeartbeats 16000000 in
theorem deskLines_w (s : ByteArray) (hs : s.size ≤ 4294967280) (w : World) (hT : Tabs w) :
    Calls Tryz.prog 4 #[.string s] w fun e w' => e = .returned (.bool true) ∧ Below w.heap.size w w' := by
  have HT := hidp hT
  have R1 := hidp (show Calls Tryz.prog 5 #[.string ⟨#[35, 32, 120, 10, 10, 109, 111, 115, 116, 32, 52, 44, 53, 44, 52, 10]⟩] w fun e w' => e = .returned (.string ⟨#[111, 107, 32, 52, 10]⟩) ∧ Below w.heap.size w w' by
    have := run_c lit1 (by decide) w hT opsOk
    rw [lit1_out] at this
    exact this)
  have RR := hidp (fun W (hb : Below w.heap.size w W) => run_c s hs W (hT.on hb) opsOk)
  have LC := hidp (fun h1 W (hb : Below w.heap.size w W) => lines_cl s h1 W (hT.on hb))
  have LO := hidp (@linesOf_ok s)
  have AG := hidp (after_good (linesOf s))
  clear hT
  generalize runO s = ro at *
  go_enter Tryz.func4, Tryz.ntmps4
  go_wp2_with fail
  refine R1.out.mono ?_
  rintro e w1 ⟨rfl, B1⟩
  clear R1
  go_wp2_with fail
  refine (RR.out w1 B1).mono ?_
  rintro e w2 ⟨rfl, B2⟩
  have B02 := hidp (bstep B1 B2)
  clear RR B1 B2
  by_cases he : ro = [101, 114, 114, 111, 114, 32, 50, 10]
  · subst he
    go_wp2_with fail
    go_ret
    exact ⟨rfl, B02.out⟩
  · obtain ⟨hz, hl, hro⟩ := LO.out he
    generalize hg : (⟨ro.toArray⟩ : ByteArray) = g at *
    have e2 : (g.toList == [101, 114, 114, 111, 114, 32, 50, 10]) = false := eqFl (t := ⟨#[101, 114, 114, 111, 114, 32, 50, 10]⟩) (by decide +kernel) (fun e => he (by rw [← hg] at e; have := congrArg (fun x => x.data.toList) e; simpa using this))
    obtain ⟨gz, g1, g2, g3⟩ := AG.out hl g (by rw [← hg, hro])
    have LX := hidp (LC.out hz)
    have AF := hidp (fun W (hb : Below w.heap.size w W) => after_c g W (by omega) (HT.out.on hb))
    have G3 := hidp g3
    have hlen : ((linesOf s).filter live).length ≤ 200 := Nat.le_trans (List.length_filter_le _ _) hl
    rw [show decide ((linesOf s).length ≤ 200) = true from decide_eq_true hl] at LX
    clear LC AG LO he hro hg g3 hl
    generalize afB g = A at *
    generalize ((linesOf s).filter live).length = n at *
    go_wp2_with fail
    refine (LX.out w2 B02.out).mono ?_
    rintro e w3 ⟨a, c, rfl, hc1, hc2, B3⟩
    have B03 := hidp (bstep B02.out B3)
    clear LX B02 B3
    go_wp2_with fail
    refine (AF.out w3 B03.out).mono ?_
    rintro e w4 ⟨rfl, B4, C4⟩
    have hbk : w3.heap.size = w3.heap.size := rfl
    have B04 := hidp (bstep B03.out B4)
    have C4' := hidp C4
    have z0 := C4 n (by omega)
    rw [g2] at z0
    have hz4 : (w3.heap.size : Nat) < w4.heap.size := lt_of_cell z0
    clear AF B03 B4 C4 hbk
    generalize w3.heap.size = bk at *
    rw [g1]
    have z1 := ck (Below.refl _ _) (show w4.cell? ⟨bk, n, none⟩ = some (.string ⟨#[]⟩) from z0)
    go_wp2_with fail
    go_loopg [45] n (fun gg iv wr => ∃ (k : Nat), iv = .int .i64 k ∧ k ≤ n ∧ n - k ≤ gg ∧ wr = w4)
    case atStart => exact ⟨0, rfl, by omega, by omega, rfl⟩
    case round =>
      obtain ⟨k, rfl, hk, hgk, rfl⟩ := hrel
      by_cases hkn : k < n
      · have zk := ck (Below.refl _ _) (show wr.cell? ⟨bk, k, none⟩ = some (.string (wg A k)) from C4'.out k (by omega))
        have GK := hidp (G3.out k hkn)
        have HP := hidp (fun p W => Tryz.strings_HasPrefix (wg A k) p W)
        generalize wg A k = x at *
        by_cases h1 : Lib.hasPrefix x.data.toList [111, 107] = true
        · have P1 := hidp (show Calls Tryz.prog 8 #[.string x, .string ⟨#[111, 107]⟩] wr fun e w' => e = .returned (.bool true) ∧ w' = wr by
            have := HP.out ⟨#[111, 107]⟩ wr
            rw [h1] at this
            exact this)
          clear HP GK h1
          go_wp2_with fail
          refine P1.out.mono ?_
          rintro e w5 ⟨rfl, rfl⟩
          go_wp2_with fail
          go_roundg (n - (k + 1))
          case measure => omega
          case rel => exact ⟨k + 1, by go_num, by omega, by omega, rfl⟩
        · have h2 := GK.out.resolve_left h1
          have P1 := hidp (show Calls Tryz.prog 8 #[.string x, .string ⟨#[111, 107]⟩] wr fun e w' => e = .returned (.bool false) ∧ w' = wr by
            have := HP.out ⟨#[111, 107]⟩ wr
            rw [show Lib.hasPrefix x.data.toList [111, 107] = false from by simpa using h1] at this
            exact this)
          have P2 := hidp (show Calls Tryz.prog 8 #[.string x, .string ⟨#[101, 114, 114, 111, 114, 32]⟩] wr fun e w' => e = .returned (.bool true) ∧ w' = wr by
            have := HP.out ⟨#[101, 114, 114, 111, 114, 32]⟩ wr
            rw [h2] at this
            exact this)
          clear HP GK h1 h2
          go_wp2_with fail
          refine P1.out.mono ?_
          rintro e w5 ⟨rfl, rfl⟩
          go_wp2_with fail
          refine P2.out.mono ?_
          rintro e w6 ⟨rfl, rfl⟩
          go_wp2_with fail
          go_roundg (n - (k + 1))
          case measure => omega
          case rel => exact ⟨k + 1, by go_num, by omega, by omega, rfl⟩
      · obtain rfl : k = n := by omega
        go_wp2_with fail
        go_ret
        exact ⟨rfl, B04.out⟩
end Go.Proofs.YtgodgfnfaiiohaaGreatDoor

/- What the desk's rows list gives the walks: the tables and the two errors; and a world that fits. -/
namespace Go.Proofs.YtgodgfnfaiiohaaGreatDoor.deskLaid
open Go.ChangeShapes Go.WideShapes Go.ChangeAt Go.RowKit
open Go.Proofs.YtgodgfnfaiiohaaGreatDoor
set_option linter.unusedVariables false
theorem gES : Tryz.prog.globalNamed "strconv.ErrSyntax" = some 6 := by kernel_rfl
theorem gESType : (Tryz.prog.globals[6]?).map (·.type) = some 50 := by kernel_rfl
theorem gER : Tryz.prog.globalNamed "strconv.ErrRange" = some 7 := by kernel_rfl
theorem gERType : (Tryz.prog.globals[7]?).map (·.type) = some 50 := by kernel_rfl
theorem gPT : Tryz.prog.globalNamed "internal/strconv.uint64pow10" = some 5 := by kernel_rfl
theorem gPTType : (Tryz.prog.globals[5]?).map (·.type) = some 188 := by kernel_rfl
theorem uPT : Tryz.prog.underlying 188 = some (.array 20 57) := by kernel_rfl
theorem uU : Tryz.prog.underlying 57 = some (.int .u64) := by kernel_rfl
theorem cellsPT : Tryz.prog.cellsOf 188 = 20 := by kernel_rfl
theorem cellsU : Tryz.prog.cellsOf 57 = 1 := by kernel_rfl
theorem cellsES : Tryz.prog.cellsOf 227 = 1 := by kernel_rfl
theorem cellsS : Tryz.prog.cellsOf 9 = 1 := by kernel_rfl
theorem star : "*" ++ "errors.errorString" = "*errors.errorString" := by decide
theorem rowES (u : TypeId) (h : Tryz.prog.typeName? 3 u = some "*errors.errorString") : u = 225 :=
  typeName_ptr_named (nm := "errors.errorString") (by rw [star]; kernel_rfl) (by kernel_rfl) (by decide) u (by rw [star]; exact h)
theorem pow10 : (Rows.laid_internal_strconv_uint64pow10 : DataW Unit) = Lib.tabData .u64 Lib.pow10Tab := by kernel_rfl
theorem tabs_of_laid {W : World} (h0 : laidMetH Tryz.prog Rows.deskLinesUptoRow.laid W) (hm : ∃ m : Int, W.cell? ⟨0, 0, none⟩ = some (.int .i64 m)) : Tabs W := by
  have h : laidMet Tryz.prog Rows.deskLinesUptoRow.laid W := by
    rw [MakeChecks.laidMetH_plain _ _ _ (by kernel_rfl)] at h0
    exact h0
  have h2 := h.tail.tail
  have h4 := h2.tail.tail
  obtain ⟨a0, s0, hv0, -, -, -⟩ := laid_sentinel h4 gER gERType Tryz.underlying50 rowES Tryz.underlying225 Tryz.underlying227 rfl rfl Tryz.underlying9 cellsES cellsS
  obtain ⟨a1, s1, hv1, -, -, -⟩ := laid_sentinel h4.tail gES gESType Tryz.underlying50 rowES Tryz.underlying225 Tryz.underlying227 rfl rfl Tryz.underlying9 cellsES cellsS
  rw [show (Rows.laid_internal_strconv_uint64pow10 : DataW Unit) = Lib.tabData .u64 Lib.pow10Tab from pow10] at h2
  have e1 := World.var?_cell gES hv1 0
  have e0 := World.var?_cell gER hv0 0
  exact ⟨Lib.tabIs_of_head gPT gPTType uPT uU cellsU cellsPT h2, ⟨.iface 225 (.pointer (some a1)), by simpa using e1, .inr ⟨_, _, rfl⟩⟩, ⟨.iface 225 (.pointer (some a0)), by simpa using e0, .inr ⟨_, _, rfl⟩⟩, hm⟩
/- A world that fits. -/
abbrev synS : ByteArray := { data := #[105, 110, 118, 97, 108, 105, 100, 32, 115, 121, 110, 116, 97, 120] }
abbrev rngS : ByteArray := { data := #[118, 97, 108, 117, 101, 32, 111, 117, 116, 32, 111, 102, 32, 114, 97, 110, 103, 101] }
noncomputable def low : Nat := (World.holding Tryz.prog default ⟨#[], #[], []⟩).heap.size
def one : DataW Unit → List Value
  | .lit (.int k z) => [.int k z]
  | _ => []
def two : DataW Unit → List Value
  | .agg l => l.flatMap one
  | d => one d
def three : DataW Unit → List Value
  | .agg l => l.flatMap two
  | d => one d
def lay (l : List Value) : Obj → Obj
  | .cells _ t frozen => .cells l.toArray t frozen
  | o => o
noncomputable def laidWorld (os : Os) : World :=
  let w0 := World.holding Tryz.prog os ⟨#[.cells #[.string synS] 227, .cells #[.string rngS] 227], #[], []⟩
  { w0 with heap := ((((((w0.heap.modify 6 (lay [.iface 225 (.pointer (some ⟨low, 0, none⟩))])).modify 7 (lay [.iface 225 (.pointer (some ⟨low + 1, 0, none⟩))])).modify 3 (lay (Go.Pinned.utf8FirstZ.map (fun (n : Nat) => Value.int .u8 (n : Int))))).modify 4 (lay (three Rows.laid_unicode_utf8_acceptRanges))).modify 5 (lay (three Rows.laid_internal_strconv_uint64pow10))).modify 8 (lay (three Rows.laid_math_bits_deBruijn32tab))).modify 9 (lay (three Rows.laid_math_bits_deBruijn64tab)) }
theorem laid_met (os : Os) (args : Array Value) : laidMet Tryz.prog Rows.deskLinesUptoRow.laid ((laidWorld os).forCall (fun _ _ => 0) ⟨#[], args, []⟩).memory :=
  laidMet_of_run' 8 (by kernel_rfl) (by kernel_rfl)
end Go.Proofs.YtgodgfnfaiiohaaGreatDoor.deskLaid
