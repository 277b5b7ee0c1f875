/- Merged: DeskBad, DeskNum, DeskNext, DeskWords. -/
import Derived.Test.YtgodgfnfaiiohaaGreatDoorBase
import Derived.Test.YtgodgfnfaiiohaaGreatDoorKit
import Derived.WalkSmall
import Derived.Test.YtgodgfnfaiiohaaGreatDoorShelf
import Derived.Test.YtgodgfnfaiiohaaGreatDoorPairs
import Derived.Lib.AtoiErrMem
import Derived.Deep.QuietTactic
import Derived.BigQuiet
import Derived.Lib.ItoaLen
/- desk.bad and desk.must: a fault is thrown. -/
namespace Go.Proofs.YtgodgfnfaiiohaaGreatDoor
open Go.ChangeShapes Go.WideShapes Go.ChangeAt Go.RowKit
set_option maxRecDepth 20000
/-- What a fault in a line throws. -/
def faultV (e : Int) : PanicEntry := { v := .iface 63 (.agg #[.int .i64 e]), recovered := false }
theorem bad_c (e : Int) (w : World) :
    Calls Tryz.prog 45 #[.int .i64 e] w fun x w' => x = .panicked [faultV e] ∧ w' = w := by
  go_enter Tryz.func45, Tryz.ntmps45
  go_wp2
  exact ⟨rfl, rfl, rfl⟩
theorem must_ok (w : World) :
    Calls Tryz.prog 41 #[.int .i64 0] w fun x w' => x = .returned (.tuple #[]) ∧ w' = w := by
  go_enter Tryz.func41, Tryz.ntmps41
  go_wp2
  go_end0
  exact ⟨rfl, rfl⟩
theorem must_bad (e : Int) (he : e ≠ 0) (w : World) :
    Calls Tryz.prog 41 #[.int .i64 e] w fun x w' => x = .panicked [faultV e] ∧ w' = w := by
  have B := hidp (bad_c e w)
  have h1 : (e != 0) = true := by simpa using he
  have h2 : (e == 0) = false := by simpa using he
  clear he
  go_enter Tryz.func41, Tryz.ntmps41
  go_wp2_with fail
  refine B.out.mono ?_
  rintro x w' ⟨rfl, rfl⟩
  clear B
  go_wp2
  exact ⟨rfl, rfl, rfl⟩
end Go.Proofs.YtgodgfnfaiiohaaGreatDoor

/- desk.number: a number in canonical digits, or a fault. -/
namespace Go.Proofs.YtgodgfnfaiiohaaGreatDoor
open Go.ChangeShapes Go.WideShapes Go.ChangeAt Go.RowKit Go.Sort
set_option maxRecDepth 20000
set_option linter.unusedVariables false
/-- What the listed variables hold. -/
structure Tabs (w : World) : Prop where
  tab : Lib.TabIs Tryz.prog w "internal/strconv.uint64pow10" .u64 Lib.pow10Tab
  es : ∃ ev, w.cell? ⟨6, 0, none⟩ = some ev ∧ (ev = .nilIface ∨ ∃ te pe, ev = .iface te pe)
  er : ∃ ev, w.cell? ⟨7, 0, none⟩ = some ev ∧ (ev = .nilIface ∨ ∃ te pe, ev = .iface te pe)
  ml : ∃ m : Int, w.cell? ⟨0, 0, none⟩ = some (.int .i64 m)
theorem Tabs.below {w w' : World} (h : Tabs w) (hb : Below 8 w w') : Tabs w' := by
  refine ⟨?_, ?_, ?_, ?_⟩
  · have h1 := h.tab
    unfold Lib.TabIs World.var? at h1 ⊢
    rw [show Tryz.prog.globalNamed "internal/strconv.uint64pow10" = some 5 by kernel_rfl] at h1 ⊢
    simp only [Option.bind_some] at h1 ⊢
    rw [hb.block _ (by decide)]
    exact h1
  · obtain ⟨ev, h1, h2⟩ := h.es
    exact ⟨ev, (hb.cell (p := ⟨_, 0, none⟩) (by decide)).trans h1, h2⟩
  · obtain ⟨ev, h1, h2⟩ := h.er
    exact ⟨ev, (hb.cell (p := ⟨_, 0, none⟩) (by decide)).trans h1, h2⟩
  · obtain ⟨m, h1⟩ := h.ml
    exact ⟨m, (hb.cell (p := ⟨_, 0, none⟩) (by decide)).trans h1⟩
theorem Tabs.size {w : World} (h : Tabs w) : 8 ≤ w.heap.size := by
  obtain ⟨ev, h1, _⟩ := h.er
  have := lt_of_cell h1
  exact this
def itoS (n : Int) : ByteArray := ⟨(Lib.itoa n).toArray⟩
/-- What a word is as a number. -/
def nmb (s : ByteArray) : Option Int :=
  match Lib.atoiAll s.data.toList with
  | .ok v => if v < 0 ∨ 18 < s.size ∨ ¬ s = itoS v then none else some v
  | _ => none
theorem atoi_bd (l : List UInt8) (v : Int) (h : Lib.atoiAll l = .ok v) : -9223372036854775808 ≤ v ∧ v ≤ 9223372036854775807 := by
  unfold Lib.atoiAll at h
  cases l with
  | nil => cases h
  | cons c r =>
    simp only at h
    split at h
    · cases h
    · cases h
    · rename_i u _
      by_cases hn : c.toNat = 45
      · simp only [hn, not_true_eq_false, false_and, if_false, true_and, if_true] at h
        split at h
        · cases h
        · injection h with h; omega
      · simp only [hn, not_false_eq_true, true_and, false_and, if_false] at h
        split at h
        · cases h
        · injection h with h; omega
theorem grow_below (w : World) (os : Array Obj) (k : Nat) : Below w.heap.size w (grow (w.drewN k) os) := by
  refine ⟨rfl, rfl, rfl, ?_, fun q hq => ?_⟩
  · show w.heap.size ≤ (w.heap ++ os).size
    simp
  · show (w.heap ++ os)[q]? = _
    rw [Array.getElem?_append_left hq]
theorem ito_c (n : Int) (w : World) (hT : Tabs w) (h0 : -9223372036854775808 ≤ n) (h1 : n ≤ 9223372036854775807) :
    Calls Tryz.prog 22 #[.int .i64 n] w fun e w' => e = .returned (.string (itoS n)) ∧ Below w.heap.size w w' := by
  refine (Tryz.strconv_Itoa n h0 h1 w hT.tab).mono ?_
  rintro e w' ⟨rfl, k, os, rfl⟩
  exact ⟨rfl, grow_below w os k⟩
set_option maxHeartbeats 4000000 in
theorem number_c (s : ByteArray) (w : World) (hT : Tabs w) (hs : s.size ≤ 281474976710656) :
    Calls Tryz.prog 47 #[.string s] w fun e w' => ((∃ v, nmb s = some v ∧ 0 ≤ v ∧ v ≤ 9223372036854775807 ∧ e = .returned (.int .i64 v)) ∨ (nmb s = none ∧ e = .panicked [faultV 9])) ∧ Below w.heap.size w w' := by
  have BD := hidp (fun W => bad_c 9 W)
  have NM := hidp (show nmb s = _ from rfl)
  cases hA : Lib.atoiAll s.data.toList with
  | range =>
    obtain ⟨ev, h1, h2⟩ := hT.er
    have AT := hidp (Tryz.strconv_Atoi_range s hs hA ev w h1 h2)
    have hN : nmb s = none := by unfold nmb; rw [hA]
    have HN := hidp hN
    clear hA h1 h2 hT NM hN
    generalize Lib.atoiSat s.data.toList = q at *
    go_enter Tryz.func47, Tryz.ntmps47
    go_wp2_with fail
    refine AT.out.mono ?_
    rintro e w1 ⟨N, rfl, _, _, hb⟩
    clear AT
    go_wp2_with fail
    refine (BD.out _).mono ?_
    rintro x w' ⟨rfl, rfl⟩
    clear BD
    go_wp2
    exact ⟨rfl, .inr ⟨HN.out, rfl⟩, hb⟩
  | ok v =>
    obtain ⟨b0, b1⟩ := atoi_bd _ _ hA
    have AT := hidp ((Tryz.strconv_Atoi_ok s (by omega) v hA w).mono (fun e w' h => (show e = .returned (.tuple #[.int .i64 v, .nilIface]) ∧ Below w.heap.size w w' from ⟨h.1, by
      rcases h.2 with rfl | ⟨t, rfl⟩
      · exact Below.refl _ _
      · exact Lib.bytesWorld_below _ _ _⟩)))
    have hN : nmb s = if v < 0 ∨ 18 < s.size ∨ ¬ s = itoS v then none else some v := by unfold nmb; rw [hA]
    have IT := hidp (fun W (hB : Below w.heap.size w W) => ito_c v W (hT.below (hB.mono hT.size)) b0 b1)
    clear hA hT NM
    have qN : ∀ W : World, (binOp .neq 50 .nilIface .nilIface).run Tryz.prog W = .ok (.bool false) W := fun W => rfl
    by_cases hv : v < 0
    · have HN := hidp (show nmb s = none by rw [hN, if_pos (.inl hv)])
      clear hN IT
      go_enter Tryz.func47, Tryz.ntmps47
      go_wp2_with fail
      refine AT.out.mono ?_
      rintro e w1 ⟨rfl, hb⟩
      clear AT
      go_wp2_with fail
      refine (BD.out _).mono ?_
      rintro x w' ⟨rfl, rfl⟩
      clear BD
      go_wp2
      exact ⟨rfl, .inr ⟨HN.out, rfl⟩, hb⟩
    · have hv' : 0 ≤ v := by omega
      by_cases hz : 18 < s.size
      · have hzI : (18 : Int) < (s.size : Int) := by omega
        have HN := hidp (show nmb s = none by rw [hN, if_pos (.inr (.inl hz))])
        clear hN IT
        go_enter Tryz.func47, Tryz.ntmps47
        go_wp2_with fail
        refine AT.out.mono ?_
        rintro e w1 ⟨rfl, hb⟩
        clear AT
        go_wp2_with fail
        refine (BD.out _).mono ?_
        rintro x w' ⟨rfl, rfl⟩
        clear BD
        go_wp2
        exact ⟨rfl, .inr ⟨HN.out, rfl⟩, hb⟩
      · have hzI : ¬ (18 : Int) < (s.size : Int) := by omega
        have hd1 : decide (v < 0) = false := decide_eq_false hv
        have hd2 : decide ((18 : Int) < (s.size : Int)) = false := decide_eq_false hzI
        by_cases he : s = itoS v
        · have HN := hidp (show nmb s = some v by rw [hN, if_neg (fun h => by rcases h with h | h | h; exact hv h; exact hz h; exact h he)])
          have hne := eqT he
          clear hN he
          generalize itoS v = t at *
          go_enter Tryz.func47, Tryz.ntmps47
          go_wp2_with fail
          refine AT.out.mono ?_
          rintro e w1 ⟨rfl, hb⟩
          clear AT
          go_wp2_with fail
          refine (IT.out _ hb).mono ?_
          rintro e w2 ⟨rfl, hb2⟩
          have hb3 := bstep hb hb2
          clear IT hb hb2
          go_wp2_with fail
          go_ret
          exact ⟨.inl ⟨v, HN.out, hv', b1, rfl⟩, hb3⟩
        · have HN := hidp (show nmb s = none by rw [hN, if_pos (.inr (.inr he))])
          have hne := eqF he
          clear hN he
          generalize itoS v = t at *
          go_enter Tryz.func47, Tryz.ntmps47
          go_wp2_with fail
          refine AT.out.mono ?_
          rintro e w1 ⟨rfl, hb⟩
          clear AT
          go_wp2_with fail
          refine (IT.out _ hb).mono ?_
          rintro e w2 ⟨rfl, hb2⟩
          have hb3 := bstep hb hb2
          clear IT hb hb2
          go_wp2_with fail
          refine (BD.out _).mono ?_
          rintro x w' ⟨rfl, rfl⟩
          clear BD
          go_wp2
          exact ⟨rfl, .inr ⟨HN.out, rfl⟩, hb3⟩
  | _ =>
    obtain ⟨ev, h1, h2⟩ := hT.es
    have AT := hidp (Tryz.strconv_Atoi_syntax s hs (hA.trans rfl) ev w h1 h2)
    have hN : nmb s = none := by unfold nmb; rw [hA]
    have HN := hidp hN
    clear hA h1 h2 hT NM hN
    go_enter Tryz.func47, Tryz.ntmps47
    go_wp2_with fail
    refine AT.out.mono ?_
    rintro e w1 ⟨N, rfl, _, _, hb⟩
    clear AT
    go_wp2_with fail
    refine (BD.out _).mono ?_
    rintro x w' ⟨rfl, rfl⟩
    clear BD
    go_wp2
    exact ⟨rfl, .inr ⟨HN.out, rfl⟩, hb⟩
end Go.Proofs.YtgodgfnfaiiohaaGreatDoor

/- (*words).next: the next word, or a fault. -/
namespace Go.Proofs.YtgodgfnfaiiohaaGreatDoor
open Go.ChangeShapes Go.WideShapes Go.ChangeAt Go.RowKit
set_option maxRecDepth 20000
set_option linter.unusedVariables false
def wg (L : List ByteArray) (i : Nat) : ByteArray := L.getD i ⟨#[]⟩
/-- The words of a line, at the pointer P; k are taken. -/
structure WdAt (w : World) (P : Nat) (L : List ByteArray) (n k : Nat) : Prop where
  lt : P < w.heap.size
  len : L.length = n
  s : ∃ a c, w.cell? ⟨P, 0, none⟩ = some (.slice a n c) ∧ n ≤ c ∧ c ≤ 9223372036854775807 ∧ ∃ b o, (n = 0 ∨ a = some ⟨b, o, none⟩) ∧ b ≠ P ∧ ∀ i, i < n → w.cell? ⟨b, o + i, none⟩ = some (.string (wg L i))
  at_ : w.cell? ⟨P, 1, none⟩ = some (.int .i64 (k : Int))
  le : k ≤ n
  fz : ∀ i, w.frozen? ⟨P, i, none⟩ = false
theorem wd_step {w : World} {P : Nat} {L : List ByteArray} {n k a b : Nat} (h : WdAt w P L n k) (hk : k < n) : WdAt (((w.drewN a).setCell ⟨P, 1, none⟩ (.int .i64 ((k : Int) + 1))).drewN b) P L n (k + 1) := by
  obtain ⟨ad, c, c0, hc, hm, bb, o, hz, hbP, hx⟩ := h.s
  refine ⟨by show P < (w.setCell ⟨P, 1, none⟩ _).heap.size; simpa using h.lt, h.len, ⟨ad, c, ?_, hc, hm, bb, o, hz, hbP, fun i hi => ?_⟩, ?_, by omega, fun i => ?_⟩
  · show (w.setCell ⟨P, 1, none⟩ (.int .i64 ((k : Int) + 1))).cell? ⟨P, 0, none⟩ = _
    rw [World.cell?_setCell_other _ _ _ _ (by simp)]
    exact c0
  · show (w.setCell ⟨P, 1, none⟩ (.int .i64 ((k : Int) + 1))).cell? ⟨bb, o + i, none⟩ = _
    rw [World.cell?_setCell_far _ _ _ _ (fun e => hbP (by simpa using e.symm))]
    exact hx i hi
  · show (w.setCell ⟨P, 1, none⟩ (.int .i64 ((k : Int) + 1))).cell? ⟨P, 1, none⟩ = some (.int .i64 (((k + 1 : Nat) : Int)))
    have := h.at_
    have e : (((k + 1 : Nat) : Int)) = (k : Int) + 1 := by omega
    rw [e]
    go_simp
  · show (w.setCell ⟨P, 1, none⟩ (.int .i64 ((k : Int) + 1))).frozen? ⟨P, i, none⟩ = false
    have := h.fz i
    go_simp
set_option maxHeartbeats 4000000 in
theorem next_end (P : Nat) (L : List ByteArray) (n : Nat) (w : World) (h : WdAt w P L n n) :
    Calls Tryz.prog 46 #[.pointer (some ⟨P, 0, none⟩)] w fun e w' => e = .panicked [faultV 9] ∧ Below w.heap.size w w' := by
  have BD := hidp (fun W => bad_c 9 W)
  obtain ⟨a, c, c0, hc, hm, _⟩ := h.s
  have c1 := h.at_
  have hd : ((n : Int) == (n : Int)) = true := by simp
  clear h
  go_enter Tryz.func46, Tryz.ntmps46
  go_wp2_with fail
  go_quiet (fail)
  go_wp2_with fail
  refine (BD.out _).mono ?_
  rintro x w' ⟨rfl, rfl⟩
  clear BD
  go_wp2
  exact ⟨rfl, rfl, below_drewN (Below.refl _ _) _⟩
set_option maxHeartbeats 4000000 in
theorem dnext_c (P : Nat) (L : List ByteArray) (n k : Nat) (w : World) (h : WdAt w P L n k) (hk : k < n) :
    Calls Tryz.prog 46 #[.pointer (some ⟨P, 0, none⟩)] w fun e w' => e = .returned (.string (wg L k)) ∧ WdAt w' P L n (k + 1) ∧ w.grownBy w' (some P) := by
  have HW := hidp h
  obtain ⟨a, c, c0, hc, hm, b, o, hz, hbP, hx⟩ := h.s
  obtain rfl : a = some ⟨b, o, none⟩ := hz.resolve_left (by omega)
  have c1 := h.at_
  have hf := h.fz 1
  have cx := hx k hk
  have hPb : ¬ P = b := fun e => hbP e.symm
  have hd : ((k : Int) == (n : Int)) = false := by simp; omega
  have hkI : (k : Int) < (n : Int) := by omega
  have HX := hidp hx
  clear h hz hx
  go_enter Tryz.func46, Tryz.ntmps46
  go_wp2_with fail
  go_quiet (fail)
  go_wp2_with fail
  go_quiet (fail)
  go_wp2
  go_ret
  refine ⟨rfl, ?_, ?_⟩
  · exact wd_step HW.out hk
  · exact ⟨rfl, rfl, rfl, (by show w.heap.size ≤ (w.setCell ⟨P, 1, none⟩ _).heap.size; simp), fun q hq hne => Below.heap_setCell w ⟨P, 1, none⟩ _ q (fun e => hne (by rw [e]))⟩
end Go.Proofs.YtgodgfnfaiiohaaGreatDoor

/- (*words).num, (*words).end, told. -/
namespace Go.Proofs.YtgodgfnfaiiohaaGreatDoor
open Go.ChangeShapes Go.WideShapes Go.ChangeAt Go.RowKit
set_option maxRecDepth 20000
set_option linter.unusedVariables false
theorem gb_of {w w' : World} (h : Below w.heap.size w w') (r : Option Nat) : w.grownBy w' r := ⟨h.os, h.tape, h.output, h.size, fun k hk _ => h.block k hk⟩
theorem gb_trans {a b c : World} {r : Option Nat} (h : a.grownBy b r) (k : b.grownBy c r) : a.grownBy c r :=
  ⟨k.os.trans h.os, k.tape.trans h.tape, k.output.trans h.output, Nat.le_trans h.size k.size, fun q hq hne => (k.block q (Nat.lt_of_lt_of_le hq h.size) hne).trans (h.block q hq hne)⟩
theorem Tabs.grown {w w' : World} {P : Nat} (h : Tabs w) (hg : w.grownBy w' (some P)) (hP : 8 ≤ P) : Tabs w' :=
  h.below ((Below.refl 8 w).grown hg h.size (fun q e => by cases e; exact hP))
theorem WdAt.below {w w' : World} {P : Nat} {L : List ByteArray} {n k : Nat} (h : WdAt w P L n k) (hb : Below w.heap.size w w') : WdAt w' P L n k := by
  obtain ⟨a, c, c0, hc, hm, b, o, hz, hbP, hx⟩ := h.s
  exact ⟨Nat.lt_of_lt_of_le h.lt hb.size, h.len, ⟨a, c, ck hb c0, hc, hm, b, o, hz, hbP, fun i hi => ck hb (hx i hi)⟩, ck hb h.at_, h.le, fun i => (hb.frozen (p := ⟨P, i, none⟩) h.lt).trans (h.fz i)⟩
set_option maxHeartbeats 4000000 in
theorem wend_ok (P : Nat) (L : List ByteArray) (n : Nat) (w : World) (h : WdAt w P L n n) :
    Calls Tryz.prog 25 #[.pointer (some ⟨P, 0, none⟩)] w fun e w' => e = .returned (.tuple #[]) ∧ Below w.heap.size w w' := by
  obtain ⟨a, c, c0, hc, hm, _⟩ := h.s
  have c1 := h.at_
  have hd : ((n : Int) == (n : Int)) = true := by simp
  have hd' : ((n : Int) != (n : Int)) = false := by simp
  clear h
  go_enter Tryz.func25, Tryz.ntmps25
  go_wp2_with fail
  go_quiet (fail)
  go_wp2
  go_end0
  exact ⟨rfl, below_drewN (Below.refl _ _) _⟩
set_option maxHeartbeats 4000000 in
theorem wend_bad (P : Nat) (L : List ByteArray) (n k : Nat) (w : World) (h : WdAt w P L n k) (hk : k < n) :
    Calls Tryz.prog 25 #[.pointer (some ⟨P, 0, none⟩)] w fun e w' => e = .panicked [faultV 9] ∧ Below w.heap.size w w' := by
  have BD := hidp (fun W => bad_c 9 W)
  obtain ⟨a, c, c0, hc, hm, _⟩ := h.s
  have c1 := h.at_
  have hd : ((k : Int) == (n : Int)) = false := by simp; omega
  have hd' : ((k : Int) != (n : Int)) = true := by simp; omega
  clear h
  go_enter Tryz.func25, Tryz.ntmps25
  go_wp2_with fail
  go_quiet (fail)
  go_wp2_with fail
  refine (BD.out _).mono ?_
  rintro x w' ⟨rfl, rfl⟩
  clear BD
  go_wp2
  exact ⟨rfl, rfl, below_drewN (Below.refl _ _) _⟩
set_option maxHeartbeats 4000000 in
theorem num_end (P : Nat) (L : List ByteArray) (n : Nat) (w : World) (h : WdAt w P L n n) :
    Calls Tryz.prog 50 #[.pointer (some ⟨P, 0, none⟩)] w fun e w' => e = .panicked [faultV 9] ∧ Below w.heap.size w w' := by
  have NX := hidp (next_end P L n w h)
  clear h
  go_enter Tryz.func50, Tryz.ntmps50
  go_wp2_with fail
  refine NX.out.mono ?_
  rintro x w' ⟨rfl, hb⟩
  clear NX
  go_wp2
  exact ⟨rfl, rfl, hb⟩
set_option maxHeartbeats 4000000 in
/-- The next number: its value and one word more taken, or a fault. -/
theorem dnum_c (P : Nat) (L : List ByteArray) (n k : Nat) (w : World) (h : WdAt w P L n k) (hk : k < n) (hT : Tabs w) (hP : 8 ≤ P) (hs : (wg L k).size ≤ 281474976710656) :
    Calls Tryz.prog 50 #[.pointer (some ⟨P, 0, none⟩)] w fun e w' => ((∃ v, nmb (wg L k) = some v ∧ 0 ≤ v ∧ v ≤ 9223372036854775807 ∧ e = .returned (.int .i64 v)) ∨ (nmb (wg L k) = none ∧ e = .panicked [faultV 9])) ∧ WdAt w' P L n (k + 1) ∧ w.grownBy w' (some P) := by
  have NX := hidp (dnext_c P L n k w h hk)
  have HT := hidp hT
  have NB := hidp (fun W (hW : Tabs W) => number_c (wg L k) W hW hs)
  clear h hT hs
  go_enter Tryz.func50, Tryz.ntmps50
  go_wp2_with fail
  refine NX.out.mono ?_
  rintro x w1 ⟨rfl, hW, hg⟩
  have HG := hidp hg
  have HW := hidp hW
  clear NX hW hg
  go_wp2_with fail
  refine (NB.out _ (HT.out.grown HG.out hP)).mono ?_
  rintro x w2 ⟨⟨v, h1, h2, h3, rfl⟩ | ⟨h1, rfl⟩, hb⟩
  · have H1 := hidp h1
    clear NB h1
    go_wp2
    go_ret
    exact ⟨.inl ⟨v, H1.out, h2, h3, rfl⟩, HW.out.below hb, gb_trans HG.out (gb_of hb _)⟩
  · have H1 := hidp h1
    clear NB h1
    go_wp2
    exact ⟨rfl, .inr ⟨H1.out, rfl⟩, HW.out.below hb, gb_trans HG.out (gb_of hb _)⟩
def toldS (l : List Int) : ByteArray := l.foldl (fun s x => s ++ (⟨#[32]⟩ ++ itoS x)) ⟨#[111, 107]⟩
theorem itoS_size (n : Int) (h0 : -9223372036854775808 ≤ n) (h1 : n ≤ 9223372036854775807) : (itoS n).size ≤ 21 := by
  have := Lib.itoa_length_le n h0 h1
  show (Lib.itoa n).toArray.size ≤ 21
  simpa using this
theorem toldS_snoc (l : List Int) (x : Int) : toldS (l ++ [x]) = toldS l ++ (⟨#[32]⟩ ++ itoS x) := by simp [toldS]
set_option maxHeartbeats 4000000 in
theorem told_c (a : Option Addr) (n c : Nat) (xs : List Int) (w : World) (h : IntsAt w a n c xs) (hT : Tabs w) (hn : n ≤ 100000) :
    Calls Tryz.prog 42 #[.slice a n c] w fun e w' => e = .returned (.string (toldS xs)) ∧ Below w.heap.size w w' := by
  obtain ⟨b, o, hz, hx⟩ := h.split
  have hz' : Hid (n = 0) ∨ a = some ⟨b, o, none⟩ := hz.imp_left hidp
  have HX := hidp hx
  have LN := hidp h.len
  have mm := h.max
  have ee := h.le
  have HB := hidp h.bd
  have IT := hidp (fun (x : Int) (W : World) (hB : Below w.heap.size w W) (h0 : -9223372036854775808 ≤ x) (h1 : x ≤ 9223372036854775807) => ito_c x W (hT.below (hB.mono hT.size)) h0 h1)
  have T0 := hidp (show toldS (xs.take 0) = ⟨#[111, 107]⟩ from rfl)
  clear h hz hx hT
  go_enter Tryz.func42, Tryz.ntmps42
  go_wp2_with fail
  go_loopw [3, 8] (fun s i wr => ∃ (k : Nat) (t : ByteArray), k ≤ n ∧ i = .int .i64 k ∧ s = .string t ∧ Hid (t = toldS (xs.take k)) ∧ t.size ≤ 2 + 22 * k ∧ Below w.heap.size w wr) (fun _ i _ => n - (intOf i).toNat)
  case atStart => exact ⟨0, _, by omega, rfl, rfl, hidp T0.out.symm, by decide, Below.refl _ _⟩
  case round =>
    obtain ⟨k, t, hk, rfl, rfl, HS, hsz, hbl⟩ := hrel
    by_cases hlt : k < n
    · obtain rfl : a = some ⟨b, o, none⟩ := hz'.resolve_left (fun e => by have := e.out; omega)
      obtain ⟨hbs, x0⟩ := HX.out k hlt
      have q0 := carry_cell ⟨hbs, x0⟩ hbl
      have hkl : k < xs.length := by have := LN.out; omega
      have hm : gi xs k ∈ xs := gi_mem xs k hkl
      obtain ⟨g0, g1⟩ := HB.out _ hm
      have HT := hidp (show toldS (xs.take (k + 1)) = toldS (xs.take k) ++ (⟨#[32]⟩ ++ itoS (gi xs k)) by
        rw [show xs.take (k + 1) = xs.take k ++ [gi xs k] from by
          rw [List.take_succ_eq_append_getElem hkl]
          simp [gi, List.getElem?_eq_getElem hkl]]
        exact toldS_snoc _ _)
      have I1 := hidp (fun W (hB : Below w.heap.size w W) => IT.out (gi xs k) W hB g0 g1)
      have hkI : (k : Int) < (n : Int) := by omega
      have hs1 := itoS_size (gi xs k) g0 g1
      clear x0 hm hkl
      generalize gi xs k = x at *
      generalize itoS x = ix at *
      have hs2 : (⟨#[32]⟩ ++ ix : ByteArray).size = 1 + ix.size := by simp [ByteArray.size_append]; rfl
      have hs3 : (t ++ (⟨#[32]⟩ ++ ix)).size = t.size + (1 + ix.size) := by rw [ByteArray.size_append, hs2]
      go_wp2_with fail
      refine (I1.out _ hbl).mono ?_
      rintro e w2 ⟨rfl, hb⟩
      have hbl2 := bstep hbl hb
      clear I1 hb q0
      go_wp2_with fail
      go_roundw
      case measure => simp [intOf]; omega
      case rel => exact ⟨k + 1, _, by omega, by go_num, rfl, hidp (by rw [HT.out, ← HS.out]), by rw [hs3]; omega, hbl2⟩
    · obtain rfl : n = k := by omega
      have HF := hidp (show t = toldS xs by rw [HS.out, ← LN.out, List.take_length])
      clear HS
      go_wp2
      go_ret
      obtain rfl := HF.out
      exact ⟨rfl, hbl⟩
end Go.Proofs.YtgodgfnfaiiohaaGreatDoor
