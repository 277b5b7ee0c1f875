/- Merged: ShelfB, Board. -/
import Derived.Test.YtdfghgeccannnaaDoorShelf
import Derived.Test.YtdfghgeccannnaaDoorBoardMath
import Derived.Deep.LoopGhost
import Derived.Deep.QuietTactic
import Derived.BigQuiet
import Derived.Shelf.Abstract
/- The rest of the contracts of the library: none here. -/

/- Contracts of package board: one, newer, find. -/
namespace Go.Proofs.YtdfghgeccannnaaDoor
open Go.ChangeShapes Go.WideShapes Go.ChangeAt Go.RowKit Go.Lib
set_option maxRecDepth 20000
/-- A rune that a beginning may not hold. -/
def badR (r : Nat) : Bool := decide (r < 33) || decide (126 < r)
theorem badr_c (w : World) : PredAt Tryd.prog 58 #[] encR badR w := fun W r _ => by
  unfold FnGives
  have BR := hidp (show badR r = (decide (r < 33) || decide (126 < r)) from rfl)
  by_cases h1 : r < 33
  · have R := hidp (show badR r = true by rw [BR.out, decide_eq_true h1]; rfl)
    have z1 : (r : Int) < 33 := by omega
    clear h1
    go_enter Tryd.func58, Tryd.ntmps58
    go_wp2
    go_ret
    exact ⟨ret_bool R.out.symm, 0, rfl⟩
  · have z1 : ¬ (r : Int) < 33 := by omega
    by_cases h2 : 126 < r
    · have R := hidp (show badR r = true by rw [BR.out, decide_eq_true h2, Bool.or_true])
      have z2 : (126 : Int) < (r : Int) := by omega
      clear h1 h2
      go_enter Tryd.func58, Tryd.ntmps58
      go_wp2
      go_ret
      exact ⟨ret_bool R.out.symm, 0, rfl⟩
    · have R := hidp (show badR r = false by rw [BR.out, decide_eq_false h1, decide_eq_false h2]; rfl)
      have z2 : ¬ (126 : Int) < (r : Int) := by omega
      clear h1 h2
      go_enter Tryd.func58, Tryd.ntmps58
      go_wp2
      go_ret
      exact ⟨ret_bool R.out.symm, 0, rfl⟩
/-- A beginning that may not be. -/
def hasBad (s : ByteArray) : Bool := decide (0 ≤ Lib.idxFunc badR true s)
def txtE (s : ByteArray) : Bool := decide (16 < s.size) || hasBad s
def numE (l e : Int) : Bool := decide (l < 0 ∨ 20 < l ∨ e < 1 ∨ 1000000000000 < e)
/-- What board.one says. -/
def oneE (r : Rl) : Int := if txtE r.1 then 3 else if numE r.2.1 r.2.2 then 1 else 0
set_option maxHeartbeats 2000000 in
theorem one_c (s : ByteArray) (l e : Int) (w : World) :
    Calls Tryd.prog 44 #[.agg #[.string s, .int .i64 l, .int .i64 e]] w fun ee w' => ee = .returned (.int .i64 (oneE (s, l, e))) ∧ Below w.heap.size w w' := by
  have OE := hidp (show oneE (s, l, e) = if txtE s then 3 else if numE l e then 1 else 0 from rfl)
  have TE := hidp (show txtE s = (decide (16 < s.size) || hasBad s) from rfl)
  have NE := hidp (show numE l e = decide (l < 0 ∨ 20 < l ∨ e < 1 ∨ 1000000000000 < e) from rfl)
  have CF := hidp (fun W => show Calls Tryd.prog 57 #[.string s, .func (.func 58) #[] #[]] W fun ee w' => ee = .returned (.bool (hasBad s)) ∧ Below W.heap.size W w' from Tryd.strings_ContainsFunc 58 #[] (enters_of Tryd.func58 (by kernel_rfl) rfl) badR s W (badr_c W))
  have hb : Below w.heap.size w (w.alloc (.cells #[.string s, .int .i64 l, .int .i64 e] 39)) := bal (Below.refl _ _) _
  have c0 : (w.alloc (.cells #[.string s, .int .i64 l, .int .i64 e] 39)).cell? ⟨w.heap.size, 0, none⟩ = some (.string s) := by simp
  have c1 : (w.alloc (.cells #[.string s, .int .i64 l, .int .i64 e] 39)).cell? ⟨w.heap.size, 1, none⟩ = some (.int .i64 l) := by simp
  have c2 : (w.alloc (.cells #[.string s, .int .i64 l, .int .i64 e] 39)).cell? ⟨w.heap.size, 2, none⟩ = some (.int .i64 e) := by simp
  by_cases h16 : 16 < s.size
  · have R := hidp (show oneE (s, l, e) = 3 by rw [OE.out, TE.out, decide_eq_true h16]; rfl)
    have h16' : (16 : Int) < (s.size : Int) := by omega
    clear h16
    go_enter Tryd.func44, Tryd.ntmps44
    go_wp2
    go_ret
    exact ⟨ret_int R.out.symm, hb⟩
  · have h16' : ¬ (16 : Int) < (s.size : Int) := by omega
    have T2 := hidp (show txtE s = hasBad s by rw [TE.out, decide_eq_false h16]; rfl)
    clear h16
    generalize hasBad s = hB at *
    cases hB with
    | true =>
      have R := hidp (show oneE (s, l, e) = 3 by rw [OE.out, T2.out]; rfl)
      go_enter Tryd.func44, Tryd.ntmps44
      go_wp2_with (go_at_call 57; refine (CF.out _).mono ?_; rintro ee w' ⟨rfl, hb1⟩; have q1 := ck hb1 c1; have q2 := ck hb1 c2; replace hb1 := bstep hb hb1; clear c0 c1 c2)
      go_ret
      exact ⟨ret_int R.out.symm, hb1⟩
    | false =>
      have O2 := hidp (show oneE (s, l, e) = if numE l e then 1 else 0 by rw [OE.out, T2.out]; rfl)
      by_cases g1 : l < 0
      · have R := hidp (show oneE (s, l, e) = 1 by rw [O2.out, NE.out, decide_eq_true (by omega)]; rfl)
        go_enter Tryd.func44, Tryd.ntmps44
        go_wp2_with (go_at_call 57; refine (CF.out _).mono ?_; rintro ee w' ⟨rfl, hb1⟩; have q1 := ck hb1 c1; have q2 := ck hb1 c2; replace hb1 := bstep hb hb1; clear c0 c1 c2)
        go_ret
        exact ⟨ret_int R.out.symm, hb1⟩
      · by_cases g2 : 20 < l
        · have R := hidp (show oneE (s, l, e) = 1 by rw [O2.out, NE.out, decide_eq_true (by omega)]; rfl)
          go_enter Tryd.func44, Tryd.ntmps44
          go_wp2_with (go_at_call 57; refine (CF.out _).mono ?_; rintro ee w' ⟨rfl, hb1⟩; have q1 := ck hb1 c1; have q2 := ck hb1 c2; replace hb1 := bstep hb hb1; clear c0 c1 c2)
          go_ret
          exact ⟨ret_int R.out.symm, hb1⟩
        · by_cases g3 : e < 1
          · have R := hidp (show oneE (s, l, e) = 1 by rw [O2.out, NE.out, decide_eq_true (by omega)]; rfl)
            go_enter Tryd.func44, Tryd.ntmps44
            go_wp2_with (go_at_call 57; refine (CF.out _).mono ?_; rintro ee w' ⟨rfl, hb1⟩; have q1 := ck hb1 c1; have q2 := ck hb1 c2; replace hb1 := bstep hb hb1; clear c0 c1 c2)
            go_ret
            exact ⟨ret_int R.out.symm, hb1⟩
          · by_cases g4 : 1000000000000 < e
            · have R := hidp (show oneE (s, l, e) = 1 by rw [O2.out, NE.out, decide_eq_true (by omega)]; rfl)
              go_enter Tryd.func44, Tryd.ntmps44
              go_wp2_with (go_at_call 57; refine (CF.out _).mono ?_; rintro ee w' ⟨rfl, hb1⟩; have q1 := ck hb1 c1; have q2 := ck hb1 c2; replace hb1 := bstep hb hb1; clear c0 c1 c2)
              go_ret
              exact ⟨ret_int R.out.symm, hb1⟩
            · have R := hidp (show oneE (s, l, e) = 0 by rw [O2.out, NE.out, decide_eq_false (by omega)]; rfl)
              go_enter Tryd.func44, Tryd.ntmps44
              go_wp2_with (go_at_call 57; refine (CF.out _).mono ?_; rintro ee w' ⟨rfl, hb1⟩; have q1 := ck hb1 c1; have q2 := ck hb1 c2; replace hb1 := bstep hb hb1; clear c0 c1 c2)
              go_ret
              exact ⟨ret_int R.out.symm, hb1⟩
end Go.Proofs.YtdfghgeccannnaaDoor
