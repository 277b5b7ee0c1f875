/- An argument that is a filter, opened; and where bloom.Put and Join give an error. -/
import Derived.Test.YtffocoflmbhknaaBloomL
namespace Go.Proofs.Ytffocoflmbhknaa
open Go.ChangeShapes Go.WideShapes Go.ChangeAt Go.RowKit
set_option maxRecDepth 20000
section
variable {H : Type} {enc : TypeId × Value → H} {w : World} {base : Nat} {spare : Nat → Bool} {held : Bool}
theorem filt_open {v : Value} {d : DataW H} {p : List MemPlace} (hv : ∃ cs, v = .agg cs ∧ cs.size = Try.prog.cellsOf 24)
    (h : DataW.Trod enc Try.prog w base spare held 24 v d p) : ∃ (sz wy : Int) (a : Option Addr) (n c : Nat) (bs : List Bool), v = filtV sz wy a n c ∧ BoolsAt w a n c bs := by
  obtain ⟨cs, rfl, hcs⟩ := hv
  obtain ⟨fuel, hf⟩ := h
  obtain ⟨xs, m, _, _, hl, hlen, hget⟩ := DataW.trod_struct Try.underlying24 hf
  have ci : Try.prog.cellsOf 3 = 1 := by kernel_rfl
  have cb : Try.prog.cellsOf 22 = 1 := by kernel_rfl
  have cf : Try.prog.cellsOf 24 = 3 := by kernel_rfl
  have h0 : DataW.trod enc Try.prog w base spare held m 3 (List.take (Try.prog.cellsOf 3) (List.drop 0 cs.toList)) = xs[0]? := hget 0 _ rfl
  have h1 : DataW.trod enc Try.prog w base spare held m 3 (List.take (Try.prog.cellsOf 3) (List.drop 1 cs.toList)) = xs[1]? := hget 1 _ rfl
  have h2 : DataW.trod enc Try.prog w base spare held m 22 (List.take (Try.prog.cellsOf 22) (List.drop 2 cs.toList)) = xs[2]? := hget 2 _ rfl
  rw [ci] at h0 h1
  rw [cb] at h2
  rw [cf] at hcs
  obtain ⟨l⟩ := cs
  simp only [List.size_toArray] at hcs
  match l, xs, hcs, hlen, h0, h1, h2 with
  | [c0, c1, c2], [x0, x1, x2], _, _, h0, h1, h2 =>
    obtain ⟨s, e0, _⟩ := DataW.trod_int (k := .i64) Try.underlying3 (x := x0) (by simpa using h0)
    obtain ⟨y, e1, _⟩ := DataW.trod_int (k := .i64) Try.underlying3 (x := x1) (by simpa using h1)
    have h2' : DataW.trod enc Try.prog w base spare held m 22 [c2] = some x2 := by simpa using h2
    simp at e0 e1
    subst e0 e1
    have hs : ∃ a n c, c2 = .slice a n c := by
      rcases DataW.trod_slice Try.underlying22 h2' with ⟨h, _⟩ | ⟨x, l, c, _, _, _, _, h, _⟩
      · simp at h; exact ⟨_, _, _, h⟩
      · simp at h; exact ⟨_, _, _, h⟩
    obtain ⟨a, n, c, rfl⟩ := hs
    obtain ⟨bs, hb⟩ := bools_open Try.underlying22 Try.underlying4 (by kernel_rfl) (a := a) (len := n) (cap := c) (d := x2.1) (p := x2.2) ⟨m, by simpa [Value.cells] using h2'⟩
    exact ⟨s, y, a, n, c, bs, rfl, hb⟩
end

set_option maxHeartbeats 2000000 in
theorem bput_bad (sz wy : Int) (a : Option Addr) (n c : Nat) (key : Int) (w : World) (hE : ¬ fchk sz wy n = 0) :
    Calls Try.prog 9 #[filtV sz wy a n c, .int .i64 key] w fun e w' => e = .returned (.tuple #[filtV 0 0 none 0 0, .int .i64 (fchk sz wy n)]) ∧ Below w.heap.size w w' := by
  have CK := hidp (fun W => bcheck_c sz wy a n c W)
  have hE1 : (fchk sz wy n == 0) = false := by rw [beq_eq_false_iff_ne]; exact hE
  clear hE
  unfold filtV at *
  go_enter Try.func9, Try.ntmps9
  go_wp2_with fail
  have hb1 : Below w.heap.size w ((w.alloc (.cells #[.int .i64 sz, .int .i64 wy, .slice a n c] 24)).alloc (.cells #[.int .i64 0, .int .i64 0, .slice none 0 0] 24)) := bal (bal (Below.refl _ _) _) _
  refine (CK.out _).mono ?_
  rintro e wa ⟨rfl, hba⟩
  have r0 : wa.cell? ⟨w.heap.size + 1, 0, none⟩ = some (.int .i64 0) := ck hba (by go_simp)
  have r1 : wa.cell? ⟨w.heap.size + 1, 1, none⟩ = some (.int .i64 0) := ck hba (by go_simp)
  have r2 : wa.cell? ⟨w.heap.size + 1, 2, none⟩ = some (.slice none 0 0) := ck hba (by go_simp)
  have f1 : ∀ o, wa.frozen? ⟨w.heap.size + 1, o, none⟩ = false := fun o => (hba.frozen (p := ⟨w.heap.size + 1, o, none⟩) (by simp)).trans (by go_simp)
  have z0 := f1 0
  have z1 := f1 1
  have z2 := f1 2
  have hwa := bstep hb1 hba
  clear hb1 hba f1
  go_wp2_with fail
  have t0 : (((wa.setCell ⟨w.heap.size + 1, 0, none⟩ (.int .i64 0)).setCell ⟨w.heap.size + 1, 1, none⟩ (.int .i64 0)).setCell ⟨w.heap.size + 1, 2, none⟩ (.slice none 0 0)).cell? ⟨w.heap.size + 1, 0, none⟩ = some (.int .i64 0) := by go_simp
  have t1 : (((wa.setCell ⟨w.heap.size + 1, 0, none⟩ (.int .i64 0)).setCell ⟨w.heap.size + 1, 1, none⟩ (.int .i64 0)).setCell ⟨w.heap.size + 1, 2, none⟩ (.slice none 0 0)).cell? ⟨w.heap.size + 1, 1, none⟩ = some (.int .i64 0) := by go_simp
  have t2 : (((wa.setCell ⟨w.heap.size + 1, 0, none⟩ (.int .i64 0)).setCell ⟨w.heap.size + 1, 1, none⟩ (.int .i64 0)).setCell ⟨w.heap.size + 1, 2, none⟩ (.slice none 0 0)).cell? ⟨w.heap.size + 1, 2, none⟩ = some (.slice none 0 0) := by go_simp
  have hb6 : Below w.heap.size w (((wa.setCell ⟨w.heap.size + 1, 0, none⟩ (.int .i64 0)).setCell ⟨w.heap.size + 1, 1, none⟩ (.int .i64 0)).setCell ⟨w.heap.size + 1, 2, none⟩ (.slice none 0 0)) := ((hwa.setCell (p := ⟨w.heap.size + 1, 0, none⟩) (by show w.heap.size ≤ w.heap.size + 1; omega) _).setCell (p := ⟨w.heap.size + 1, 1, none⟩) (by show w.heap.size ≤ w.heap.size + 1; omega) _).setCell (p := ⟨w.heap.size + 1, 2, none⟩) (by show w.heap.size ≤ w.heap.size + 1; omega) _
  generalize (((wa.setCell ⟨w.heap.size + 1, 0, none⟩ (.int .i64 0)).setCell ⟨w.heap.size + 1, 1, none⟩ (.int .i64 0)).setCell ⟨w.heap.size + 1, 2, none⟩ (.slice none 0 0)) = w7 at *
  exact bodyPost_ret (v := .tuple #[.agg #[.int .i64 0, .int .i64 0, .slice none 0 0], .int .i64 (fchk sz wy n)]) (by simp [results, Try.results9, go_sem, t0, t1, t2]) rfl ⟨rfl, hb6⟩
set_option maxHeartbeats 2000000 in
theorem bjoin_bad1 (sz wy sz2 wy2 : Int) (a a2 : Option Addr) (n c n2 c2 : Nat) (w : World) (hE : ¬ fchk sz wy n = 0) :
    Calls Try.prog 10 #[filtV sz wy a n c, filtV sz2 wy2 a2 n2 c2] w fun e w' => e = .returned (.tuple #[filtV 0 0 none 0 0, .int .i64 (fchk sz wy n)]) ∧ Below w.heap.size w w' := by
  have CK := hidp (fun W => bcheck_c sz wy a n c W)
  have CK2 := hidp (fun W => bcheck_c sz2 wy2 a2 n2 c2 W)
  have hE1 : (fchk sz wy n == 0) = false := by rw [beq_eq_false_iff_ne]; exact hE
  clear hE
  unfold filtV at *
  go_enter Try.func10, Try.ntmps10
  go_wp2_with fail
  have hb1 : Below w.heap.size w (((w.alloc (.cells #[.int .i64 sz, .int .i64 wy, .slice a n c] 24)).alloc (.cells #[.int .i64 sz2, .int .i64 wy2, .slice a2 n2 c2] 24)).alloc (.cells #[.int .i64 0, .int .i64 0, .slice none 0 0] 24)) := bal (bal (bal (Below.refl _ _) _) _) _
  refine (CK.out _).mono ?_
  rintro e wa ⟨rfl, hba⟩
  have r0 : wa.cell? ⟨w.heap.size + 1 + 1, 0, none⟩ = some (.int .i64 0) := ck hba (by go_simp)
  have r1 : wa.cell? ⟨w.heap.size + 1 + 1, 1, none⟩ = some (.int .i64 0) := ck hba (by go_simp)
  have r2 : wa.cell? ⟨w.heap.size + 1 + 1, 2, none⟩ = some (.slice none 0 0) := ck hba (by go_simp)
  have g0 : wa.cell? ⟨w.heap.size, 0, none⟩ = some (.int .i64 sz) := ck hba (by go_simp)
  have g1 : wa.cell? ⟨w.heap.size, 1, none⟩ = some (.int .i64 wy) := ck hba (by go_simp)
  have h0 : wa.cell? ⟨w.heap.size + 1, 0, none⟩ = some (.int .i64 sz2) := ck hba (by go_simp)
  have h1 : wa.cell? ⟨w.heap.size + 1, 1, none⟩ = some (.int .i64 wy2) := ck hba (by go_simp)
  have h2 : wa.cell? ⟨w.heap.size + 1, 2, none⟩ = some (.slice a2 n2 c2) := ck hba (by go_simp)
  have f1 : ∀ o, wa.frozen? ⟨w.heap.size + 1 + 1, o, none⟩ = false := fun o => (hba.frozen (p := ⟨w.heap.size + 1 + 1, o, none⟩) (by simp)).trans (by go_simp)
  have z0 := f1 0
  have z1 := f1 1
  have z2 := f1 2
  have hsa : w.heap.size + 3 ≤ wa.heap.size := by have := hba.size; simp at this; omega
  have hwa := bstep hb1 hba
  clear hb1 hba f1
  go_wp2_with fail
  have t0 : (((wa.setCell ⟨w.heap.size + 1 + 1, 0, none⟩ (.int .i64 0)).setCell ⟨w.heap.size + 1 + 1, 1, none⟩ (.int .i64 0)).setCell ⟨w.heap.size + 1 + 1, 2, none⟩ (.slice none 0 0)).cell? ⟨w.heap.size + 1 + 1, 0, none⟩ = some (.int .i64 0) := by go_simp
  have t1 : (((wa.setCell ⟨w.heap.size + 1 + 1, 0, none⟩ (.int .i64 0)).setCell ⟨w.heap.size + 1 + 1, 1, none⟩ (.int .i64 0)).setCell ⟨w.heap.size + 1 + 1, 2, none⟩ (.slice none 0 0)).cell? ⟨w.heap.size + 1 + 1, 1, none⟩ = some (.int .i64 0) := by go_simp
  have t2 : (((wa.setCell ⟨w.heap.size + 1 + 1, 0, none⟩ (.int .i64 0)).setCell ⟨w.heap.size + 1 + 1, 1, none⟩ (.int .i64 0)).setCell ⟨w.heap.size + 1 + 1, 2, none⟩ (.slice none 0 0)).cell? ⟨w.heap.size + 1 + 1, 2, none⟩ = some (.slice none 0 0) := by go_simp
  have hb6 : Below w.heap.size w (((wa.setCell ⟨w.heap.size + 1 + 1, 0, none⟩ (.int .i64 0)).setCell ⟨w.heap.size + 1 + 1, 1, none⟩ (.int .i64 0)).setCell ⟨w.heap.size + 1 + 1, 2, none⟩ (.slice none 0 0)) := ((hwa.setCell (p := ⟨w.heap.size + 1 + 1, 0, none⟩) (by show w.heap.size ≤ w.heap.size + 1 + 1; omega) _).setCell (p := ⟨w.heap.size + 1 + 1, 1, none⟩) (by show w.heap.size ≤ w.heap.size + 1 + 1; omega) _).setCell (p := ⟨w.heap.size + 1 + 1, 2, none⟩) (by show w.heap.size ≤ w.heap.size + 1 + 1; omega) _
  generalize (((wa.setCell ⟨w.heap.size + 1 + 1, 0, none⟩ (.int .i64 0)).setCell ⟨w.heap.size + 1 + 1, 1, none⟩ (.int .i64 0)).setCell ⟨w.heap.size + 1 + 1, 2, none⟩ (.slice none 0 0)) = w7 at *
  exact bodyPost_ret (v := .tuple #[.agg #[.int .i64 0, .int .i64 0, .slice none 0 0], .int .i64 (fchk sz wy n)]) (by simp [results, Try.results10, go_sem, t0, t1, t2]) rfl ⟨rfl, hb6⟩
set_option maxHeartbeats 2000000 in
theorem bjoin_bad2 (sz wy sz2 wy2 : Int) (a a2 : Option Addr) (n c n2 c2 : Nat) (w : World) (h0 : fchk sz wy n = 0) (hE : ¬ fchk sz2 wy2 n2 = 0) :
    Calls Try.prog 10 #[filtV sz wy a n c, filtV sz2 wy2 a2 n2 c2] w fun e w' => e = .returned (.tuple #[filtV 0 0 none 0 0, .int .i64 (fchk sz2 wy2 n2)]) ∧ Below w.heap.size w w' := by
  have CK := hidp (fun W => bcheck_c sz wy a n c W)
  have CK2 := hidp (fun W => bcheck_c sz2 wy2 a2 n2 c2 W)
  have hE1 : (fchk sz2 wy2 n2 == 0) = false := by rw [beq_eq_false_iff_ne]; exact hE
  have F0 := hidp h0
  clear hE h0
  unfold filtV at *
  go_enter Try.func10, Try.ntmps10
  go_wp2_with fail
  have hb1 : Below w.heap.size w (((w.alloc (.cells #[.int .i64 sz, .int .i64 wy, .slice a n c] 24)).alloc (.cells #[.int .i64 sz2, .int .i64 wy2, .slice a2 n2 c2] 24)).alloc (.cells #[.int .i64 0, .int .i64 0, .slice none 0 0] 24)) := bal (bal (bal (Below.refl _ _) _) _) _
  refine (CK.out _).mono ?_
  rintro e wa ⟨rfl, hba⟩
  rw [F0.out]
  have r0 : wa.cell? ⟨w.heap.size + 1 + 1, 0, none⟩ = some (.int .i64 0) := ck hba (by go_simp)
  have r1 : wa.cell? ⟨w.heap.size + 1 + 1, 1, none⟩ = some (.int .i64 0) := ck hba (by go_simp)
  have r2 : wa.cell? ⟨w.heap.size + 1 + 1, 2, none⟩ = some (.slice none 0 0) := ck hba (by go_simp)
  have g0 : wa.cell? ⟨w.heap.size, 0, none⟩ = some (.int .i64 sz) := ck hba (by go_simp)
  have g1 : wa.cell? ⟨w.heap.size, 1, none⟩ = some (.int .i64 wy) := ck hba (by go_simp)
  have h0 : wa.cell? ⟨w.heap.size + 1, 0, none⟩ = some (.int .i64 sz2) := ck hba (by go_simp)
  have h1 : wa.cell? ⟨w.heap.size + 1, 1, none⟩ = some (.int .i64 wy2) := ck hba (by go_simp)
  have h2 : wa.cell? ⟨w.heap.size + 1, 2, none⟩ = some (.slice a2 n2 c2) := ck hba (by go_simp)
  have f1 : ∀ o, wa.frozen? ⟨w.heap.size + 1 + 1, o, none⟩ = false := fun o => (hba.frozen (p := ⟨w.heap.size + 1 + 1, o, none⟩) (by simp)).trans (by go_simp)
  have z0 := f1 0
  have z1 := f1 1
  have z2 := f1 2
  have hsa : w.heap.size + 3 ≤ wa.heap.size := by have := hba.size; simp at this; omega
  have hwa := bstep hb1 hba
  clear hb1 hba f1
  go_wp2_with fail
  refine (CK2.out _).mono ?_
  rintro e wk ⟨rfl, hbk⟩
  have r0 := ck hbk r0
  have r1 := ck hbk r1
  have r2 := ck hbk r2
  have g0 := ck hbk g0
  have g1 := ck hbk g1
  have h0 := ck hbk h0
  have h1 := ck hbk h1
  have z0 := (hbk.frozen (p := ⟨w.heap.size + 1 + 1, 0, none⟩) (by show w.heap.size + 1 + 1 < _; omega)).trans z0
  have z1 := (hbk.frozen (p := ⟨w.heap.size + 1 + 1, 1, none⟩) (by show w.heap.size + 1 + 1 < _; omega)).trans z1
  have z2 := (hbk.frozen (p := ⟨w.heap.size + 1 + 1, 2, none⟩) (by show w.heap.size + 1 + 1 < _; omega)).trans z2
  have hwa := bstep hwa hbk
  clear hbk h2
  go_wp2_with fail
  have t0 : (((wk.setCell ⟨w.heap.size + 1 + 1, 0, none⟩ (.int .i64 0)).setCell ⟨w.heap.size + 1 + 1, 1, none⟩ (.int .i64 0)).setCell ⟨w.heap.size + 1 + 1, 2, none⟩ (.slice none 0 0)).cell? ⟨w.heap.size + 1 + 1, 0, none⟩ = some (.int .i64 0) := by go_simp
  have t1 : (((wk.setCell ⟨w.heap.size + 1 + 1, 0, none⟩ (.int .i64 0)).setCell ⟨w.heap.size + 1 + 1, 1, none⟩ (.int .i64 0)).setCell ⟨w.heap.size + 1 + 1, 2, none⟩ (.slice none 0 0)).cell? ⟨w.heap.size + 1 + 1, 1, none⟩ = some (.int .i64 0) := by go_simp
  have t2 : (((wk.setCell ⟨w.heap.size + 1 + 1, 0, none⟩ (.int .i64 0)).setCell ⟨w.heap.size + 1 + 1, 1, none⟩ (.int .i64 0)).setCell ⟨w.heap.size + 1 + 1, 2, none⟩ (.slice none 0 0)).cell? ⟨w.heap.size + 1 + 1, 2, none⟩ = some (.slice none 0 0) := by go_simp
  have hb6 : Below w.heap.size w (((wk.setCell ⟨w.heap.size + 1 + 1, 0, none⟩ (.int .i64 0)).setCell ⟨w.heap.size + 1 + 1, 1, none⟩ (.int .i64 0)).setCell ⟨w.heap.size + 1 + 1, 2, none⟩ (.slice none 0 0)) := ((hwa.setCell (p := ⟨w.heap.size + 1 + 1, 0, none⟩) (by show w.heap.size ≤ w.heap.size + 1 + 1; omega) _).setCell (p := ⟨w.heap.size + 1 + 1, 1, none⟩) (by show w.heap.size ≤ w.heap.size + 1 + 1; omega) _).setCell (p := ⟨w.heap.size + 1 + 1, 2, none⟩) (by show w.heap.size ≤ w.heap.size + 1 + 1; omega) _
  generalize (((wk.setCell ⟨w.heap.size + 1 + 1, 0, none⟩ (.int .i64 0)).setCell ⟨w.heap.size + 1 + 1, 1, none⟩ (.int .i64 0)).setCell ⟨w.heap.size + 1 + 1, 2, none⟩ (.slice none 0 0)) = w7 at *
  exact bodyPost_ret (v := .tuple #[.agg #[.int .i64 0, .int .i64 0, .slice none 0 0], .int .i64 (fchk sz2 wy2 n2)]) (by simp [results, Try.results10, go_sem, t0, t1, t2]) rfl ⟨rfl, hb6⟩
set_option maxHeartbeats 2000000 in
theorem bjoin_bad3 (sz wy sz2 wy2 : Int) (a a2 : Option Addr) (n c n2 c2 : Nat) (w : World) (h0 : fchk sz wy n = 0) (h0' : fchk sz2 wy2 n2 = 0) (hE : ¬ sz = sz2) :
    Calls Try.prog 10 #[filtV sz wy a n c, filtV sz2 wy2 a2 n2 c2] w fun e w' => e = .returned (.tuple #[filtV 0 0 none 0 0, .int .i64 7]) ∧ Below w.heap.size w w' := by
  have CK := hidp (fun W => bcheck_c sz wy a n c W)
  have CK2 := hidp (fun W => bcheck_c sz2 wy2 a2 n2 c2 W)
  have hE1 : (sz != sz2) = true := by simp [hE]
  have F0 := hidp h0
  have F1 := hidp h0'
  clear h0 h0' hE
  unfold filtV at *
  go_enter Try.func10, Try.ntmps10
  go_wp2_with fail
  have hb1 : Below w.heap.size w (((w.alloc (.cells #[.int .i64 sz, .int .i64 wy, .slice a n c] 24)).alloc (.cells #[.int .i64 sz2, .int .i64 wy2, .slice a2 n2 c2] 24)).alloc (.cells #[.int .i64 0, .int .i64 0, .slice none 0 0] 24)) := bal (bal (bal (Below.refl _ _) _) _) _
  refine (CK.out _).mono ?_
  rintro e wa ⟨rfl, hba⟩
  rw [F0.out]
  have r0 : wa.cell? ⟨w.heap.size + 1 + 1, 0, none⟩ = some (.int .i64 0) := ck hba (by go_simp)
  have r1 : wa.cell? ⟨w.heap.size + 1 + 1, 1, none⟩ = some (.int .i64 0) := ck hba (by go_simp)
  have r2 : wa.cell? ⟨w.heap.size + 1 + 1, 2, none⟩ = some (.slice none 0 0) := ck hba (by go_simp)
  have g0 : wa.cell? ⟨w.heap.size, 0, none⟩ = some (.int .i64 sz) := ck hba (by go_simp)
  have g1 : wa.cell? ⟨w.heap.size, 1, none⟩ = some (.int .i64 wy) := ck hba (by go_simp)
  have h0 : wa.cell? ⟨w.heap.size + 1, 0, none⟩ = some (.int .i64 sz2) := ck hba (by go_simp)
  have h1 : wa.cell? ⟨w.heap.size + 1, 1, none⟩ = some (.int .i64 wy2) := ck hba (by go_simp)
  have h2 : wa.cell? ⟨w.heap.size + 1, 2, none⟩ = some (.slice a2 n2 c2) := ck hba (by go_simp)
  have f1 : ∀ o, wa.frozen? ⟨w.heap.size + 1 + 1, o, none⟩ = false := fun o => (hba.frozen (p := ⟨w.heap.size + 1 + 1, o, none⟩) (by simp)).trans (by go_simp)
  have z0 := f1 0
  have z1 := f1 1
  have z2 := f1 2
  have hsa : w.heap.size + 3 ≤ wa.heap.size := by have := hba.size; simp at this; omega
  have hwa := bstep hb1 hba
  clear hb1 hba f1
  go_wp2_with fail
  refine (CK2.out _).mono ?_
  rintro e wk ⟨rfl, hbk⟩
  rw [F1.out]
  have r0 := ck hbk r0
  have r1 := ck hbk r1
  have r2 := ck hbk r2
  have g0 := ck hbk g0
  have g1 := ck hbk g1
  have h0 := ck hbk h0
  have h1 := ck hbk h1
  have z0 := (hbk.frozen (p := ⟨w.heap.size + 1 + 1, 0, none⟩) (by show w.heap.size + 1 + 1 < _; omega)).trans z0
  have z1 := (hbk.frozen (p := ⟨w.heap.size + 1 + 1, 1, none⟩) (by show w.heap.size + 1 + 1 < _; omega)).trans z1
  have z2 := (hbk.frozen (p := ⟨w.heap.size + 1 + 1, 2, none⟩) (by show w.heap.size + 1 + 1 < _; omega)).trans z2
  have hwa := bstep hwa hbk
  clear hbk h2
  go_wp2_with fail
  have t0 : (((wk.setCell ⟨w.heap.size + 1 + 1, 0, none⟩ (.int .i64 0)).setCell ⟨w.heap.size + 1 + 1, 1, none⟩ (.int .i64 0)).setCell ⟨w.heap.size + 1 + 1, 2, none⟩ (.slice none 0 0)).cell? ⟨w.heap.size + 1 + 1, 0, none⟩ = some (.int .i64 0) := by go_simp
  have t1 : (((wk.setCell ⟨w.heap.size + 1 + 1, 0, none⟩ (.int .i64 0)).setCell ⟨w.heap.size + 1 + 1, 1, none⟩ (.int .i64 0)).setCell ⟨w.heap.size + 1 + 1, 2, none⟩ (.slice none 0 0)).cell? ⟨w.heap.size + 1 + 1, 1, none⟩ = some (.int .i64 0) := by go_simp
  have t2 : (((wk.setCell ⟨w.heap.size + 1 + 1, 0, none⟩ (.int .i64 0)).setCell ⟨w.heap.size + 1 + 1, 1, none⟩ (.int .i64 0)).setCell ⟨w.heap.size + 1 + 1, 2, none⟩ (.slice none 0 0)).cell? ⟨w.heap.size + 1 + 1, 2, none⟩ = some (.slice none 0 0) := by go_simp
  have hb6 : Below w.heap.size w (((wk.setCell ⟨w.heap.size + 1 + 1, 0, none⟩ (.int .i64 0)).setCell ⟨w.heap.size + 1 + 1, 1, none⟩ (.int .i64 0)).setCell ⟨w.heap.size + 1 + 1, 2, none⟩ (.slice none 0 0)) := ((hwa.setCell (p := ⟨w.heap.size + 1 + 1, 0, none⟩) (by show w.heap.size ≤ w.heap.size + 1 + 1; omega) _).setCell (p := ⟨w.heap.size + 1 + 1, 1, none⟩) (by show w.heap.size ≤ w.heap.size + 1 + 1; omega) _).setCell (p := ⟨w.heap.size + 1 + 1, 2, none⟩) (by show w.heap.size ≤ w.heap.size + 1 + 1; omega) _
  generalize (((wk.setCell ⟨w.heap.size + 1 + 1, 0, none⟩ (.int .i64 0)).setCell ⟨w.heap.size + 1 + 1, 1, none⟩ (.int .i64 0)).setCell ⟨w.heap.size + 1 + 1, 2, none⟩ (.slice none 0 0)) = w7 at *
  exact bodyPost_ret (v := .tuple #[.agg #[.int .i64 0, .int .i64 0, .slice none 0 0], .int .i64 (7)]) (by simp [results, Try.results10, go_sem, t0, t1, t2]) rfl ⟨rfl, hb6⟩
set_option maxHeartbeats 2000000 in
theorem bjoin_bad4 (sz wy sz2 wy2 : Int) (a a2 : Option Addr) (n c n2 c2 : Nat) (w : World) (h0 : fchk sz wy n = 0) (h0' : fchk sz2 wy2 n2 = 0) (hE0 : sz = sz2) (hE : ¬ wy = wy2) :
    Calls Try.prog 10 #[filtV sz wy a n c, filtV sz2 wy2 a2 n2 c2] w fun e w' => e = .returned (.tuple #[filtV 0 0 none 0 0, .int .i64 7]) ∧ Below w.heap.size w w' := by
  have CK := hidp (fun W => bcheck_c sz wy a n c W)
  have CK2 := hidp (fun W => bcheck_c sz2 wy2 a2 n2 c2 W)
  have hE1 : (wy != wy2) = true := by simp [hE]
  have hE2 : (sz != sz2) = false := by simp [hE0]
  have F0 := hidp h0
  have F1 := hidp h0'
  clear h0 h0' hE hE0
  unfold filtV at *
  go_enter Try.func10, Try.ntmps10
  go_wp2_with fail
  have hb1 : Below w.heap.size w (((w.alloc (.cells #[.int .i64 sz, .int .i64 wy, .slice a n c] 24)).alloc (.cells #[.int .i64 sz2, .int .i64 wy2, .slice a2 n2 c2] 24)).alloc (.cells #[.int .i64 0, .int .i64 0, .slice none 0 0] 24)) := bal (bal (bal (Below.refl _ _) _) _) _
  refine (CK.out _).mono ?_
  rintro e wa ⟨rfl, hba⟩
  rw [F0.out]
  have r0 : wa.cell? ⟨w.heap.size + 1 + 1, 0, none⟩ = some (.int .i64 0) := ck hba (by go_simp)
  have r1 : wa.cell? ⟨w.heap.size + 1 + 1, 1, none⟩ = some (.int .i64 0) := ck hba (by go_simp)
  have r2 : wa.cell? ⟨w.heap.size + 1 + 1, 2, none⟩ = some (.slice none 0 0) := ck hba (by go_simp)
  have g0 : wa.cell? ⟨w.heap.size, 0, none⟩ = some (.int .i64 sz) := ck hba (by go_simp)
  have g1 : wa.cell? ⟨w.heap.size, 1, none⟩ = some (.int .i64 wy) := ck hba (by go_simp)
  have h0 : wa.cell? ⟨w.heap.size + 1, 0, none⟩ = some (.int .i64 sz2) := ck hba (by go_simp)
  have h1 : wa.cell? ⟨w.heap.size + 1, 1, none⟩ = some (.int .i64 wy2) := ck hba (by go_simp)
  have h2 : wa.cell? ⟨w.heap.size + 1, 2, none⟩ = some (.slice a2 n2 c2) := ck hba (by go_simp)
  have f1 : ∀ o, wa.frozen? ⟨w.heap.size + 1 + 1, o, none⟩ = false := fun o => (hba.frozen (p := ⟨w.heap.size + 1 + 1, o, none⟩) (by simp)).trans (by go_simp)
  have z0 := f1 0
  have z1 := f1 1
  have z2 := f1 2
  have hsa : w.heap.size + 3 ≤ wa.heap.size := by have := hba.size; simp at this; omega
  have hwa := bstep hb1 hba
  clear hb1 hba f1
  go_wp2_with fail
  refine (CK2.out _).mono ?_
  rintro e wk ⟨rfl, hbk⟩
  rw [F1.out]
  have r0 := ck hbk r0
  have r1 := ck hbk r1
  have r2 := ck hbk r2
  have g0 := ck hbk g0
  have g1 := ck hbk g1
  have h0 := ck hbk h0
  have h1 := ck hbk h1
  have z0 := (hbk.frozen (p := ⟨w.heap.size + 1 + 1, 0, none⟩) (by show w.heap.size + 1 + 1 < _; omega)).trans z0
  have z1 := (hbk.frozen (p := ⟨w.heap.size + 1 + 1, 1, none⟩) (by show w.heap.size + 1 + 1 < _; omega)).trans z1
  have z2 := (hbk.frozen (p := ⟨w.heap.size + 1 + 1, 2, none⟩) (by show w.heap.size + 1 + 1 < _; omega)).trans z2
  have hwa := bstep hwa hbk
  clear hbk h2
  go_wp2_with fail
  have t0 : (((wk.setCell ⟨w.heap.size + 1 + 1, 0, none⟩ (.int .i64 0)).setCell ⟨w.heap.size + 1 + 1, 1, none⟩ (.int .i64 0)).setCell ⟨w.heap.size + 1 + 1, 2, none⟩ (.slice none 0 0)).cell? ⟨w.heap.size + 1 + 1, 0, none⟩ = some (.int .i64 0) := by go_simp
  have t1 : (((wk.setCell ⟨w.heap.size + 1 + 1, 0, none⟩ (.int .i64 0)).setCell ⟨w.heap.size + 1 + 1, 1, none⟩ (.int .i64 0)).setCell ⟨w.heap.size + 1 + 1, 2, none⟩ (.slice none 0 0)).cell? ⟨w.heap.size + 1 + 1, 1, none⟩ = some (.int .i64 0) := by go_simp
  have t2 : (((wk.setCell ⟨w.heap.size + 1 + 1, 0, none⟩ (.int .i64 0)).setCell ⟨w.heap.size + 1 + 1, 1, none⟩ (.int .i64 0)).setCell ⟨w.heap.size + 1 + 1, 2, none⟩ (.slice none 0 0)).cell? ⟨w.heap.size + 1 + 1, 2, none⟩ = some (.slice none 0 0) := by go_simp
  have hb6 : Below w.heap.size w (((wk.setCell ⟨w.heap.size + 1 + 1, 0, none⟩ (.int .i64 0)).setCell ⟨w.heap.size + 1 + 1, 1, none⟩ (.int .i64 0)).setCell ⟨w.heap.size + 1 + 1, 2, none⟩ (.slice none 0 0)) := ((hwa.setCell (p := ⟨w.heap.size + 1 + 1, 0, none⟩) (by show w.heap.size ≤ w.heap.size + 1 + 1; omega) _).setCell (p := ⟨w.heap.size + 1 + 1, 1, none⟩) (by show w.heap.size ≤ w.heap.size + 1 + 1; omega) _).setCell (p := ⟨w.heap.size + 1 + 1, 2, none⟩) (by show w.heap.size ≤ w.heap.size + 1 + 1; omega) _
  generalize (((wk.setCell ⟨w.heap.size + 1 + 1, 0, none⟩ (.int .i64 0)).setCell ⟨w.heap.size + 1 + 1, 1, none⟩ (.int .i64 0)).setCell ⟨w.heap.size + 1 + 1, 2, none⟩ (.slice none 0 0)) = w7 at *
  exact bodyPost_ret (v := .tuple #[.agg #[.int .i64 0, .int .i64 0, .slice none 0 0], .int .i64 (7)]) (by simp [results, Try.results10, go_sem, t0, t1, t2]) rfl ⟨rfl, hb6⟩
end Go.Proofs.Ytffocoflmbhknaa
