/- An argument that is a table, opened; and where table.Put gives an error. -/
import Derived.Test.YtffocoflmbhknaaMgTablePut2
namespace Go.Proofs.Ytffocoflmbhknaa
open Go.ChangeShapes Go.WideShapes Go.ChangeAt Go.RowKit
set_option maxRecDepth 20000
section
variable {H : Type} {enc : TypeId × Value → H} {w : World} {base : Nat} {spare : Nat → Bool} {held : Bool}
theorem tab_open {v : Value} {d : DataW H} {p : List MemPlace} (hv : ∃ cs, v = .agg cs ∧ cs.size = Try.prog.cellsOf 27)
    (h : DataW.Trod enc Try.prog w base spare held 27 v d p) : ∃ (wd : Int) (a : Option Addr) (n c : Nat) (xs : List (List Int)), v = tabV wd a n c ∧ RowsAt w a n c xs := by
  obtain ⟨cs, rfl, hcs⟩ := hv
  obtain ⟨fuel, hf⟩ := h
  obtain ⟨xs, m, _, _, hl, hlen, hget⟩ := DataW.trod_struct Try.underlying27 hf
  have ci : Try.prog.cellsOf 3 = 1 := by kernel_rfl
  have cb : Try.prog.cellsOf 25 = 1 := by kernel_rfl
  have cf : Try.prog.cellsOf 27 = 2 := by kernel_rfl
  have h0 : DataW.trod enc Try.prog w base spare held m 3 (List.take (Try.prog.cellsOf 3) (List.drop 0 cs.toList)) = xs[0]? := hget 0 _ rfl
  have h1 : DataW.trod enc Try.prog w base spare held m 25 (List.take (Try.prog.cellsOf 25) (List.drop 1 cs.toList)) = xs[1]? := hget 1 _ rfl
  rw [ci] at h0
  rw [cb] at h1
  rw [cf] at hcs
  obtain ⟨l⟩ := cs
  simp only [List.size_toArray] at hcs
  match l, xs, hcs, hlen, h0, h1 with
  | [c0, c1], [x0, x1], _, _, h0, h1 =>
    obtain ⟨s, e0, _⟩ := DataW.trod_int (k := .i64) Try.underlying3 (x := x0) (by simpa using h0)
    have h1' : DataW.trod enc Try.prog w base spare held m 25 [c1] = some x1 := by simpa using h1
    simp at e0
    subst e0
    have hs : ∃ a n c, c1 = .slice a n c := by
      rcases DataW.trod_slice Try.underlying25 h1' with ⟨h, _⟩ | ⟨x, l, c, _, _, _, _, h, _⟩
      · simp at h; exact ⟨_, _, _, h⟩
      · simp at h; exact ⟨_, _, _, h⟩
    obtain ⟨a, n, c, rfl⟩ := hs
    obtain ⟨bs, hb⟩ := rows_open Try.underlying25 Try.underlying53 Try.underlying3 (by kernel_rfl) (by kernel_rfl) (a := a) (len := n) (cap := c) (d := x1.1) (p := x1.2) ⟨m, by simpa [Value.cells] using h1'⟩
    exact ⟨s, a, n, c, bs, rfl, hb⟩
end

set_option maxHeartbeats 2000000 in
theorem tput_bad1 (wd : Int) (a : Option Addr) (n c : Nat) (xs : List (List Int)) (key x : Int) (w : World) (h : RowsAt w a n c xs) (hE : ¬ tchk wd n xs = 0) :
    Calls Try.prog 11 #[tabV wd a n c, .int .i64 key, .int .i64 x] w fun e w' => e = .returned (.tuple #[tabV 0 none 0 0, .int .i64 (tchk wd n xs)]) ∧ Below w.heap.size w w' := by
  have CK := hidp (fun W (hB : Below w.heap.size w W) => tcheck_c wd a n c xs W (h.below hB))
  have hE1 : (tchk wd n xs == 0) = false := by rw [beq_eq_false_iff_ne]; exact hE
  clear hE h
  unfold tabV at *
  go_enter Try.func11, Try.ntmps11
  go_wp2_with fail
  have hb1 : Below w.heap.size w ((w.alloc (.cells #[.int .i64 wd, .slice a n c] 27)).alloc (.cells #[.int .i64 0, .slice none 0 0] 27)) := bal (bal (Below.refl _ _) _) _
  refine (CK.out _ hb1).mono ?_
  rintro e wa ⟨rfl, hba⟩
  have r0 : wa.cell? ⟨w.heap.size + 1, 0, none⟩ = some (.int .i64 0) := ck hba (by go_simp)
  have r1 : wa.cell? ⟨w.heap.size + 1, 1, none⟩ = some (.slice none 0 0) := ck hba (by go_simp)
  have z0 : wa.frozen? ⟨w.heap.size + 1, 0, none⟩ = false := (hba.frozen (p := ⟨w.heap.size + 1, 0, none⟩) (by simp)).trans (by go_simp)
  have z1 : wa.frozen? ⟨w.heap.size + 1, 1, none⟩ = false := (hba.frozen (p := ⟨w.heap.size + 1, 1, none⟩) (by simp)).trans (by go_simp)
  have hwa := bstep hb1 hba
  have hr := hidp (res2 (.int .i64 0) (.slice none 0 0) r0 r1)
  have hbw := hidp (below_set2 hwa (w.heap.size + 1) (by omega) (.int .i64 0) (.slice none 0 0))
  clear hb1 hba CK
  go_wp2_with fail
  obtain ⟨t0, t1⟩ := hr.out
  have hbv := hbw.out
  clear hr hbw
  generalize ((wa.setCell ⟨w.heap.size + 1, 0, none⟩ (.int .i64 0)).setCell ⟨w.heap.size + 1, 1, none⟩ (.slice none 0 0)) = w7 at *
  exact bodyPost_ret (v := .tuple #[.agg #[.int .i64 0, .slice none 0 0], .int .i64 (tchk wd n xs)]) (by simp [results, Try.results11, go_sem, t0, t1]) rfl ⟨rfl, hbv⟩
set_option maxHeartbeats 2000000 in
theorem tput_bad2 (wd : Int) (a : Option Addr) (n c : Nat) (xs : List (List Int)) (key x : Int) (w : World) (h : RowsAt w a n c xs) (hE : tchk wd n xs = 0) (hx : x < 0 ∨ 1000000000000 < x) :
    Calls Try.prog 11 #[tabV wd a n c, .int .i64 key, .int .i64 x] w fun e w' => e = .returned (.tuple #[tabV 0 none 0 0, .int .i64 1]) ∧ Below w.heap.size w w' := by
  have CK := hidp (fun W (hB : Below w.heap.size w W) => tcheck_c wd a n c xs W (h.below hB))
  rw [hE] at CK
  clear hE h
  unfold tabV at *
  rcases hx with hx | hx
  · go_enter Try.func11, Try.ntmps11
    go_wp2_with fail
    have hb1 : Below w.heap.size w ((w.alloc (.cells #[.int .i64 wd, .slice a n c] 27)).alloc (.cells #[.int .i64 0, .slice none 0 0] 27)) := bal (bal (Below.refl _ _) _) _
    refine (CK.out _ hb1).mono ?_
    rintro e wa ⟨rfl, hba⟩
    have r0 : wa.cell? ⟨w.heap.size + 1, 0, none⟩ = some (.int .i64 0) := ck hba (by go_simp)
    have r1 : wa.cell? ⟨w.heap.size + 1, 1, none⟩ = some (.slice none 0 0) := ck hba (by go_simp)
    have z0 : wa.frozen? ⟨w.heap.size + 1, 0, none⟩ = false := (hba.frozen (p := ⟨w.heap.size + 1, 0, none⟩) (by simp)).trans (by go_simp)
    have z1 : wa.frozen? ⟨w.heap.size + 1, 1, none⟩ = false := (hba.frozen (p := ⟨w.heap.size + 1, 1, none⟩) (by simp)).trans (by go_simp)
    have hwa := bstep hb1 hba
    have hr := hidp (res2 (.int .i64 0) (.slice none 0 0) r0 r1)
    have hbw := hidp (below_set2 hwa (w.heap.size + 1) (by omega) (.int .i64 0) (.slice none 0 0))
    clear hb1 hba CK
    go_wp2_with fail
    obtain ⟨t0, t1⟩ := hr.out
    have hbv := hbw.out
    clear hr hbw
    generalize ((wa.setCell ⟨w.heap.size + 1, 0, none⟩ (.int .i64 0)).setCell ⟨w.heap.size + 1, 1, none⟩ (.slice none 0 0)) = w7 at *
    exact bodyPost_ret (v := .tuple #[.agg #[.int .i64 0, .slice none 0 0], .int .i64 1]) (by simp [results, Try.results11, go_sem, t0, t1]) rfl ⟨rfl, hbv⟩
  · have hx0 : ¬ x < 0 := by omega
    go_enter Try.func11, Try.ntmps11
    go_wp2_with fail
    have hb1 : Below w.heap.size w ((w.alloc (.cells #[.int .i64 wd, .slice a n c] 27)).alloc (.cells #[.int .i64 0, .slice none 0 0] 27)) := bal (bal (Below.refl _ _) _) _
    refine (CK.out _ hb1).mono ?_
    rintro e wa ⟨rfl, hba⟩
    have r0 : wa.cell? ⟨w.heap.size + 1, 0, none⟩ = some (.int .i64 0) := ck hba (by go_simp)
    have r1 : wa.cell? ⟨w.heap.size + 1, 1, none⟩ = some (.slice none 0 0) := ck hba (by go_simp)
    have z0 : wa.frozen? ⟨w.heap.size + 1, 0, none⟩ = false := (hba.frozen (p := ⟨w.heap.size + 1, 0, none⟩) (by simp)).trans (by go_simp)
    have z1 : wa.frozen? ⟨w.heap.size + 1, 1, none⟩ = false := (hba.frozen (p := ⟨w.heap.size + 1, 1, none⟩) (by simp)).trans (by go_simp)
    have hwa := bstep hb1 hba
    have hr := hidp (res2 (.int .i64 0) (.slice none 0 0) r0 r1)
    have hbw := hidp (below_set2 hwa (w.heap.size + 1) (by omega) (.int .i64 0) (.slice none 0 0))
    clear hb1 hba CK
    go_wp2_with fail
    obtain ⟨t0, t1⟩ := hr.out
    have hbv := hbw.out
    clear hr hbw
    generalize ((wa.setCell ⟨w.heap.size + 1, 0, none⟩ (.int .i64 0)).setCell ⟨w.heap.size + 1, 1, none⟩ (.slice none 0 0)) = w7 at *
    exact bodyPost_ret (v := .tuple #[.agg #[.int .i64 0, .slice none 0 0], .int .i64 1]) (by simp [results, Try.results11, go_sem, t0, t1]) rfl ⟨rfl, hbv⟩
end Go.Proofs.Ytffocoflmbhknaa
