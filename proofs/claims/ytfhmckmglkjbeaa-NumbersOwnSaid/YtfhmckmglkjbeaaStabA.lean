/- Contracts of the parts of slices.SortStableFunc at integers, at the closure that share.Fair hands in: the comparison, ranges exchanged, ranges rotated. -/
import Derived.Test.YtfhmckmglkjbeaaStabMath
import Derived.Test.YtfhmckmglkjbeaaKit
import Derived.RegionTactic
import Derived.ChangeAlike
import Derived.Deep.QuietTactic
import Derived.BigQuiet
import Derived.Deep.LoopGhost
namespace Go.Proofs.Ytfhmckmglkjbeaa
open Go.ChangeShapes Go.WideShapes Go.ChangeAt Go.RowKit
open Stab
set_option maxRecDepth 20000
/-- The cells of a row of places. -/
def frow (f : Nat → Int) (n : Nat) : List Value := tab (fun j => Value.int .i64 (f j)) n
/-- A row of places in a block of the call's own. -/
def DS (W : World) (B g n : Nat) (f : Nat → Int) : Prop := W.ownsRow B 3 1 (.slice (some ⟨g, 0, none⟩) n n) n (frow f n)
theorem gr_refl (w : World) (row : Option Nat) : w.grownBy w row := ⟨rfl, rfl, rfl, Nat.le_refl _, fun _ _ _ => rfl⟩
theorem gr_drew {w w' : World} {row : Option Nat} (h : w.grownBy w' row) : w.grownBy w'.drew row := ⟨h.os, h.tape, h.output, h.size, h.block⟩
theorem gr_drewN {w w' : World} {row : Option Nat} (h : w.grownBy w' row) (q : Nat) : w.grownBy (w'.drewN q) row := ⟨h.os, h.tape, h.output, h.size, h.block⟩
theorem gr_set {w w' : World} {g : Nat} (h : w.grownBy w' (some g)) (i : Nat) (v : Value) : w.grownBy (w'.setCell ⟨g, i, none⟩ v) (some g) :=
  ⟨h.os, h.tape, h.output, by simpa using h.size, fun k hk hne => (Below.heap_setCell _ _ _ _ (by show k ≠ g; intro e; exact hne (by rw [e]))).trans (h.block k hk hne)⟩
theorem DS.drewN {W : World} {B g n : Nat} {f : Nat → Int} (h : DS W B g n f) (q : Nat) : DS (W.drewN q) B g n f := h
theorem DS.lt {W : World} {B g n : Nat} {f : Nat → Int} (h : DS W B g n f) : B ≤ g ∧ g < W.heap.size := World.ownsRow.lt h g rfl
theorem DS.cell {W : World} {B g n : Nat} {f : Nat → Int} (h : DS W B g n f) (i : Nat) (hi : i < n) : W.cell? ⟨g, i, none⟩ = some (.int .i64 (f i)) := by
  rw [World.ownsRow.cellAt h i (by omega)]
  unfold frow
  rw [tab_get _ _ _ hi]
theorem DS.fro {W : World} {B g n : Nat} {f : Nat → Int} (h : DS W B g n f) (i : Nat) : W.frozen? ⟨g, i, none⟩ = false := World.ownsRow.frozenAt h i
theorem DS.set {W : World} {B g n : Nat} {f : Nat → Int} (h : DS W B g n f) (i : Nat) (v : Int) : DS (W.setCell ⟨g, i, none⟩ (.int .i64 v)) B g n (fun x => if x = i then v else f x) := by
  have := own_store_tab h i (.int .i64 v)
  unfold DS frow
  rw [tab_congr _ (fun x => if x = i then Value.int .i64 v else Value.int .i64 (f x)) n (fun x _ => by
    by_cases e : x = i
    · simp only [if_pos e]
    · simp only [if_neg e])]
  exact this
theorem DS.congr {W : World} {B g n : Nat} {f f' : Nat → Int} (h : DS W B g n f) (e : ∀ x, f x = f' x) : DS W B g n f' := by
  rw [show f' = f from funext (fun x => (e x).symm)]; exact h
/-- Two places exchanged, in whichever order they are written. -/
theorem DS.swap {W : World} {B g n : Nat} {f : Nat → Int} (h : DS W B g n f) (x y : Nat) (hxy : x ≠ y) : DS ((W.setCell ⟨g, x, none⟩ (.int .i64 (f y))).setCell ⟨g, y, none⟩ (.int .i64 (f x))) B g n (sw2 f x y) ∧ DS ((W.setCell ⟨g, y, none⟩ (.int .i64 (f x))).setCell ⟨g, x, none⟩ (.int .i64 (f y))) B g n (sw2 f x y) := by
  refine ⟨((h.set x (f y)).set y (f x)).congr (fun z => ?_), ((h.set y (f x)).set x (f y)).congr (fun z => ?_)⟩
  · unfold sw2
    by_cases e1 : z = y
    · rw [if_pos e1, if_neg (by omega), if_pos e1]
    · rw [if_neg e1]
      by_cases e2 : z = x
      · rw [if_pos e2, if_pos e2]
      · rw [if_neg e2, if_neg e2, if_neg e1]
  · unfold sw2
    by_cases e2 : z = x
    · rw [if_pos e2]
    · rw [if_neg e2]
/-- What the closure reads: the numbers that are compared. -/
structure Cx (W : World) (g P : Nat) (al : Option Addr) (nl cl : Nat) (ls : List Int) : Prop where
  c : W.cell? ⟨P, 0, none⟩ = some (.slice al nl cl)
  i : IntsAt W al nl cl ls
  bd : ∀ x ∈ ls, 0 ≤ x ∧ x ≤ 1000000000000
  nP : g ≠ P
  nA : 0 < nl → ∀ b o, al = some ⟨b, o, none⟩ → b ≠ g
theorem Cx.grown {W W' : World} {g P : Nat} {al : Option Addr} {nl cl : Nat} {ls : List Int} (h : Cx W g P al nl cl ls) (hg : W.grownBy W' (some g)) : Cx W' g P al nl cl ls := by
  refine ⟨gk hg h.c (fun e => h.nP (by simpa using e)), ⟨h.i.len, h.i.le, h.i.max, fun hx => ?_, h.i.bd⟩, h.bd, h.nP, h.nA⟩
  obtain ⟨b, off, ha, hb, hc⟩ := h.i.cells hx
  have hn : 0 < nl := by
    rcases Nat.eq_zero_or_pos nl with e | e
    · exfalso; apply hx
      have := h.i.len
      rw [e] at this
      rw [List.eq_nil_of_length_eq_zero this]; rfl
    · exact e
  exact ⟨b, off, ha, Nat.lt_of_lt_of_le hb hg.size, fun i v hi => gk hg (hc i v hi) (fun e => h.nA hn b off ha (by simp only [Option.some.injEq] at e; exact e.symm))⟩
abbrev cmpV (P : Nat) : Value := .func (.func 43) #[] #[.pointer (some ⟨P, 0, none⟩)]
set_option maxHeartbeats 1000000 in
theorem cmp_c (x y : Nat) (g P : Nat) (al : Option Addr) (nl cl : Nat) (ls : List Int) (W : World) (h : Cx W g P al nl cl ls) (hx : x < nl) (hy : y < nl) :
    Calls Try.prog 43 #[.int .i64 (x : Nat), .int .i64 (y : Nat), .pointer (some ⟨P, 0, none⟩)] W fun e w' => e = .returned (.int .i64 (gi ls x - gi ls y)) ∧ ∃ q, w' = W.drewN q := by
  have c := h.c
  have mm := h.i.max
  have ee := h.i.le
  obtain ⟨b, o, rfl, hb, hc⟩ := h.i.addr (by omega)
  have q1 := hc x hx
  have q2 := hc y hy
  have b1 := h.bd _ (gi_mem ls x (by rw [h.i.len]; exact hx))
  have b2 := h.bd _ (gi_mem ls y (by rw [h.i.len]; exact hy))
  have x0 : (0 : Int) ≤ (x : Int) := by omega
  have y0 : (0 : Int) ≤ (y : Int) := by omega
  have x1 : (x : Int) < (nl : Int) := by omega
  have y1 : (y : Int) < (nl : Int) := by omega
  clear h hc
  generalize gi ls x = vx at *
  generalize gi ls y = vy at *
  have ws : IntKind.i64.wrap (vx - vy) = vx - vy := IntWalk.i64_in _ (by constructor <;> omega)
  go_enter Try.func43, Try.ntmps43
  go_wp2_with fail
  go_quiet (fail)
  go_wp2
  go_ret
  exact ⟨rfl, _, rfl⟩
set_option maxHeartbeats 4000000 in
theorem swr_c (B g n P a b k : Nat) (f : Nat → Int) (W : World) (hd : DS W B g n f) (hab : a + k ≤ b) (hbn : b + k ≤ n) (hn : n ≤ 40) :
    Calls Try.prog 65 #[.slice (some ⟨g, 0, none⟩) n n, .int .i64 (a : Nat), .int .i64 (b : Nat), .int .i64 (k : Nat), cmpV P] W fun e w' => e = .returned (.tuple #[]) ∧ DS w' B g n (swr f a b k) ∧ W.grownBy w' (some g) := by
  have D0 := hidp hd
  have ST := hidp (fun t (ht : a + t < b) => swr_step f a b t ht)
  have D1 := hidp (show DS W B g n (swr f a b 0) by rw [swr_zero]; exact hd)
  clear hd
  unfold cmpV
  go_enter Try.func65, Try.ntmps65
  go_wp2_with fail
  go_loopg [10] k (fun gg i wr => ∃ t : Nat, t ≤ k ∧ k - t ≤ gg ∧ i = .int .i64 t ∧ Hid (DS wr B g n (swr f a b t)) ∧ Hid (W.grownBy wr (some g)))
  case atStart => exact ⟨0, by omega, by omega, rfl, D1, gr_refl _ _⟩
  case round =>
    clear D1
    obtain ⟨t, ht, hgt, rfl, D, G⟩ := hrel
    by_cases hlt : t < k
    · obtain ⟨x, hx⟩ : ∃ x, x = a + t := ⟨_, rfl⟩
      obtain ⟨y, hy⟩ : ∃ y, y = b + t := ⟨_, rfl⟩
      have S := ST.out t (by omega)
      rw [← hx, ← hy] at S
      have hxy : x ≠ y := by omega
      have hxn : x < n := by omega
      have hyn : y < n := by omega
      have p1 : (a : Int) + (t : Int) = (x : Int) := by omega
      have p2 : (b : Int) + (t : Int) = (y : Int) := by omega
      have p3 : (x : Int) < (n : Int) := by omega
      have p4 : (y : Int) < (n : Int) := by omega
      have c1 := D.out.cell x hxn
      have c2 := D.out.cell y hyn
      have f1 := D.out.fro x
      have f2 := D.out.fro y
      have SW := hidp (D.out.swap x y hxy)
      have E := hidp (show sw2 (swr f a b t) x y = swr f a b (t + 1) from S)
      have GG := hidp (fun x y u v => gr_drew (gr_set (gr_set G.out x u) y v))
      clear S hx hy
      generalize swr f a b t x = v1 at *
      generalize swr f a b t y = v2 at *
      go_wp2_with fail
      go_region
      all_goals go_wp2
      all_goals go_roundg (k - (t + 1))
      all_goals first
        | exact ⟨t + 1, by omega, by omega, by go_num, hidp (by rw [← E.out]; first | exact SW.out.1 | exact SW.out.2), hidp (GG.out _ _ _ _)⟩
        | omega
    · obtain rfl : t = k := by omega
      go_wp2_with fail
      go_end0
      exact ⟨rfl, D.out, G.out⟩
set_option maxHeartbeats 4000000 in
theorem rot_c (B g n P a m b : Nat) (f : Nat → Int) (W : World) (hd : DS W B g n f) (ham : a < m) (hmb : m < b) (hbn : b ≤ n) (hn : n ≤ 40) :
    Calls Try.prog 64 #[.slice (some ⟨g, 0, none⟩) n n, .int .i64 (a : Nat), .int .i64 (m : Nat), .int .i64 (b : Nat), cmpV P] W fun e w' => e = .returned (.tuple #[]) ∧ DS w' B g n (rot f a m b) ∧ W.grownBy w' (some g) := by
  have D0 := hidp hd
  obtain ⟨F, hF⟩ : ∃ F, F = rot f a m b := ⟨_, rfl⟩
  rw [← hF]
  have D1 := hidp (show F = rot f (m - (m - a)) m (m + (b - m)) by rw [show m - (m - a) = a by omega, show m + (b - m) = b by omega]; exact hF)
  have RG := hidp (fun h i j => rot_gt h m i j)
  have RL := hidp (fun h i j => rot_lt h m i j)
  have RE := hidp (fun h i => rot_eq h m i)
  have CS := hidp (fun W' a b k h D => swr_c B g n P a b k h W' D)
  have ia : (m : Int) - (a : Int) = ((m - a : Nat) : Int) := by omega
  have ib : (b : Int) - (m : Int) = ((b - m : Nat) : Int) := by omega
  have hi0 : 1 ≤ m - a ∧ m - a ≤ m := by omega
  have hj0 : 1 ≤ b - m ∧ m + (b - m) ≤ n := by omega
  generalize m - a = i0 at *
  generalize b - m = j0 at *
  unfold cmpV at *
  clear hd hF
  go_enter Try.func64, Try.ntmps64
  go_wp2_with fail
  go_loopg [10, 11] (m + n) (fun gg s10 s11 wr => ∃ (i j : Nat) (h : Nat → Int), 1 ≤ i ∧ i ≤ m ∧ 1 ≤ j ∧ m + j ≤ n ∧ i + j ≤ gg ∧ s10 = .int .i64 i ∧ s11 = .int .i64 j ∧ Hid (F = rot h (m - i) m (m + j)) ∧ Hid (DS wr B g n h) ∧ Hid (W.grownBy wr (some g)))
  case atStart => exact ⟨i0, j0, f, hi0.1, hi0.2, hj0.1, hj0.2, by omega, rfl, rfl, D1, D0, gr_refl _ _⟩
  case round =>
    clear D1 D0
    obtain ⟨i, j, h, hi1, hi2, hj1, hj2, hgg, rfl, rfl, E, D, G⟩ := hrel
    have wi : (m : Int) - (i : Int) = ((m - i : Nat) : Int) := by omega
    rcases Nat.lt_trichotomy i j with hlt | heq | hgt
    · have E2 := hidp (E.out.trans (RL.out h i j hi2 hlt))
      have ne1 : ((i : Int) != (j : Int)) = true := by simp; omega
      have ng : ¬ (j : Int) < (i : Int) := by omega
      have C1 := hidp (CS.out wr (m - i) (m + j - i) i h D.out (by omega) (by omega) hn)
      have p1 : (m : Int) + (j : Int) - (i : Int) = ((m + j - i : Nat) : Int) := by omega
      have p2 : (j : Int) - (i : Int) = ((j - i : Nat) : Int) := by omega
      clear E
      go_wp2_with fail
      refine C1.out.mono ?_
      rintro e w2 ⟨rfl, hD, hG⟩
      have D2 := hidp hD
      have G2 := hidp (G.out.trans hG)
      clear hD hG
      go_wp2_with fail
      go_roundg (i + (j - i))
      case measure => omega
      case rel => exact ⟨i, j - i, _, hi1, hi2, by omega, by omega, by omega, rfl, v_int (by omega), E2, D2, G2⟩
    · subst heq
      have E2 := hidp (E.out.trans (RE.out h i hi2))
      have ne1 : ((i : Int) != (i : Int)) = false := by simp
      have C1 := hidp (CS.out wr (m - i) m i h D.out (by omega) (by omega) hn)
      clear E
      go_wp2_with fail
      refine C1.out.mono ?_
      rintro e w2 ⟨rfl, hD, hG⟩
      rw [← E2.out] at hD
      have D2 := hidp hD
      have G2 := hidp (G.out.trans hG)
      clear hD hG
      go_wp2_with fail
      go_end0
      exact ⟨rfl, D2.out, G2.out⟩
    · have E2 := hidp (E.out.trans (RG.out h i j hi2 hgt))
      have ne1 : ((i : Int) != (j : Int)) = true := by simp; omega
      have ng : (j : Int) < (i : Int) := by omega
      have C1 := hidp (CS.out wr (m - i) m j h D.out (by omega) (by omega) hn)
      have p2 : (i : Int) - (j : Int) = ((i - j : Nat) : Int) := by omega
      clear E
      go_wp2_with fail
      refine C1.out.mono ?_
      rintro e w2 ⟨rfl, hD, hG⟩
      have D2 := hidp hD
      have G2 := hidp (G.out.trans hG)
      clear hD hG
      go_wp2_with fail
      go_roundg ((i - j) + j)
      case measure => omega
      case rel => exact ⟨i - j, j, _, by omega, by omega, hj1, hj2, by omega, v_int (by omega), rfl, E2, D2, G2⟩
end Go.Proofs.Ytfhmckmglkjbeaa
