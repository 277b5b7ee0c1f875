/- Merged: StabA, StabB, StabC. -/
import Derived.Test.YtgodgfnfaiiohaaGreatDoorStabMath
import Derived.Test.YtgodgfnfaiiohaaGreatDoorKit
import Derived.RegionTactic
import Derived.ChangeAlike
import Derived.Deep.QuietTactic
import Derived.BigQuiet
import Derived.Deep.LoopGhost
/- Contracts of the parts of slices.SortStableFunc at integers, at the closure that share.Fair hands in: the comparison, ranges exchanged, ranges rotated. -/
namespace Go.Proofs.YtgodgfnfaiiohaaGreatDoor
open Go.ChangeShapes Go.WideShapes Go.ChangeAt Go.RowKit
open Stab
set_option maxRecDepth 20000
/-- The cells of a row of places. -/
def frow (f : Nat → Int) (n : Nat) : List Value := tab (fun j => Value.int .i64 (f j)) n
/-- A row of places in a block of the call's own. -/
def DS (W : World) (B g n : Nat) (f : Nat → Int) : Prop := W.ownsRow B 3 1 (.slice (some ⟨g, 0, none⟩) n n) n (frow f n)
theorem gr_refl (w : World) (row : Option Nat) : w.grownBy w row := ⟨rfl, rfl, rfl, Nat.le_refl _, fun _ _ _ => rfl⟩
theorem gr_drew {w w' : World} {row : Option Nat} (h : w.grownBy w' row) : w.grownBy w'.drew row := ⟨h.os, h.tape, h.output, h.size, h.block⟩
theorem gr_drewN {w w' : World} {row : Option Nat} (h : w.grownBy w' row) (q : Nat) : w.grownBy (w'.drewN q) row := ⟨h.os, h.tape, h.output, h.size, h.block⟩
theorem gr_set {w w' : World} {g : Nat} (h : w.grownBy w' (some g)) (i : Nat) (v : Value) : w.grownBy (w'.setCell ⟨g, i, none⟩ v) (some g) :=
  ⟨h.os, h.tape, h.output, by simpa using h.size, fun k hk hne => (Below.heap_setCell _ _ _ _ (by show k ≠ g; intro e; exact hne (by rw [e]))).trans (h.block k hk hne)⟩
theorem DS.drewN {W : World} {B g n : Nat} {f : Nat → Int} (h : DS W B g n f) (q : Nat) : DS (W.drewN q) B g n f := h
theorem DS.lt {W : World} {B g n : Nat} {f : Nat → Int} (h : DS W B g n f) : B ≤ g ∧ g < W.heap.size := World.ownsRow.lt h g rfl
theorem DS.cell {W : World} {B g n : Nat} {f : Nat → Int} (h : DS W B g n f) (i : Nat) (hi : i < n) : W.cell? ⟨g, i, none⟩ = some (.int .i64 (f i)) := by
  rw [World.ownsRow.cellAt h i (by omega)]
  unfold frow
  rw [tab_get _ _ _ hi]
theorem DS.fro {W : World} {B g n : Nat} {f : Nat → Int} (h : DS W B g n f) (i : Nat) : W.frozen? ⟨g, i, none⟩ = false := World.ownsRow.frozenAt h i
theorem DS.set {W : World} {B g n : Nat} {f : Nat → Int} (h : DS W B g n f) (i : Nat) (v : Int) : DS (W.setCell ⟨g, i, none⟩ (.int .i64 v)) B g n (fun x => if x = i then v else f x) := by
  have := own_store_tab h i (.int .i64 v)
  unfold DS frow
  rw [tab_congr _ (fun x => if x = i then Value.int .i64 v else Value.int .i64 (f x)) n (fun x _ => by
    by_cases e : x = i
    · simp only [if_pos e]
    · simp only [if_neg e])]
  exact this
theorem DS.congr {W : World} {B g n : Nat} {f f' : Nat → Int} (h : DS W B g n f) (e : ∀ x, f x = f' x) : DS W B g n f' := by
  rw [show f' = f from funext (fun x => (e x).symm)]; exact h
/-- Two places exchanged, in whichever order they are written. -/
theorem DS.swap {W : World} {B g n : Nat} {f : Nat → Int} (h : DS W B g n f) (x y : Nat) (hxy : x ≠ y) : DS ((W.setCell ⟨g, x, none⟩ (.int .i64 (f y))).setCell ⟨g, y, none⟩ (.int .i64 (f x))) B g n (sw2 f x y) ∧ DS ((W.setCell ⟨g, y, none⟩ (.int .i64 (f x))).setCell ⟨g, x, none⟩ (.int .i64 (f y))) B g n (sw2 f x y) := by
  refine ⟨((h.set x (f y)).set y (f x)).congr (fun z => ?_), ((h.set y (f x)).set x (f y)).congr (fun z => ?_)⟩
  · unfold sw2
    by_cases e1 : z = y
    · rw [if_pos e1, if_neg (by omega), if_pos e1]
    · rw [if_neg e1]
      by_cases e2 : z = x
      · rw [if_pos e2, if_pos e2]
      · rw [if_neg e2, if_neg e2, if_neg e1]
  · unfold sw2
    by_cases e2 : z = x
    · rw [if_pos e2]
    · rw [if_neg e2]
/-- What the closure reads: the numbers that are compared. -/
structure Cx (W : World) (g P : Nat) (al : Option Addr) (nl cl : Nat) (ls : List Int) : Prop where
  c : W.cell? ⟨P, 0, none⟩ = some (.slice al nl cl)
  i : IntsAt W al nl cl ls
  bd : ∀ x ∈ ls, 0 ≤ x ∧ x ≤ 1000000000000
  nP : g ≠ P
  nA : 0 < nl → ∀ b o, al = some ⟨b, o, none⟩ → b ≠ g
theorem Cx.grown {W W' : World} {g P : Nat} {al : Option Addr} {nl cl : Nat} {ls : List Int} (h : Cx W g P al nl cl ls) (hg : W.grownBy W' (some g)) : Cx W' g P al nl cl ls := by
  refine ⟨gk hg h.c (fun e => h.nP (by simpa using e)), ⟨h.i.len, h.i.le, h.i.max, fun hx => ?_, h.i.bd⟩, h.bd, h.nP, h.nA⟩
  obtain ⟨b, off, ha, hb, hc⟩ := h.i.cells hx
  have hn : 0 < nl := by
    rcases Nat.eq_zero_or_pos nl with e | e
    · exfalso; apply hx
      have := h.i.len
      rw [e] at this
      rw [List.eq_nil_of_length_eq_zero this]; rfl
    · exact e
  exact ⟨b, off, ha, Nat.lt_of_lt_of_le hb hg.size, fun i v hi => gk hg (hc i v hi) (fun e => h.nA hn b off ha (by simp only [Option.some.injEq] at e; exact e.symm))⟩
abbrev cmpV (P : Nat) : Value := .func (.func 103) #[] #[.pointer (some ⟨P, 0, none⟩)]
set_option maxHeartbeats 1000000 in
theorem cmp_c (x y : Nat) (g P : Nat) (al : Option Addr) (nl cl : Nat) (ls : List Int) (W : World) (h : Cx W g P al nl cl ls) (hx : x < nl) (hy : y < nl) :
    Calls Tryz.prog 103 #[.int .i64 (x : Nat), .int .i64 (y : Nat), .pointer (some ⟨P, 0, none⟩)] W fun e w' => e = .returned (.int .i64 (gi ls x - gi ls y)) ∧ ∃ q, w' = W.drewN q := by
  have c := h.c
  have mm := h.i.max
  have ee := h.i.le
  obtain ⟨b, o, rfl, hb, hc⟩ := h.i.addr (by omega)
  have q1 := hc x hx
  have q2 := hc y hy
  have b1 := h.bd _ (gi_mem ls x (by rw [h.i.len]; exact hx))
  have b2 := h.bd _ (gi_mem ls y (by rw [h.i.len]; exact hy))
  have x0 : (0 : Int) ≤ (x : Int) := by omega
  have y0 : (0 : Int) ≤ (y : Int) := by omega
  have x1 : (x : Int) < (nl : Int) := by omega
  have y1 : (y : Int) < (nl : Int) := by omega
  clear h hc
  generalize gi ls x = vx at *
  generalize gi ls y = vy at *
  have ws : IntKind.i64.wrap (vx - vy) = vx - vy := IntWalk.i64_in _ (by constructor <;> omega)
  go_enter Tryz.func103, Tryz.ntmps103
  go_wp2_with fail
  go_quiet (fail)
  go_wp2
  go_ret
  exact ⟨rfl, _, rfl⟩
set_option maxHeartbeats 4000000 in
theorem swr_c (B g n P a b k : Nat) (f : Nat → Int) (W : World) (hd : DS W B g n f) (hab : a + k ≤ b) (hbn : b + k ≤ n) (hn : n ≤ 40) :
    Calls Tryz.prog 203 #[.slice (some ⟨g, 0, none⟩) n n, .int .i64 (a : Nat), .int .i64 (b : Nat), .int .i64 (k : Nat), cmpV P] W fun e w' => e = .returned (.tuple #[]) ∧ DS w' B g n (swr f a b k) ∧ W.grownBy w' (some g) := by
  have D0 := hidp hd
  have ST := hidp (fun t (ht : a + t < b) => swr_step f a b t ht)
  have D1 := hidp (show DS W B g n (swr f a b 0) by rw [swr_zero]; exact hd)
  clear hd
  unfold cmpV
  go_enter Tryz.func203, Tryz.ntmps203
  go_wp2_with fail
  go_loopg [10] k (fun gg i wr => ∃ t : Nat, t ≤ k ∧ k - t ≤ gg ∧ i = .int .i64 t ∧ Hid (DS wr B g n (swr f a b t)) ∧ Hid (W.grownBy wr (some g)))
  case atStart => exact ⟨0, by omega, by omega, rfl, D1, gr_refl _ _⟩
  case round =>
    clear D1
    obtain ⟨t, ht, hgt, rfl, D, G⟩ := hrel
    by_cases hlt : t < k
    · obtain ⟨x, hx⟩ : ∃ x, x = a + t := ⟨_, rfl⟩
      obtain ⟨y, hy⟩ : ∃ y, y = b + t := ⟨_, rfl⟩
      have S := ST.out t (by omega)
      rw [← hx, ← hy] at S
      have hxy : x ≠ y := by omega
      have hxn : x < n := by omega
      have hyn : y < n := by omega
      have p1 : (a : Int) + (t : Int) = (x : Int) := by omega
      have p2 : (b : Int) + (t : Int) = (y : Int) := by omega
      have p3 : (x : Int) < (n : Int) := by omega
      have p4 : (y : Int) < (n : Int) := by omega
      have c1 := D.out.cell x hxn
      have c2 := D.out.cell y hyn
      have f1 := D.out.fro x
      have f2 := D.out.fro y
      have SW := hidp (D.out.swap x y hxy)
      have E := hidp (show sw2 (swr f a b t) x y = swr f a b (t + 1) from S)
      have GG := hidp (fun x y u v => gr_drew (gr_set (gr_set G.out x u) y v))
      clear S hx hy
      generalize swr f a b t x = v1 at *
      generalize swr f a b t y = v2 at *
      go_wp2_with fail
      go_region
      all_goals go_wp2
      all_goals go_roundg (k - (t + 1))
      all_goals first
        | exact ⟨t + 1, by omega, by omega, by go_num, hidp (by rw [← E.out]; first | exact SW.out.1 | exact SW.out.2), hidp (GG.out _ _ _ _)⟩
        | omega
    · obtain rfl : t = k := by omega
      go_wp2_with fail
      go_end0
      exact ⟨rfl, D.out, G.out⟩
set_option maxHeartbeats 4000000 in
theorem rot_c (B g n P a m b : Nat) (f : Nat → Int) (W : World) (hd : DS W B g n f) (ham : a < m) (hmb : m < b) (hbn : b ≤ n) (hn : n ≤ 40) :
    Calls Tryz.prog 193 #[.slice (some ⟨g, 0, none⟩) n n, .int .i64 (a : Nat), .int .i64 (m : Nat), .int .i64 (b : Nat), cmpV P] W fun e w' => e = .returned (.tuple #[]) ∧ DS w' B g n (rot f a m b) ∧ W.grownBy w' (some g) := by
  have D0 := hidp hd
  obtain ⟨F, hF⟩ : ∃ F, F = rot f a m b := ⟨_, rfl⟩
  rw [← hF]
  have D1 := hidp (show F = rot f (m - (m - a)) m (m + (b - m)) by rw [show m - (m - a) = a by omega, show m + (b - m) = b by omega]; exact hF)
  have RG := hidp (fun h i j => rot_gt h m i j)
  have RL := hidp (fun h i j => rot_lt h m i j)
  have RE := hidp (fun h i => rot_eq h m i)
  have CS := hidp (fun W' a b k h D => swr_c B g n P a b k h W' D)
  have ia : (m : Int) - (a : Int) = ((m - a : Nat) : Int) := by omega
  have ib : (b : Int) - (m : Int) = ((b - m : Nat) : Int) := by omega
  have hi0 : 1 ≤ m - a ∧ m - a ≤ m := by omega
  have hj0 : 1 ≤ b - m ∧ m + (b - m) ≤ n := by omega
  generalize m - a = i0 at *
  generalize b - m = j0 at *
  unfold cmpV at *
  clear hd hF
  go_enter Tryz.func193, Tryz.ntmps193
  go_wp2_with fail
  go_loopg [10, 11] (m + n) (fun gg s10 s11 wr => ∃ (i j : Nat) (h : Nat → Int), 1 ≤ i ∧ i ≤ m ∧ 1 ≤ j ∧ m + j ≤ n ∧ i + j ≤ gg ∧ s10 = .int .i64 i ∧ s11 = .int .i64 j ∧ Hid (F = rot h (m - i) m (m + j)) ∧ Hid (DS wr B g n h) ∧ Hid (W.grownBy wr (some g)))
  case atStart => exact ⟨i0, j0, f, hi0.1, hi0.2, hj0.1, hj0.2, by omega, rfl, rfl, D1, D0, gr_refl _ _⟩
  case round =>
    clear D1 D0
    obtain ⟨i, j, h, hi1, hi2, hj1, hj2, hgg, rfl, rfl, E, D, G⟩ := hrel
    have wi : (m : Int) - (i : Int) = ((m - i : Nat) : Int) := by omega
    rcases Nat.lt_trichotomy i j with hlt | heq | hgt
    · have E2 := hidp (E.out.trans (RL.out h i j hi2 hlt))
      have ne1 : ((i : Int) != (j : Int)) = true := by simp; omega
      have ng : ¬ (j : Int) < (i : Int) := by omega
      have C1 := hidp (CS.out wr (m - i) (m + j - i) i h D.out (by omega) (by omega) hn)
      have p1 : (m : Int) + (j : Int) - (i : Int) = ((m + j - i : Nat) : Int) := by omega
      have p2 : (j : Int) - (i : Int) = ((j - i : Nat) : Int) := by omega
      clear E
      go_wp2_with fail
      refine C1.out.mono ?_
      rintro e w2 ⟨rfl, hD, hG⟩
      have D2 := hidp hD
      have G2 := hidp (G.out.trans hG)
      clear hD hG
      go_wp2_with fail
      go_roundg (i + (j - i))
      case measure => omega
      case rel => exact ⟨i, j - i, _, hi1, hi2, by omega, by omega, by omega, rfl, v_int (by omega), E2, D2, G2⟩
    · subst heq
      have E2 := hidp (E.out.trans (RE.out h i hi2))
      have ne1 : ((i : Int) != (i : Int)) = false := by simp
      have C1 := hidp (CS.out wr (m - i) m i h D.out (by omega) (by omega) hn)
      clear E
      go_wp2_with fail
      refine C1.out.mono ?_
      rintro e w2 ⟨rfl, hD, hG⟩
      rw [← E2.out] at hD
      have D2 := hidp hD
      have G2 := hidp (G.out.trans hG)
      clear hD hG
      go_wp2_with fail
      go_end0
      exact ⟨rfl, D2.out, G2.out⟩
    · have E2 := hidp (E.out.trans (RG.out h i j hi2 hgt))
      have ne1 : ((i : Int) != (j : Int)) = true := by simp; omega
      have ng : (j : Int) < (i : Int) := by omega
      have C1 := hidp (CS.out wr (m - i) m j h D.out (by omega) (by omega) hn)
      have p2 : (i : Int) - (j : Int) = ((i - j : Nat) : Int) := by omega
      clear E
      go_wp2_with fail
      refine C1.out.mono ?_
      rintro e w2 ⟨rfl, hD, hG⟩
      have D2 := hidp hD
      have G2 := hidp (G.out.trans hG)
      clear hD hG
      go_wp2_with fail
      go_roundg ((i - j) + j)
      case measure => omega
      case rel => exact ⟨i - j, j, _, by omega, by omega, hj1, hj2, by omega, v_int (by omega), rfl, E2, D2, G2⟩
end Go.Proofs.YtgodgfnfaiiohaaGreatDoor

/- Contract of slices.insertionSortCmpFunc at integers, at the closure that share.Fair hands in. -/
namespace Go.Proofs.YtgodgfnfaiiohaaGreatDoor
open Go.ChangeShapes Go.WideShapes Go.ChangeAt Go.RowKit
open Stab
set_option maxRecDepth 20000
/-- The number at a place. -/
def lvF (ls : List Int) (x : Int) : Int := gi ls x.toNat
/-- The comparison, with places that are integers. -/
theorem cmpi_c (x y : Int) (g P : Nat) (al : Option Addr) (nl cl : Nat) (ls : List Int) (W : World) (h : Cx W g P al nl cl ls) (hx : 0 ≤ x ∧ x < nl) (hy : 0 ≤ y ∧ y < nl) :
    Calls Tryz.prog 103 #[.int .i64 x, .int .i64 y, .pointer (some ⟨P, 0, none⟩)] W fun e w' => e = .returned (.int .i64 (lvF ls x - lvF ls y)) ∧ ∃ q, w' = W.drewN q := by
  obtain ⟨x', rfl⟩ : ∃ x' : Nat, x = (x' : Int) := ⟨x.toNat, by omega⟩
  obtain ⟨y', rfl⟩ : ∃ y' : Nat, y = (y' : Int) := ⟨y.toNat, by omega⟩
  exact cmp_c x' y' g P al nl cl ls W h (by omega) (by omega)
theorem Cx.drewN {W : World} {g P : Nat} {al : Option Addr} {nl cl : Nat} {ls : List Int} (h : Cx W g P al nl cl ls) (q : Nat) : Cx (W.drewN q) g P al nl cl ls := h.grown (gr_drewN (gr_refl _ _) q)
theorem perm_in {f h : Nat → Int} {a b : Nat} (hp : Perm f h a b) (hf : ∀ i, a ≤ i → i < b → f i = i) (i : Nat) (h1 : a ≤ i) (h2 : i < b) : (a : Int) ≤ h i ∧ h i < b := by
  obtain ⟨j, j1, j2, e⟩ := hp.get i h1 h2
  rw [e, hf j j1 j2]; omega
set_option maxHeartbeats 8000000 in
theorem insort_c (B g n P a b : Nat) (al : Option Addr) (cl : Nat) (ls : List Int) (f : Nat → Int) (W : World) (hd : DS W B g n f) (hc : Cx W g P al n cl ls) (hab : a ≤ b) (hbn : b ≤ n) (hn : n ≤ 40) (hf : ∀ i, a ≤ i → i < b → f i = i) :
    Calls Tryz.prog 171 #[.slice (some ⟨g, 0, none⟩) n n, .int .i64 (a : Nat), .int .i64 (b : Nat), cmpV P] W fun e w' => e = .returned (.tuple #[]) ∧ (∃ f', Perm f f' a b ∧ Srt (key (lvF ls)) f' a b ∧ DS w' B g n f') ∧ W.grownBy w' (some g) := by
  have D0 := hidp hd
  have C0 := hidp hc
  have HF := hidp hf
  unfold cmpV
  clear hd hc hf
  go_enter Tryz.func171, Tryz.ntmps171
  go_wp2_with fail
  go_loopg [8] (b - a) (fun gg s8 wr => ∃ (i : Nat) (h : Nat → Int), a < i ∧ (i ≤ b ∨ i = a + 1) ∧ b - i ≤ gg ∧ s8 = .int .i64 i ∧ Hid (i ≤ b → Perm f h a i) ∧ Hid (i ≤ b → Srt (key (lvF ls)) h a i) ∧ Hid (b < i → h = f) ∧ Hid (DS wr B g n h) ∧ Hid (W.grownBy wr (some g)))
  case atStart => exact ⟨a + 1, f, by omega, .inr rfl, by omega, v_int (by omega), hidp (fun _ => Perm.refl _ _ _), hidp (fun _ x y h1 h2 h3 => by rw [show x = y by omega]; exact Int.le_refl _), hidp (fun _ => rfl), D0, gr_refl _ _⟩
  case round =>
    clear D0
    obtain ⟨i, h, hai, hib, hgg, rfl, HP, HS, HE, D, G⟩ := hrel
    by_cases hlt : i < b
    · have HP2 := hidp (HP.out (by omega))
      have HS2 := hidp (HS.out (by omega))
      have HR := hidp (fun x (h1 : a ≤ x) (h2 : x < i) => perm_in HP2.out (fun k k1 k2 => HF.out k k1 (by omega)) x h1 h2)
      have HI := hidp (show h i = i from (HP2.out.out i (.inr (Nat.le_refl _))).trans (HF.out i (by omega) hlt))
      have LF := hidp (show Lft h a i (i + 1) from fun x y x1 x2 y1 y2 => by
        obtain ⟨r1, r2⟩ := HR.out x x1 x2
        rw [show y = i by omega, HI.out]; omega)
      have D1 := hidp (show DS wr B g n (shr h i i) by rw [shr_zero]; exact D.out)
      clear HP HS HE D
      go_wp2_with fail
      go_loopg [9] (i - a) (fun gg s9 wy => ∃ j : Nat, a ≤ j ∧ j ≤ i ∧ j - a ≤ gg ∧ s9 = .int .i64 j ∧ Hid (∀ x, j ≤ x → x < i → lvF ls (h i) < lvF ls (h x)) ∧ Hid (DS wy B g n (shr h j i)) ∧ Hid (W.grownBy wy (some g)))
      case atStart => exact ⟨i, by omega, by omega, by omega, rfl, hidp (fun x h1 h2 => by omega), D1, G⟩
      case round =>
        clear D1 G
        obtain ⟨j, haj, hji, hgj, rfl, HB, D, G⟩ := hrel
        have CC := hidp (C0.out.grown G.out)
        by_cases hj : a < j
        · have hj' : (a : Int) < (j : Int) := by omega
          obtain ⟨jm, hjm⟩ : ∃ jm, jm = j - 1 := ⟨_, rfl⟩
          have hjj : jm + 1 = j := by omega
          have r0 := HR.out jm (by omega) (by omega)
          have c1 := D.out.cell j (by omega)
          have c2 := D.out.cell jm (by omega)
          have e1 : shr h j i j = h i := by unfold shr; rw [if_pos rfl]
          have e2 : shr h j i jm = h jm := by unfold shr; rw [if_neg (by omega), if_neg (by omega)]
          rw [e1] at c1
          rw [e2] at c2
          have CQ := hidp (fun q => cmpi_c (h i) (h jm) g P al n cl ls (wr.drewN q) (CC.out.drewN q) (by rw [HI.out]; omega) (by omega))
          have vb1 : 0 ≤ lvF ls (h i) ∧ lvF ls (h i) ≤ 1000000000000 := C0.out.bd _ (gi_mem ls _ (by rw [C0.out.i.len, HI.out]; omega))
          have vb2 : 0 ≤ lvF ls (h jm) ∧ lvF ls (h jm) ≤ 1000000000000 := C0.out.bd _ (gi_mem ls _ (by rw [C0.out.i.len]; omega))
          have p0 : (j : Int) - 1 = (jm : Int) := by omega
          have p1 : (j : Int) < (n : Int) := by omega
          have p2 : (jm : Int) < (n : Int) := by omega
          by_cases hcmp : lvF ls (h i) < lvF ls (h jm)
          · have hcI : lvF ls (h i) - lvF ls (h jm) < 0 := by omega
            have HB2 := hidp (show ∀ x, jm ≤ x → x < i → lvF ls (h i) < lvF ls (h x) from fun x h1 h2 => by
              by_cases e : x = jm
              · rw [e]; exact hcmp
              · exact HB.out x (by omega) h2)
            have f1 := D.out.fro j
            have f2 := D.out.fro jm
            have SW := D.out.swap j jm (by omega)
            have E3 := shr_step h jm i (by omega)
            rw [hjj] at E3
            rw [e1, e2, E3] at SW
            have SW2 := hidp SW
            have GG := hidp (fun x y u v => gr_set (gr_set G.out x u) y v)
            generalize lvF ls (h i) = vx at *
            generalize lvF ls (h jm) = vy at *
            generalize h i = hx at *
            generalize h jm = hy at *
            have HJJ := hidp hjj
            have HJM := hidp hjm
            clear hcmp e1 e2 E3 SW hj hjj hjm
            go_wp2_with fail
            go_quiet ((go_at_call 103; exact Calls.quiet_of (CQ.out _)))
            have d1 : (wr.drewN nq).cell? ⟨g, j, none⟩ = some (.int .i64 hx) := c1
            have d2 : (wr.drewN nq).cell? ⟨g, jm, none⟩ = some (.int .i64 hy) := c2
            have d3 : (wr.drewN nq).frozen? ⟨g, j, none⟩ = false := f1
            have d4 : (wr.drewN nq).frozen? ⟨g, jm, none⟩ = false := f2
            have SW3 := hidp (And.intro (show DS (((wr.drewN nq).setCell ⟨g, j, none⟩ (.int .i64 hy)).setCell ⟨g, jm, none⟩ (.int .i64 hx)) B g n (shr h jm i) from SW2.out.1) (show DS (((wr.drewN nq).setCell ⟨g, jm, none⟩ (.int .i64 hx)).setCell ⟨g, j, none⟩ (.int .i64 hy)) B g n (shr h jm i) from SW2.out.2))
            have GG3 := hidp (fun x y u v => gr_drew (gr_set (gr_set (gr_drewN G.out nq) x u) y v))
            clear c1 c2 f1 f2 SW2 GG CQ D G CC
            generalize wr.drewN nq = wq at *
            go_wp2_with fail
            go_region
            all_goals go_wp2
            all_goals go_roundg (jm - a)
            all_goals first
              | exact ⟨jm, by have := HJJ.out; omega, by have := HJJ.out; omega, by omega, rfl, HB2, hidp (by first | exact SW3.out.1 | exact SW3.out.2), hidp (GG3.out _ _ _ _)⟩
              | (have := HJJ.out; omega)
          · have hcI : ¬ lvF ls (h i) - lvF ls (h jm) < 0 := by omega
            have PP := hidp (HP2.out.wider (Nat.le_refl a) (show i ≤ i + 1 by omega) |>.trans (shr_perm h a j i (i + 1) haj hji (by omega)))
            have SS := hidp (ins_right (lvF ls) h a j i HS2.out LF.out haj hji (fun _ => by rw [show j - 1 = jm by omega]; exact hcmp) HB.out)
            generalize lvF ls (h i) = vx at *
            generalize lvF ls (h jm) = vy at *
            generalize h i = hx at *
            generalize h jm = hy at *
            clear hcmp e1 e2 hj hjj hjm
            go_wp2_with fail
            go_quiet ((go_at_call 103; exact Calls.quiet_of (CQ.out _)))
            have D5 := hidp (show DS (wr.drewN nq) B g n (shr h j i) from D.out)
            have G5 := hidp (gr_drewN G.out nq)
            clear c1 c2
            generalize wr.drewN nq = wq at *
            go_wp2_with fail
            go_roundg (b - (i + 1))
            case measure => omega
            case rel => exact ⟨i + 1, _, by omega, .inl (by omega), by omega, by go_num, hidp (fun _ => PP.out), hidp (fun _ => SS.out), hidp (fun h => by omega), D5, G5⟩
        · obtain rfl : j = a := by omega
          have hj' : ¬ (j : Int) < (j : Int) := by omega
          have PP := hidp (HP2.out.wider (Nat.le_refl j) (show i ≤ i + 1 by omega) |>.trans (shr_perm h j j i (i + 1) (Nat.le_refl _) hji (by omega)))
          have SS := hidp (ins_right (lvF ls) h j j i HS2.out LF.out (Nat.le_refl _) hji (fun h => by omega) HB.out)
          go_wp2_with fail
          go_quiet (fail)
          have D5 := hidp (show DS (wr.drewN nq) B g n (shr h j i) from D.out)
          have G5 := hidp (gr_drewN G.out nq)
          generalize wr.drewN nq = wq at *
          go_wp2_with fail
          go_roundg (b - (i + 1))
          case measure => omega
          case rel => exact ⟨i + 1, _, by omega, .inl (by omega), by omega, by go_num, hidp (fun _ => PP.out), hidp (fun _ => SS.out), hidp (fun h => by omega), D5, G5⟩
    · have hfin : ∃ f', Perm f f' a b ∧ Srt (key (lvF ls)) f' a b ∧ DS wr B g n f' := by
        by_cases e : i ≤ b
        · obtain rfl : i = b := by omega
          exact ⟨h, HP.out (Nat.le_refl _), HS.out (Nat.le_refl _), D.out⟩
        · have e2 := HE.out (by omega)
          refine ⟨h, by rw [e2]; exact Perm.refl _ _ _, fun x y h1 h2 h3 => by omega, D.out⟩
      have HFI := hidp hfin
      have hlt' : ¬ (i : Int) < (b : Int) := by omega
      clear hfin
      go_wp2_with fail
      go_end0
      exact ⟨rfl, HFI.out, G.out⟩
end Go.Proofs.YtgodgfnfaiiohaaGreatDoor

/- Contract of slices.symMergeCmpFunc at integers: the two small cases. -/
namespace Go.Proofs.YtgodgfnfaiiohaaGreatDoor
open Go.ChangeShapes Go.WideShapes Go.ChangeAt Go.RowKit
open Stab
set_option maxRecDepth 20000
/-- What a merge is handed. -/
structure Mg (W : World) (B g n P : Nat) (al : Option Addr) (cl : Nat) (ls : List Int) (f : Nat → Int) (a m b : Nat) : Prop where
  d : DS W B g n f
  c : Cx W g P al n cl ls
  am : a < m
  mb : m < b
  bn : b ≤ n
  n40 : n ≤ 40
  rg : ∀ i, a ≤ i → i < b → 0 ≤ f i ∧ f i < n
  lf : Lft f a m b
  s1 : Srt (key (lvF ls)) f a m
  s2 : Srt (key (lvF ls)) f m b
/-- What a merge leaves. -/
def Mgd (W w' : World) (B g n : Nat) (ls : List Int) (f : Nat → Int) (a b : Nat) : Prop := (∃ f', Perm f f' a b ∧ Srt (key (lvF ls)) f' a b ∧ DS w' B g n f') ∧ W.grownBy w' (some g)
theorem lvb {W : World} {g P : Nat} {al : Option Addr} {n cl : Nat} {ls : List Int} (h : Cx W g P al n cl ls) (x : Int) (hx : 0 ≤ x ∧ x < n) : 0 ≤ lvF ls x ∧ lvF ls x ≤ 1000000000000 := h.bd _ (gi_mem ls _ (by rw [h.i.len]; omega))
set_option maxHeartbeats 8000000 in
theorem sym1_c (B g n P a b : Nat) (al : Option Addr) (cl : Nat) (ls : List Int) (f : Nat → Int) (W : World) (h : Mg W B g n P al cl ls f a (a + 1) b) :
    Calls Tryz.prog 172 #[.slice (some ⟨g, 0, none⟩) n n, .int .i64 (a : Nat), .int .i64 ((a + 1 : Nat) : Int), .int .i64 (b : Nat), cmpV P] W fun e w' => e = .returned (.tuple #[]) ∧ Mgd W w' B g n ls f a b := by
  have H := hidp h
  have hmb := h.mb
  have hbn := h.bn
  have hn := h.n40
  have DN := hidp (fun x (h1 : a + 1 ≤ x) (h2 : x < b) (hp : lvF ls (f x) < lvF ls (f a)) y (h3 : a + 1 ≤ y) (h4 : y ≤ x) => show lvF ls (f y) < lvF ls (f a) by
    obtain ⟨c1, c2, c3⟩ := H.out.lf a x (Nat.le_refl _) (by omega) h1 h2
    obtain ⟨d1, d2, d3⟩ := H.out.lf a y (Nat.le_refl _) (by omega) h3 (by omega)
    have e1 := (key_lt (lvF ls) _ _ c1 c2 c3).1 hp
    have e2 := H.out.s2 y x h3 h4 h2
    exact (key_lt (lvF ls) _ _ d1 d2 d3).2 (by omega))
  have D0 := hidp h.d
  have FIN := hidp (fun i (h1 : a + 1 ≤ i) (h2 : i ≤ b) (hA : ∀ x, a + 1 ≤ x → x < i → lvF ls (f x) < lvF ls (f a)) (hB : i < b → ¬ lvF ls (f i) < lvF ls (f a)) => And.intro (shl_perm f a i b (by omega) h2) (ins_left (lvF ls) f a i b H.out.s2 H.out.lf h1 h2 hA hB))
  have e1 : ((a + 1 : Nat) : Int) - (a : Int) = 1 := by omega
  have ra := H.out.rg a (Nat.le_refl _) (by omega)
  have va := lvb H.out.c (f a) ra
  have CA := hidp (H.out.d.cell a (by omega))
  obtain ⟨m, hm⟩ : ∃ m, m = a + 1 := ⟨_, rfl⟩
  rw [← hm] at e1 hmb ⊢
  have HM := hidp hm
  have hma : a < m := by omega
  unfold cmpV
  clear h hm
  go_enter Tryz.func172, Tryz.ntmps172
  go_wp2_with fail
  go_loopg [10, 11] b (fun gg s10 s11 wr => ∃ i j : Nat, s10 = .int .i64 i ∧ s11 = .int .i64 j ∧ m ≤ i ∧ i ≤ j ∧ j ≤ b ∧ j - i ≤ gg ∧ Hid (∀ x, m ≤ x → x < i → lvF ls (f x) < lvF ls (f a)) ∧ Hid (j < b → lvF ls (f a) ≤ lvF ls (f j)) ∧ Hid (DS wr B g n f) ∧ Hid (W.grownBy wr (some g)))
  case atStart => exact ⟨m, b, rfl, rfl, Nat.le_refl _, by omega, Nat.le_refl _, by omega, hidp (fun x h1 h2 => by omega), hidp (fun h => by omega), D0, gr_refl _ _⟩
  case round =>
    clear D0
    obtain ⟨i, j, rfl, rfl, hmi, hij, hjb, hgg, HA, HB, D, G⟩ := hrel
    by_cases hlt : i < j
    · obtain ⟨k, hk⟩ : ∃ k, k = (i + j) / 2 := ⟨_, rfl⟩
      have hk1 : i ≤ k ∧ k < j := by omega
      have pk2 : ((i : Int) + (j : Int)) / 2 = (k : Int) := by omega
      have rk := H.out.rg k (by omega) (by omega)
      have vk := lvb H.out.c (f k) rk
      have c1 := D.out.cell k (by omega)
      have c2 := D.out.cell a (by omega)
      have CQ := hidp (fun q => cmpi_c (f k) (f a) g P al n cl ls (wr.drewN q) ((H.out.c.grown G.out).drewN q) rk ra)
      have p1 : (k : Int) < (n : Int) := by omega
      have p2 : (a : Int) < (n : Int) := by omega
      by_cases hcmp : lvF ls (f k) < lvF ls (f a)
      · have hcI : lvF ls (f k) - lvF ls (f a) < 0 := by omega
        have HA2 := hidp (show ∀ x, m ≤ x → x < k + 1 → lvF ls (f x) < lvF ls (f a) from fun x h1 h2 => DN.out k (by have := HM.out; omega) (by omega) hcmp x (by have := HM.out; omega) (by omega))
        generalize lvF ls (f k) = vx at *
        generalize lvF ls (f a) = vy at *
        generalize f k = fk at *
        generalize f a = fa at *
        clear hcmp hk
        go_wp2_with fail
        go_quiet ((go_at_call 103; exact Calls.quiet_of (CQ.out _)))
        have D5 := hidp (D.out.drewN nq)
        have G5 := hidp (gr_drewN G.out nq)
        clear c1 c2
        generalize wr.drewN nq = wq at *
        go_wp2_with fail
        go_roundg (j - (k + 1))
        case measure => omega
        case rel => exact ⟨k + 1, j, by go_num, rfl, by omega, by omega, hjb, by omega, HA2, HB, D5, G5⟩
      · have hcI : ¬ lvF ls (f k) - lvF ls (f a) < 0 := by omega
        have HB2 := hidp (show ∀ x, x = k → x < b → lvF ls (f a) ≤ lvF ls (f x) from fun x hx _ => by rw [hx]; omega)
        generalize lvF ls (f k) = vx at *
        generalize lvF ls (f a) = vy at *
        generalize f k = fk at *
        generalize f a = fa at *
        clear hcmp hk
        go_wp2_with fail
        go_quiet ((go_at_call 103; exact Calls.quiet_of (CQ.out _)))
        have D5 := hidp (D.out.drewN nq)
        have G5 := hidp (gr_drewN G.out nq)
        clear c1 c2
        generalize wr.drewN nq = wq at *
        go_wp2_with fail
        go_roundg (k - i)
        case measure => omega
        case rel => exact ⟨i, k, rfl, rfl, hmi, by omega, by omega, by omega, HA, hidp (HB2.out k rfl), D5, G5⟩
    · obtain rfl : i = j := by omega
      obtain ⟨F1, F2⟩ := FIN.out i (by have := HM.out; omega) hjb (fun x h1 h2 => HA.out x (by have := HM.out; omega) h2) (fun h => by have := HB.out h; omega)
      have HF1 := hidp F1
      have HF2 := hidp F2
      have D1 := hidp (show DS wr B g n (shl f a (a + 1)) by rw [shl_zero]; exact D.out)
      obtain ⟨i1, hi1⟩ : ∃ i1, i1 = i - 1 := ⟨_, rfl⟩
      have pi1 : (i : Int) - 1 = (i1 : Int) := by omega
      clear HA HB DN FIN F1 F2 D
      go_wp2_with fail
      go_loopg [13] i (fun gg s13 wy => ∃ k : Nat, a ≤ k ∧ k < i ∧ i - k ≤ gg ∧ s13 = .int .i64 k ∧ Hid (DS wy B g n (shl f a (k + 1))) ∧ Hid (W.grownBy wy (some g)))
      case atStart => exact ⟨a, Nat.le_refl _, by omega, by omega, rfl, D1, G⟩
      case round =>
        clear D1 G
        obtain ⟨k, hak, hki, hgk, rfl, D, G⟩ := hrel
        by_cases hlk : k + 1 < i
        · obtain ⟨x, hx⟩ : ∃ x, x = k + 1 := ⟨_, rfl⟩
          have p0 : (k : Int) + 1 = (x : Int) := by omega
          have p1 : (k : Int) < (n : Int) := by omega
          have p2 : (x : Int) < (n : Int) := by omega
          have pl : (k : Int) < (i1 : Int) := by omega
          have c1 := D.out.cell k (by omega)
          have c2 := D.out.cell x (by omega)
          have f1 := D.out.fro k
          have f2 := D.out.fro x
          have SW := D.out.swap k x (by omega)
          have E := shl_step f a k hak
          rw [← hx] at E c1 c2 SW
          rw [E] at SW
          have SW2 := hidp SW
          have GG := hidp (fun x y u v => gr_drew (gr_set (gr_set G.out x u) y v))
          have HX := hidp hx
          clear SW E hx hlk
          generalize shl f a x k = v1 at *
          generalize shl f a x x = v2 at *
          go_wp2_with fail
          go_region
          all_goals go_wp2
          all_goals go_roundg (i - x)
          all_goals first
            | exact ⟨x, by have := HX.out; omega, by omega, by omega, by go_num, hidp (by rw [show x + 1 = k + 2 by have := HX.out; omega]; first | exact SW2.out.1 | exact SW2.out.2), hidp (GG.out _ _ _ _)⟩
            | (have := HX.out; omega)
        · have D2 := hidp (show DS wr B g n (shl f a i) by rw [show i = k + 1 by omega]; exact D.out)
          have pl : ¬ (k : Int) < (i1 : Int) := by omega
          clear D
          go_wp2_with fail
          exact bodyPost_ret (results_none rfl _ _ _) rfl ⟨rfl, ⟨_, HF1.out, HF2.out, D2.out⟩, G.out⟩
set_option maxHeartbeats 8000000 in
theorem sym2_c (B g n P a m : Nat) (al : Option Addr) (cl : Nat) (ls : List Int) (f : Nat → Int) (W : World) (h : Mg W B g n P al cl ls f a m (m + 1)) (h1 : a + 1 < m) :
    Calls Tryz.prog 172 #[.slice (some ⟨g, 0, none⟩) n n, .int .i64 (a : Nat), .int .i64 (m : Nat), .int .i64 ((m + 1 : Nat) : Int), cmpV P] W fun e w' => e = .returned (.tuple #[]) ∧ Mgd W w' B g n ls f a (m + 1) := by
  have H := hidp h
  have hbn := h.bn
  have hn := h.n40
  have UP := hidp (fun x (h1 : a ≤ x) (h2 : x < m) (hp : lvF ls (f m) < lvF ls (f x)) y (h3 : x ≤ y) (h4 : y < m) => show lvF ls (f m) < lvF ls (f y) by
    obtain ⟨c1, c2, c3⟩ := H.out.lf x m h1 h2 (Nat.le_refl _) (by omega)
    obtain ⟨d1, d2, d3⟩ := H.out.lf y m (by omega) h4 (Nat.le_refl _) (by omega)
    have e1 := (key_lt (lvF ls) _ _ c1 c2 c3).1 hp
    have e2 := H.out.s1 x y h1 h3 h4
    exact (key_lt (lvF ls) _ _ d1 d2 d3).2 (by omega))
  have D0 := hidp h.d
  have FIN := hidp (fun i (h1 : a ≤ i) (h2 : i ≤ m) (hA : a < i → ¬ lvF ls (f m) < lvF ls (f (i - 1))) (hB : ∀ x, i ≤ x → x < m → lvF ls (f m) < lvF ls (f x)) => And.intro (shr_perm f a i m (m + 1) h1 h2 (by omega)) (ins_right (lvF ls) f a i m H.out.s1 H.out.lf h1 h2 hA hB))
  obtain ⟨b, hb⟩ : ∃ b, b = m + 1 := ⟨_, rfl⟩
  have e1 : (b : Int) - (m : Int) = 1 := by omega
  have e0 : (((m : Int) - (a : Int)) == 1) = false := by rw [beq_eq_false_iff_ne]; omega
  have e0' : ¬ ((m : Int) - (a : Int)) = 1 := by omega
  have rm := H.out.rg m (by omega) (by omega)
  have vm := lvb H.out.c (f m) rm
  rw [← hb] at FIN hbn ⊢
  have HB := hidp hb
  have hma : a < m := by omega
  have hmb : m < b := by omega
  unfold cmpV
  clear h hb
  go_enter Tryz.func172, Tryz.ntmps172
  go_wp2_with fail
  go_loopg [14, 15] m (fun gg s14 s15 wr => ∃ i j : Nat, s14 = .int .i64 i ∧ s15 = .int .i64 j ∧ a ≤ i ∧ i ≤ j ∧ j ≤ m ∧ j - i ≤ gg ∧ Hid (∀ x, x + 1 = i → a ≤ x → lvF ls (f x) ≤ lvF ls (f m)) ∧ Hid (∀ x, j ≤ x → x < m → lvF ls (f m) < lvF ls (f x)) ∧ Hid (DS wr B g n f) ∧ Hid (W.grownBy wr (some g)))
  case atStart => exact ⟨a, m, rfl, rfl, Nat.le_refl _, by omega, Nat.le_refl _, by omega, hidp (fun x h1 h2 => by omega), hidp (fun x h1 h2 => by omega), D0, gr_refl _ _⟩
  case round =>
    clear D0
    obtain ⟨i, j, rfl, rfl, hmi, hij, hjb, hgg, HA, HC, D, G⟩ := hrel
    by_cases hlt : i < j
    · obtain ⟨k, hk⟩ : ∃ k, k = (i + j) / 2 := ⟨_, rfl⟩
      have hk1 : i ≤ k ∧ k < j := by omega
      have pk2 : ((i : Int) + (j : Int)) / 2 = (k : Int) := by omega
      have rk := H.out.rg k (by omega) (by have := HB.out; omega)
      have vk := lvb H.out.c (f k) rk
      have c1 := D.out.cell k (by omega)
      have c2 := D.out.cell m (by omega)
      have CQ := hidp (fun q => cmpi_c (f m) (f k) g P al n cl ls (wr.drewN q) ((H.out.c.grown G.out).drewN q) rm rk)
      have p1 : (k : Int) < (n : Int) := by omega
      have p2 : (m : Int) < (n : Int) := by omega
      by_cases hcmp : lvF ls (f m) < lvF ls (f k)
      · have hcI : lvF ls (f m) - lvF ls (f k) < 0 := by omega
        have HC2 := hidp (show ∀ x, k ≤ x → x < m → lvF ls (f m) < lvF ls (f x) from fun x h1 h2 => UP.out k (by omega) (by omega) hcmp x h1 h2)
        generalize lvF ls (f k) = vx at *
        generalize lvF ls (f m) = vy at *
        generalize f k = fk at *
        generalize f m = fa at *
        clear hcmp hk
        go_wp2_with fail
        go_quiet ((go_at_call 103; exact Calls.quiet_of (CQ.out _)))
        have D5 := hidp (D.out.drewN nq)
        have G5 := hidp (gr_drewN G.out nq)
        clear c1 c2
        generalize wr.drewN nq = wq at *
        go_wp2_with fail
        go_roundg (k - i)
        case measure => omega
        case rel => exact ⟨i, k, rfl, rfl, hmi, by omega, by omega, by omega, HA, HC2, D5, G5⟩
      · have hcI : ¬ lvF ls (f m) - lvF ls (f k) < 0 := by omega
        have hcB : decide (lvF ls (f m) - lvF ls (f k) < 0) = false := decide_eq_false hcI
        have HA2 := hidp (show ∀ x, x = k → lvF ls (f x) ≤ lvF ls (f m) from fun x hx => by rw [hx]; omega)
        generalize lvF ls (f k) = vx at *
        generalize lvF ls (f m) = vy at *
        generalize f k = fk at *
        generalize f m = fa at *
        clear hcmp hk
        go_wp2_with fail
        go_quiet ((go_at_call 103; exact Calls.quiet_of (CQ.out _)))
        have D5 := hidp (D.out.drewN nq)
        have G5 := hidp (gr_drewN G.out nq)
        clear c1 c2
        generalize wr.drewN nq = wq at *
        go_wp2_with fail
        go_roundg (j - (k + 1))
        case measure => omega
        case rel => exact ⟨k + 1, j, by go_num, rfl, by omega, by omega, hjb, by omega, hidp (fun x h1 h2 => HA2.out x (by omega)), HC, D5, G5⟩
    · obtain rfl : i = j := by omega
      obtain ⟨F1, F2⟩ := FIN.out i hmi hjb (fun h => by have := HA.out (i - 1) (by omega) (by omega); omega) HC.out
      have HF1 := hidp F1
      have HF2 := hidp F2
      have D1 := hidp (show DS wr B g n (shr f m m) by rw [shr_zero]; exact D.out)
      clear HA HC UP FIN F1 F2 D
      go_wp2_with fail
      go_loopg [17] m (fun gg s17 wy => ∃ k : Nat, i ≤ k ∧ k ≤ m ∧ k - i ≤ gg ∧ s17 = .int .i64 k ∧ Hid (DS wy B g n (shr f k m)) ∧ Hid (W.grownBy wy (some g)))
      case atStart => exact ⟨m, by omega, Nat.le_refl _, by omega, rfl, D1, G⟩
      case round =>
        clear D1 G
        obtain ⟨k, hik, hkm, hgk, rfl, D, G⟩ := hrel
        by_cases hlk : i < k
        · obtain ⟨x, hx⟩ : ∃ x, x = k - 1 := ⟨_, rfl⟩
          have p0 : (k : Int) - 1 = (x : Int) := by omega
          have p1 : (k : Int) < (n : Int) := by omega
          have p2 : (x : Int) < (n : Int) := by omega
          have hkx : k = x + 1 := by omega
          have c1 := D.out.cell k (by omega)
          have c2 := D.out.cell x (by omega)
          have f1 := D.out.fro k
          have f2 := D.out.fro x
          have SW := D.out.swap k x (by omega)
          have E := shr_step f x m (by omega)
          rw [← hkx] at E
          rw [E] at SW
          have SW2 := hidp SW
          have GG := hidp (fun x y u v => gr_drew (gr_set (gr_set G.out x u) y v))
          have HX := hidp hx
          have pl : (i : Int) < (k : Int) := by omega
          clear SW E hx hlk hkx
          generalize shr f k m k = v1 at *
          generalize shr f k m x = v2 at *
          go_wp2_with fail
          go_region
          all_goals go_wp2
          all_goals go_roundg (x - i)
          all_goals first
            | exact ⟨x, by have := HX.out; omega, by omega, by omega, rfl, hidp (by first | exact SW2.out.1 | exact SW2.out.2), hidp (GG.out _ _ _ _)⟩
            | (have := HX.out; omega)
        · have D2 := hidp (show DS wr B g n (shr f i m) by rw [show i = k by omega]; exact D.out)
          have pl : ¬ (i : Int) < (k : Int) := by omega
          clear D
          go_wp2_with fail
          exact bodyPost_ret (results_none rfl _ _ _) rfl ⟨rfl, ⟨_, HF1.out, HF2.out, D2.out⟩, G.out⟩
end Go.Proofs.YtgodgfnfaiiohaaGreatDoor
