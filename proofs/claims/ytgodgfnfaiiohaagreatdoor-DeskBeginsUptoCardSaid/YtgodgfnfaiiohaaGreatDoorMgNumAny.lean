/- Merged: Fr, DealAny, NumAny. -/
import Derived.Test.YtgodgfnfaiiohaaGreatDoorKit
import Derived.Test.YtgodgfnfaiiohaaGreatDoorTake
import Derived.Test.YtgodgfnfaiiohaaGreatDoorMgSome
import Derived.Test.YtgodgfnfaiiohaaGreatDoorPond
import Derived.Test.YtgodgfnfaiiohaaGreatDoorMgAliasUse
import Derived.Test.YtgodgfnfaiiohaaGreatDoorEven
/- Rows of a call's own, whatever stands in them; many rows, each in a block of its own. -/
namespace Go.Proofs.YtgodgfnfaiiohaaGreatDoor
open Go.ChangeShapes Go.WideShapes Go.ChangeAt Go.RowKit
set_option maxRecDepth 20000
/-- Integers that fit. -/
def Bd (xs : List Int) : Prop := ∀ x ∈ xs, -9223372036854775808 ≤ x ∧ x ≤ 9223372036854775807
/-- A short list of integers that lies in a block that was not there at B (or nil). -/
def Fr (B : Nat) (W : World) (v : Value) : Prop := ∃ (n : Nat) (xs : List Int), W.ownsRow B 3 1 v n (xs.map (Value.int .i64)) ∧ n ≤ 1000 ∧ Bd xs
theorem Fr.nil (B : Nat) (W : World) : Fr B W (.slice none 0 0) := ⟨0, [], World.ownsRow_nil _ _ _ _, by omega, fun x hx => by simp at hx⟩
theorem Fr.mk {B : Nat} {W : World} {v : Value} {n : Nat} {xs : List Int} (h : W.ownsRow B 3 1 v n (xs.map (Value.int .i64))) (hn : n ≤ 1000) (hb : Bd xs) : Fr B W v := ⟨n, xs, h, hn, hb⟩
theorem Fr.tab {B : Nat} {W : World} {v : Value} {n : Nat} {f : Nat → Int} (h : W.ownsRow B 3 1 v n (tab (fun j => Value.int .i64 (f j)) n)) (hn : n ≤ 1000) (hb : ∀ j, j < n → -9223372036854775808 ≤ f j ∧ f j ≤ 9223372036854775807) : Fr B W v :=
  ⟨n, Go.Proofs.YtgodgfnfaiiohaaGreatDoor.tab f n, by rw [tab_map]; exact h, hn, fun x hx => by obtain ⟨j, hj, rfl⟩ := tab_mem _ _ _ hx; exact hb j hj⟩
theorem Fr.mono {B B' : Nat} {W : World} {v : Value} (h : Fr B W v) (hB : B' ≤ B) : Fr B' W v := by
  obtain ⟨n, xs, ho, hb⟩ := h
  exact ⟨n, xs, owns_mono ho hB, hb⟩
theorem owns_below' {w w' : World} {base : Nat} {e : TypeId} {size : Nat} {v : Value} {n : Nat} {xs : List Value} (h : w.ownsRow base e size v n xs) (hb : Below w.heap.size w w') : w'.ownsRow base e size v n xs := by
  refine ⟨h.1, ?_⟩
  rcases h.2 with h0 | ⟨g, cap, cur, hv, hg, hh, r⟩
  · exact .inl h0
  · exact .inr ⟨g, cap, cur, hv, hg, by rw [hb.block g (Array.getElem?_eq_some_iff.1 hh).1]; exact hh, r⟩
/-- A row: its element's type, how many cells an element has, the slice, its length, its cells. -/
structure Ent where
  e : TypeId
  s : Nat
  v : Value
  n : Nat
  cs : List Value
/-- Rows of the call's own (from B on), each in a block of its own. -/
structure Sep (B : Nat) (W : World) (L : List Ent) : Prop where
  own : ∀ x ∈ L, W.ownsRow B x.e x.s x.v x.n x.cs
  ap : L.Pairwise fun x y => Apart x.v y.v
/-- No row of L lies where v does. -/
def Off (v : Value) (L : List Ent) : Prop := ∀ x ∈ L, Apart x.v v
theorem Sep.nil (B : Nat) (W : World) : Sep B W [] := ⟨fun x hx => by simp at hx, List.Pairwise.nil⟩
theorem Sep.below {B : Nat} {W W' : World} {L : List Ent} (h : Sep B W L) (hb : Below W.heap.size W W') : Sep B W' L := ⟨fun x hx => owns_below' (h.own x hx) hb, h.ap⟩
theorem Sep.alloc {B : Nat} {W : World} {L : List Ent} (h : Sep B W L) (o : Obj) : Sep B (W.alloc o) L := h.below ((Below.refl _ _).alloc (Nat.le_refl _) o)
theorem Sep.drew {B : Nat} {W : World} {L : List Ent} (h : Sep B W L) : Sep B W.drew L := h.below (Below.refl _ _).drew
theorem apart_new {W : World} {B H : Nat} {e e' : TypeId} {s s' : Nat} {v u : Value} {n m : Nat} {xs ys : List Value} {W' : World} (h : W.ownsRow B e s v n xs) (hu : W'.ownsRow H e' s' u m ys) (hH : W.heap.size ≤ H) : Apart v u := by
  cases hv : v.ownBlock with
  | none => exact .inl hv
  | some k =>
    refine .inr fun e => ?_
    rw [hv] at e
    have := (h.lt k hv).2
    have := (hu.lt k e.symm).1
    omega
theorem Off.new {B H : Nat} {W W' : World} {L : List Ent} {e : TypeId} {s n : Nat} {v : Value} {xs : List Value} (h : Sep B W L) (hv : W'.ownsRow H e s v n xs) (hH : W.heap.size ≤ H) : Off v L := fun x hx => apart_new (h.own x hx) hv hH
theorem Off.nil (L : List Ent) : Off (.slice none 0 0) L := fun x _ => (show Apart (.slice none 0 0) x.v from .inl rfl).symm
theorem Sep.off {B : Nat} {W W' : World} {L : List Ent} {v : Value} (h : Sep B W L) (ho : Off v L) (hg : W.grownBy W' v.ownBlock) : Sep B W' L := ⟨fun x hx => (h.own x hx).kept hg (ho x hx), h.ap⟩
theorem Off.grown {B : Nat} {W : World} {L : List Ent} {v v' : Value} (ho : Off v L) (h : Sep B W L) (hd : v'.ownBlock = v.ownBlock ∨ ∃ k, v'.ownBlock = some k ∧ W.heap.size ≤ k) : Off v' L := fun x hx => ((ho x hx).symm.grown (h.own x hx) hd).symm
theorem Sep.sub {B : Nat} {W : World} {L L' : List Ent} (h : Sep B W L) (hs : L'.Sublist L) : Sep B W L' := ⟨fun x hx => h.own x (hs.subset hx), h.ap.sublist hs⟩
theorem Off.sub {v : Value} {L L' : List Ent} (h : Off v L) (hs : L'.Sublist L) : Off v L' := fun x hx => h x (hs.subset hx)
/-- The head row is written; the others stay. -/
theorem Sep.head {B : Nat} {W W' : World} {L : List Ent} {x : Ent} (h : Sep B W (x :: L)) (hg : W.grownBy W' x.v.ownBlock) : Sep B W' L := by
  have hp := List.pairwise_cons.1 h.ap
  exact (h.sub (List.sublist_cons_self x L)).off (fun y hy => (hp.1 y hy).symm) hg
/-- Row x stays while row y is written. -/
theorem Sep.kept {B : Nat} {W W' : World} {L : List Ent} {x : Ent} (h : Sep B W (x :: L)) (y : Ent) (hy : y ∈ L) (hg : W.grownBy W' y.v.ownBlock) : W'.ownsRow B x.e x.s x.v x.n x.cs :=
  (h.own x (by simp)).kept hg ((List.pairwise_cons.1 h.ap).1 y hy)
/-- A row of integers. -/
def ei (v : Value) (n : Nat) (xs : List Int) : Ent := ⟨3, 1, v, n, xs.map (Value.int .i64)⟩
end Go.Proofs.YtgodgfnfaiiohaaGreatDoor

/- digit.Deal at whatever comes: a list of the call's own, or nil. -/
namespace Go.Proofs.YtgodgfnfaiiohaaGreatDoor
open Go.ChangeShapes Go.WideShapes Go.ChangeAt Go.RowKit
set_option maxRecDepth 20000
end Go.Proofs.YtgodgfnfaiiohaaGreatDoor

/- Functions of lists of integers at whatever comes: each returns, what it answers is a list of the call's own (or nil), nothing that was there changes. -/
namespace Go.Proofs.YtgodgfnfaiiohaaGreatDoor
open Go.ChangeShapes Go.WideShapes Go.ChangeAt Go.RowKit
set_option maxRecDepth 20000
open CombMath
/-- What goes wrong first. -/
def fE (f : Nat → Int) : Nat → Int
  | 0 => 0
  | n + 1 => if fE f n = 0 then f n else fE f n
theorem fE_keep (f : Nat → Int) (k : Nat) (h : fE f k ≠ 0) : ∀ n, k ≤ n → fE f n = fE f k
  | 0, hn => by obtain rfl : k = 0 := by omega
                rfl
  | n + 1, hn => by
    by_cases e : k = n + 1
    · subst e; rfl
    · have := fE_keep f k h n (by omega)
      simp only [fE]
      rw [if_neg (by rw [this]; exact h)]
      exact this
theorem fE_at (f : Nat → Int) (k n : Nat) (h0 : fE f k = 0) (h1 : f k ≠ 0) (hk : k < n) : fE f n = f k := by
  have e : fE f (k + 1) = f k := by simp only [fE]; rw [if_pos h0]
  rw [fE_keep f (k + 1) (by rw [e]; exact h1) n (by omega), e]
theorem fE_next (f : Nat → Int) (k : Nat) (h0 : fE f k = 0) (h1 : f k = 0) : fE f (k + 1) = 0 := by
  simp only [fE]; rw [if_pos h0]; exact h1
theorem fE_zero (f : Nat → Int) : ∀ n, fE f n = 0 → ∀ i, i < n → f i = 0
  | 0, _, i, hi => by omega
  | n + 1, h, i, hi => by
    by_cases e : fE f n = 0
    · simp only [fE] at h
      rw [if_pos e] at h
      by_cases e2 : i = n
      · subst e2; exact h
      · exact fE_zero f n e i (by omega)
    · simp only [fE] at h
      rw [if_neg e] at h
      exact absurd h e
/-- comb.Some at whatever comes. -/
def smE (n : Nat) (r : Int) : Int := if 30 < n then 1 else if r < 0 ∨ (wz 30 n : Int) ≤ r then 4 else 0
theorem some_bad (n : Nat) (r : Int) (hE : smE n r ≠ 0) (hn : n ≤ 9223372036854775807) (w : World) :
    Calls Tryz.prog 65 #[.int .i64 n, .int .i64 r] w fun e w' => e = .returned (.tuple #[.slice none 0 0, .int .i64 (smE n r)]) ∧ w = w' := by
  by_cases h1 : 30 < n
  · rw [show smE n r = 1 by unfold smE; rw [if_pos h1]]
    have h1' : (30 : Int) < (n : Int) := by omega
    clear hE
    go_enter Tryz.func65, Tryz.ntmps65
    go_wp2
    go_ret2
    exact ⟨rfl, rfl⟩
  · by_cases h2 : r < 0 ∨ (wz 30 n : Int) ≤ r
    · rw [show smE n r = 4 by unfold smE; rw [if_neg h1, if_pos h2]]
      have W := hidp (waysz_c 30 n (by omega))
      have h1' : ¬ (30 : Int) < (n : Int) := by omega
      clear hE
      by_cases h3 : r < 0
      · clear h2
        go_enter Tryz.func65, Tryz.ntmps65
        go_wp2
        go_ret2
        exact ⟨rfl, rfl⟩
      · have h4 : (wz 30 n : Int) ≤ r := h2.resolve_left h3
        clear h2
        generalize wz 30 n = Z at *
        go_enter Tryz.func65, Tryz.ntmps65
        go_wp2_with fail
        refine (W.out _).mono ?_
        rintro e w1 ⟨rfl, rfl⟩
        go_wp2
        go_ret2
        exact ⟨rfl, rfl⟩
    · exact absurd (by unfold smE; rw [if_neg h1, if_neg h2]) hE
end Go.Proofs.YtgodgfnfaiiohaaGreatDoor
