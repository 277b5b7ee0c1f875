/- Rows of a call's own, whatever stands in them; many rows, each in a block of its own. -/
import Derived.Test.YtdfghgeccannnaaDoorMgKit
namespace Go.Proofs.YtdfghgeccannnaaDoor
open Go.ChangeShapes Go.WideShapes Go.ChangeAt Go.RowKit
set_option maxRecDepth 20000
/-- Integers that fit. -/
def Bd (xs : List Int) : Prop := ∀ x ∈ xs, -9223372036854775808 ≤ x ∧ x ≤ 9223372036854775807
/-- A short list of integers that lies in a block that was not there at B (or nil). -/
def Fr (B : Nat) (W : World) (v : Value) : Prop := ∃ (n : Nat) (xs : List Int), W.ownsRow B 3 1 v n (xs.map (Value.int .i64)) ∧ n ≤ 1000 ∧ Bd xs
theorem Fr.nil (B : Nat) (W : World) : Fr B W (.slice none 0 0) := ⟨0, [], World.ownsRow_nil _ _ _ _, by omega, fun x hx => by simp at hx⟩
theorem Fr.mk {B : Nat} {W : World} {v : Value} {n : Nat} {xs : List Int} (h : W.ownsRow B 3 1 v n (xs.map (Value.int .i64))) (hn : n ≤ 1000) (hb : Bd xs) : Fr B W v := ⟨n, xs, h, hn, hb⟩
theorem Fr.tab {B : Nat} {W : World} {v : Value} {n : Nat} {f : Nat → Int} (h : W.ownsRow B 3 1 v n (tab (fun j => Value.int .i64 (f j)) n)) (hn : n ≤ 1000) (hb : ∀ j, j < n → -9223372036854775808 ≤ f j ∧ f j ≤ 9223372036854775807) : Fr B W v :=
  ⟨n, Go.Proofs.YtdfghgeccannnaaDoor.tab f n, by rw [tab_map]; exact h, hn, fun x hx => by obtain ⟨j, hj, rfl⟩ := tab_mem _ _ _ hx; exact hb j hj⟩
theorem Fr.mono {B B' : Nat} {W : World} {v : Value} (h : Fr B W v) (hB : B' ≤ B) : Fr B' W v := by
  obtain ⟨n, xs, ho, hb⟩ := h
  exact ⟨n, xs, owns_mono ho hB, hb⟩
theorem gi_any {xs : List Int} (h : Bd xs) (i : Nat) : -9223372036854775808 ≤ gi xs i ∧ gi xs i ≤ 9223372036854775807 := by
  by_cases hi : i < xs.length
  · apply h
    unfold gi; rw [List.getD_eq_getElem?_getD, List.getElem?_eq_getElem hi]
    exact List.getElem_mem hi
  · unfold gi; rw [List.getD_eq_getElem?_getD, List.getElem?_eq_none (by omega)]; simp
theorem owns_below' {w w' : World} {base : Nat} {e : TypeId} {size : Nat} {v : Value} {n : Nat} {xs : List Value} (h : w.ownsRow base e size v n xs) (hb : Below w.heap.size w w') : w'.ownsRow base e size v n xs := by
  refine ⟨h.1, ?_⟩
  rcases h.2 with h0 | ⟨g, cap, cur, hv, hg, hh, r⟩
  · exact .inl h0
  · exact .inr ⟨g, cap, cur, hv, hg, by rw [hb.block g (Array.getElem?_eq_some_iff.1 hh).1]; exact hh, r⟩
theorem below_grown {W W' : World} {r : Option Nat} (B : Nat) (hg : W.grownBy W' r) (hB : B ≤ W.heap.size) (hr : ∀ k, r = some k → B ≤ k) : Below B W W' := (Below.refl _ _).grown hg hB hr

/-- A row: its element's type, how many cells an element has, the slice, its length, its cells. -/
structure Ent where
  e : TypeId
  s : Nat
  v : Value
  n : Nat
  cs : List Value
/-- Rows of the call's own (from B on), each in a block of its own. -/
structure Sep (B : Nat) (W : World) (L : List Ent) : Prop where
  own : ∀ x ∈ L, W.ownsRow B x.e x.s x.v x.n x.cs
  ap : L.Pairwise fun x y => Apart x.v y.v
/-- No row of L lies where v does. -/
def Off (v : Value) (L : List Ent) : Prop := ∀ x ∈ L, Apart x.v v
theorem Sep.nil (B : Nat) (W : World) : Sep B W [] := ⟨fun x hx => by simp at hx, List.Pairwise.nil⟩
theorem Sep.below {B : Nat} {W W' : World} {L : List Ent} (h : Sep B W L) (hb : Below W.heap.size W W') : Sep B W' L := ⟨fun x hx => owns_below' (h.own x hx) hb, h.ap⟩
theorem Sep.alloc {B : Nat} {W : World} {L : List Ent} (h : Sep B W L) (o : Obj) : Sep B (W.alloc o) L := h.below ((Below.refl _ _).alloc (Nat.le_refl _) o)
theorem Sep.drew {B : Nat} {W : World} {L : List Ent} (h : Sep B W L) : Sep B W.drew L := h.below (Below.refl _ _).drew
theorem apart_new {W : World} {B H : Nat} {e e' : TypeId} {s s' : Nat} {v u : Value} {n m : Nat} {xs ys : List Value} {W' : World} (h : W.ownsRow B e s v n xs) (hu : W'.ownsRow H e' s' u m ys) (hH : W.heap.size ≤ H) : Apart v u := by
  cases hv : v.ownBlock with
  | none => exact .inl hv
  | some k =>
    refine .inr fun e => ?_
    rw [hv] at e
    have := (h.lt k hv).2
    have := (hu.lt k e.symm).1
    omega
/-- A new row behind a call. -/
theorem Sep.snoc {B : Nat} {W W' : World} {L : List Ent} {x : Ent} (h : Sep B W L) (hB : B ≤ W.heap.size) (hb : Below W.heap.size W W') (hx : W'.ownsRow W.heap.size x.e x.s x.v x.n x.cs) : Sep B W' (L ++ [x]) := by
  have h' := h.below hb
  refine ⟨fun y hy => ?_, ?_⟩
  · rcases List.mem_append.1 hy with hy | hy
    · exact h'.own y hy
    · simp at hy; subst hy; exact owns_mono hx hB
  · rw [List.pairwise_append]
    refine ⟨h.ap, by simp, fun a ha b hb => ?_⟩
    simp at hb; subst hb
    exact apart_new (h.own a ha) hx (Nat.le_refl _)
theorem Off.new {B H : Nat} {W W' : World} {L : List Ent} {e : TypeId} {s n : Nat} {v : Value} {xs : List Value} (h : Sep B W L) (hv : W'.ownsRow H e s v n xs) (hH : W.heap.size ≤ H) : Off v L := fun x hx => apart_new (h.own x hx) hv hH
theorem Off.nil (L : List Ent) : Off (.slice none 0 0) L := fun x _ => (show Apart (.slice none 0 0) x.v from .inl rfl).symm
theorem Off.snoc {v : Value} {L : List Ent} {x : Ent} (h : Off v L) (hx : Apart x.v v) : Off v (L ++ [x]) := fun y hy => by
  rcases List.mem_append.1 hy with hy | hy
  · exact h y hy
  · simp at hy; subst hy; exact hx
theorem Sep.off {B : Nat} {W W' : World} {L : List Ent} {v : Value} (h : Sep B W L) (ho : Off v L) (hg : W.grownBy W' v.ownBlock) : Sep B W' L := ⟨fun x hx => (h.own x hx).kept hg (ho x hx), h.ap⟩
theorem Off.grown {B : Nat} {W : World} {L : List Ent} {v v' : Value} (ho : Off v L) (h : Sep B W L) (hd : v'.ownBlock = v.ownBlock ∨ ∃ k, v'.ownBlock = some k ∧ W.heap.size ≤ k) : Off v' L := fun x hx => ((ho x hx).symm.grown (h.own x hx) hd).symm
theorem Sep.sub {B : Nat} {W : World} {L L' : List Ent} (h : Sep B W L) (hs : L'.Sublist L) : Sep B W L' := ⟨fun x hx => h.own x (hs.subset hx), h.ap.sublist hs⟩
theorem Off.sub {v : Value} {L L' : List Ent} (h : Off v L) (hs : L'.Sublist L) : Off v L' := fun x hx => h x (hs.subset hx)
/-- The head row is written; the others stay. -/
theorem Sep.head {B : Nat} {W W' : World} {L : List Ent} {x : Ent} (h : Sep B W (x :: L)) (hg : W.grownBy W' x.v.ownBlock) : Sep B W' L := by
  have hp := List.pairwise_cons.1 h.ap
  exact (h.sub (List.sublist_cons_self x L)).off (fun y hy => (hp.1 y hy).symm) hg
/-- Row x stays while row y is written. -/
theorem Sep.kept {B : Nat} {W W' : World} {L : List Ent} {x : Ent} (h : Sep B W (x :: L)) (y : Ent) (hy : y ∈ L) (hg : W.grownBy W' y.v.ownBlock) : W'.ownsRow B x.e x.s x.v x.n x.cs :=
  (h.own x (by simp)).kept hg ((List.pairwise_cons.1 h.ap).1 y hy)
/-- A row of integers. -/
def ei (v : Value) (n : Nat) (xs : List Int) : Ent := ⟨3, 1, v, n, xs.map (Value.int .i64)⟩
/-- A row, seen up to its cap. -/
theorem owns_full {W : World} {B : Nat} {e : TypeId} {s g n cap : Nat} {xs : List Value} (h : W.ownsRow B e s (.slice (some ⟨g, 0, none⟩) n cap) n xs) : ∃ ys, W.ownsRow B e s (.slice (some ⟨g, 0, none⟩) cap cap) cap ys ∧ ys.take (n * s) = xs := by
  rcases h.2 with ⟨h0, _⟩ | ⟨g', cap', cur, hv, hg, hh, hn, hm, hs, ht⟩
  · cases h0
  · simp only [Value.slice.injEq, Option.some.injEq, Addr.mk.injEq] at hv
    obtain ⟨⟨rfl, _, _⟩, _, rfl⟩ := hv
    refine ⟨cur.toList, ⟨by simpa using hs, .inr ⟨g, cap, cur, rfl, hg, hh, Nat.le_refl _, hm, hs, List.take_of_length_le (by rw [Array.length_toList, hs]; exact Nat.le_refl _)⟩⟩, ht⟩
/-- .. and seen shorter. -/
theorem owns_short {W : World} {B : Nat} {e : TypeId} {s g cap : Nat} {ys : List Value} (h : W.ownsRow B e s (.slice (some ⟨g, 0, none⟩) cap cap) cap ys) (n : Nat) (hn : n ≤ cap) : W.ownsRow B e s (.slice (some ⟨g, 0, none⟩) n cap) n (ys.take (n * s)) := by
  have hl := h.1
  have hm := Nat.mul_le_mul_right s hn
  rcases h.2 with ⟨h0, _⟩ | ⟨g', cap', cur, hv, hg, hh, hn', hm', hs, ht⟩
  · cases h0
  · simp only [Value.slice.injEq, Option.some.injEq, Addr.mk.injEq] at hv
    obtain ⟨⟨rfl, _, _⟩, _, rfl⟩ := hv
    refine ⟨by rw [List.length_take]; omega, .inr ⟨g, cap, cur, rfl, hg, hh, hn, hm', hs, ?_⟩⟩
    rw [← ht, List.take_take, Nat.min_eq_left hm]
/-- 'append' that fits, at the operation. -/
theorem wpList_append_fits {P : Program} {w : World} {ops : Array Oper} {rest : List Oper} {o : Oper} {a : Act} {Q : Exit → Act → World → Prop} (hgd : o.guard = none) (s x : Operand) (t : TypeId)
    (ho : o.op = .call { callee := .builtin .append, args := #[s, x], argTypes := #[t, t] })
    (base : Nat) (e : TypeId) (z : Value) (size bytes : Nat) (ht : P.underlying t = some (.slice e)) (hinfo : (P.info? e).map (fun i => (i.zero, i.size, i.bytes)) = some (some z, size, bytes))
    (g n cap : Nat) (xs : List Value) (hs : a.eval s = .slice (some ⟨g, 0, none⟩) n cap) (hown : w.ownsRow base e size (.slice (some ⟨g, 0, none⟩) n cap) n xs)
    (ad : Option Addr) (m c : Nat) (news : List Value) (hx : a.eval x = .slice ad m c) (hl : news.length = m * size) (hnil : ad = none → m = 0 ∧ c = 0) (hnews : ∀ b, ad = some b → ∀ j u, news[j]? = some u → w.cell? (b.add j) = some u) (h1 : ∀ u ∈ news, u.oneCell' = true)
    (hroom : n + m ≤ cap)
    (h : ∀ w', w'.ownsRow base e size (.slice (some ⟨g, 0, none⟩) (n + m) cap) (n + m) (xs ++ news) → w.grownBy w' (some g) → wpList P ops Q rest (a.put o.dst (.slice (some ⟨g, 0, none⟩) (n + m) cap)) w') :
    wpList P ops Q (o :: rest) a w := by
  obtain ⟨i, hi, hz, hsize, _⟩ := info_parts hinfo
  refine wpList_plain hgd fun K hK => ?_
  cases ad with
  | some b =>
    obtain ⟨w', hr, h2, h3⟩ := run_append_fits (P := P) w base t o.type e i size ht hi hsize g n cap xs hown b m c news hl (hnews b rfl) h1 hroom
    unfold Oper.wp execOp
    simp only [ho, resolve, invoke, builtin, Sem.run_bind, Sem.run_pure, Result.andThen_ok, List.map_toArray, List.map_cons, List.map_nil, hs, hx, hr]
    exact hK _ _ (h w' h2 h3)
  | none =>
    obtain ⟨rfl, rfl⟩ := hnil rfl
    have hr := run_append_owned_none (P := P) w base t o.type e i size ht hi _ n xs hown
    have hn : news = [] := List.eq_nil_of_length_eq_zero (by rw [hl]; omega)
    subst hn
    unfold Oper.wp execOp
    simp only [ho, resolve, invoke, builtin, Sem.run_bind, Sem.run_pure, Result.andThen_ok, List.map_toArray, List.map_cons, List.map_nil, hs, hx, hr]
    exact hK _ _ (h w (by simpa using hown) ⟨rfl, rfl, rfl, Nat.le_refl _, fun _ _ _ => rfl⟩)
end Go.Proofs.YtdfghgeccannnaaDoor
