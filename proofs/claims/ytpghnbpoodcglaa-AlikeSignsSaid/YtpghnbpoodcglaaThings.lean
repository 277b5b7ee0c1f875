/- Contract of the laws' own things: the set of things below n, rising. -/
import Derived.Test.YtpghnbpoodcglaaMapB
import Derived.Test.YtpghnbpoodcglaaKit
import Derived.Deep.LoopGhost
namespace Go.Proofs.Ytpghnbpoodcglaa
open Go.ChangeShapes Go.WideShapes Go.ChangeAt Go.RowKit Go.Maps
set_option maxRecDepth 20000

theorem wpList_mapUpdate_big {P : Program} {w : World} {ops : Array Oper} {rest : List Oper} {o : Oper} {a : Act} {Q : Exit → Act → World → Prop}
    (hg : o.guard = none) (m x v : Operand) (t : TypeId) (hop : o.op = Op.mapUpdate t m x v)
    (k e : TypeId) (K : Keyed P k) (ht : P.underlying t = some (.map k e)) (he : P.underlying e = some .bool) (b n : Nat) (S : Int → Bool) (q : IntKind)
    (hm : a.eval m = .map (some b)) (hown : MapIs w P k e q b n S) (hn : n + 1 ≤ maxLen) (y : Int) (c : Bool) (hx : a.eval x = .int q y) (hv : a.eval v = .bool c) (hkey : keyOf P k (.int q y) = some (.int q y))
    (hK : ∀ w', MapIs w' P k e q b (n + 1) (fun z => if z = y then c else S z) → w.grownBy w' (some b) → wpList P ops Q rest (a.put o.dst undef) w') : wpList P ops Q (o :: rest) a w := by
  obtain ⟨D, h1, h2⟩ := hown
  refine wpList_mapUpdate_own w hg m x v t hop k e K ht _ b n D hm h1 hn _ _ _ hx hv hkey (.lit (.bool c)) [] (plainElem_bool he c) fun w' r1 r2 => hK w' ⟨_, r1, fun z => ?_⟩ r2
  by_cases hzk : z = y
  · subst hzk
    show _ = DataW.lit (Lit.bool (if z = z then c else S z))
    rw [if_pos rfl]
    exact atKey_put_same h1.isMap (by simp [WideAt.IsKeyLit]) _ _
  · show _ = DataW.lit (Lit.bool (if z = y then c else S z))
    rw [if_neg hzk, atKey_put_other (by simp; exact hzk)]
    exact h2 z
theorem zeroBool (w : World) : (zeroValue 4).run Try.prog w = .ok (.bool false) w := by kernel_rfl
theorem key_i64 (n : Int) (h0 : 0 ≤ n) (h1 : n ≤ 9223372036854775807) : keyOf Try.prog 3 (.int .i64 n) = some (.int .i64 n) := keyOf_int_mk Try.underlying3 (WalkArith.wf_i64 (by omega))
/-- What the first k put in. -/
def tset (xs : List Int) (n : Int) : Nat → Int → Bool
  | 0 => fun _ => false
  | k + 1 => fun z => if z = wi (gi xs k) n then true else tset xs n k z
theorem tset_iff (xs : List Int) (n z : Int) : ∀ k, tset xs n k z = true ↔ ∃ j, j < k ∧ z = wi (gi xs j) n
  | 0 => by simp [tset]
  | k + 1 => by
    simp only [tset]
    constructor
    · intro h
      by_cases e : z = wi (gi xs k) n
      · exact ⟨k, by omega, e⟩
      · rw [if_neg e] at h
        obtain ⟨j, h1, h2⟩ := (tset_iff xs n z k).1 h
        exact ⟨j, by omega, h2⟩
    · rintro ⟨j, h1, h2⟩
      by_cases e : z = wi (gi xs k) n
      · rw [if_pos e]
      · rw [if_neg e]
        refine (tset_iff xs n z k).2 ⟨j, ?_, h2⟩
        by_cases ej : j = k
        · subst ej; exact absurd h2 e
        · omega
/-- Those of the first k that are in, rising. -/
def thR (S : Int → Bool) : Nat → List Int
  | 0 => []
  | k + 1 => if S k = true then thR S k ++ [(k : Int)] else thR S k
theorem thR_mem (S : Int → Bool) (x : Int) : ∀ k : Nat, x ∈ thR S k ↔ 0 ≤ x ∧ x < k ∧ S x = true
  | 0 => by simp [thR]; omega
  | k + 1 => by
    have ih := thR_mem S x k
    simp only [thR]
    split
    · rename_i h
      rw [List.mem_append, ih, List.mem_singleton]
      constructor
      · rintro (h1 | h1)
        · exact ⟨h1.1, by omega, h1.2.2⟩
        · subst h1; exact ⟨by omega, by omega, h⟩
      · rintro ⟨h1, h2, h3⟩
        by_cases e : x = k
        · exact .inr e
        · exact .inl ⟨h1, by omega, h3⟩
    · rename_i h
      rw [ih]
      constructor
      · rintro ⟨h1, h2, h3⟩; exact ⟨h1, by omega, h3⟩
      · rintro ⟨h1, h2, h3⟩
        by_cases e : x = k
        · subst e; exact absurd h3 h
        · exact ⟨h1, by omega, h3⟩
theorem thR_sorted (S : Int → Bool) : ∀ k, (thR S k).Pairwise (· < ·)
  | 0 => List.Pairwise.nil
  | k + 1 => by
    simp only [thR]
    split
    · rw [List.pairwise_append]
      refine ⟨thR_sorted S k, by simp, fun a ha b hb => ?_⟩
      simp at hb
      have := (thR_mem S a k).1 ha
      omega
    · exact thR_sorted S k
theorem thR_len (S : Int → Bool) : ∀ k, (thR S k).length ≤ k
  | 0 => Nat.le_refl _
  | k + 1 => by
    have := thR_len S k
    simp only [thR]
    split
    · rw [List.length_append]; simp; omega
    · omega
/-- The set. -/
def thL (xs : List Int) (m n : Nat) : List Int := thR (tset xs n m) n

set_option maxHeartbeats 2000000 in
theorem things_c (a : Option Addr) (m c : Nat) (xs : List Int) (n : Nat) (w : World) (h : IntsAt w a m c xs) (hn1 : 1 ≤ n) (hn2 : n ≤ 1000) :
    Calls Try.prog 44 #[.slice a m c, .int .i64 n] w fun e w' => ∃ v, e = .returned v ∧ w'.ownsRow w.heap.size 3 1 v (thL xs m n).length ((thL xs m n).map (Value.int .i64)) ∧ Below w.heap.size w w' := by
  obtain ⟨b, o, hz, hx⟩ := h.split
  have hz' : Hid (m = 0) ∨ a = some ⟨b, o, none⟩ := hz.imp_left hidp
  have HX := hidp hx
  have mm := h.max
  have ee := h.le
  have hmm := @run_makeMap Try.prog
  clear hx hz h
  go_enter Try.func44, Try.ntmps44
  go_wp2_with fail
  go_loopg [13] m (fun gg i wr => ∃ k : Nat, k ≤ m ∧ m - k ≤ gg ∧ i = .int .i64 k ∧ MapIs wr Try.prog 3 4 .i64 w.heap.size k (tset xs n k) ∧ Below w.heap.size w wr)
  case atStart => exact ⟨0, by omega, by omega, rfl, MapIs.made _ _ _ _ _, bal (Below.refl _ _) _⟩
  case round =>
    obtain ⟨k, hk, hgg, rfl, hM, hbl⟩ := hrel
    by_cases hlt : k < m
    · obtain rfl : a = some ⟨b, o, none⟩ := hz'.resolve_left (fun e => by have := e.out; omega)
      have q := carry_cell (HX.out k hlt) hbl
      have l1 := wi_lo (gi xs k) n (by omega)
      have l2 := wi_hi (gi xs k) n (by omega)
      go_wp2_with (first | (at_mapUpdate; refine wpList_mapUpdate_big rfl (.tmp 17) (.tmp 20) _ 101 rfl 3 4 (int_keyed Try.underlying3) Try.underlying101 Try.underlying4 w.heap.size k (tset xs n k) .i64 rfl hM (by unfold maxLen; omega) _ true rfl rfl (key_i64 _ (by omega) (by omega)) ?_; intro w2 hm2 hg2) | (go_at_call 16; refine (within_c _ _ (by omega) (by omega) _).mono ?_; rintro e w' ⟨rfl, rfl⟩))
      go_roundg (m - (k + 1))
      case measure => omega
      case rel => exact ⟨k + 1, by omega, by omega, by go_num, hm2, hbl.grown hg2 hbl.size (fun j hj => by cases hj; exact Nat.le_refl _)⟩
    · obtain rfl : k = m := by omega
      have hlw := hM.lt
      have TD := hidp (show thL xs k n = thR (tset xs n k) n from rfl)
      generalize tset xs n k = S at *
      go_wp2_with fail
      go_loopg [8, 23] n (fun gg v i wr => ∃ t : Nat, t ≤ n ∧ n - t ≤ gg ∧ i = .int .i64 t ∧ MapIs wr Try.prog 3 4 .i64 w.heap.size k S ∧ wr.ownsRow (w.heap.size + 1) 3 1 v (thR S t).length ((thR S t).map (Value.int .i64)) ∧ Below w.heap.size w wr)
      case atStart => exact ⟨0, by omega, by omega, rfl, hM, World.ownsRow_nil _ _ _ _, hbl⟩
      case round =>
        obtain ⟨t, ht, hgt, rfl, hM2, hv, hbx⟩ := hrel
        have hlw2 := hM2.lt
        by_cases hlt : t < n
        · have hR := hM2.run (t := 101) (int_keyed Try.underlying3) Try.underlying101 Try.underlying4 (zeroBool _) (t : Int) (key_i64 _ (by omega) (by omega))
          have TL := thR_len S t
          have ST := hidp (show thR S (t + 1) = if S t = true then thR S t ++ [(t : Int)] else thR S t from rfl)
          obtain ⟨L, hL⟩ : ∃ L, L = (thR S t).length := ⟨_, rfl⟩
          rw [← hL] at hv TL
          have HL := hidp hL
          clear hL
          cases hs : S t with
          | true =>
            have E := hidp (show thR S (t + 1) = thR S t ++ [(t : Int)] by rw [ST.out, if_pos hs])
            rw [hs] at hR
            clear hs
            go_wp2_with (at_builtin; refine wpList_append_new rfl (.tmp 29) (.tmp 31) 22 rfl (w.heap.size + 1) 3 _ 1 8 info_int rfl (by decide) Try.underlying22 _ L _ rfl hv rfl (one_int _ _) rfl rfl (by omega) (by decide) (by omega) ?_; intro v0 x0 nv g0 d0; have hne : some w.heap.size ≠ _ := fun e => by have := (hv.lt _ e.symm).1; omega)
            go_roundg (n - (t + 1))
            case measure => omega
            case rel => exact ⟨t + 1, by omega, by omega, by go_num, hM2.kept g0 hne, by rw [E.out, List.length_append, List.map_append, ← HL.out]; exact nv, append_step (owns_mono hv (by omega)) hbx (Nat.le_refl _) g0⟩
          | false =>
            have E := hidp (show thR S (t + 1) = thR S t by rw [ST.out, hs]; rfl)
            rw [hs] at hR
            clear hs
            go_wp2_with fail
            go_roundg (n - (t + 1))
            case measure => omega
            case rel => exact ⟨t + 1, by omega, by omega, by go_num, hM2, by rw [E.out, ← HL.out]; exact hv, hbx⟩
        · obtain rfl : t = n := by omega
          go_wp2
          go_ret
          rw [TD.out]
          exact ⟨_, rfl, owns_mono hv (by omega), hbx⟩
end Go.Proofs.Ytpghnbpoodcglaa
