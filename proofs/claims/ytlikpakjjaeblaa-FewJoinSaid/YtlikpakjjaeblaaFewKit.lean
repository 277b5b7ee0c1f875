/- What the laws about fews share: keys of counters that came, literals, what stands while counters are asked. -/
import Derived.Test.YtlikpakjjaeblaaFewMore
import Derived.Test.YtlikpakjjaeblaaCame
import Derived.Test.YtlikpakjjaeblaaMapIN
namespace Go.Proofs.Ytlikpakjjaeblaa
open Go.ChangeShapes Go.WideShapes Go.ChangeAt Go.RowKit
set_option maxRecDepth 20000
theorem cam_keys (xs : List (List Int)) (most : Int) (hx : ∀ i, -9223372036854775808 ≤ gi (gl xs i) 0 ∧ gi (gl xs i) 0 ≤ 9223372036854775807) : ∀ k, ∀ p ∈ camL xs most k, -9223372036854775808 ≤ p.1 ∧ p.1 ≤ 9223372036854775807
  | 0, p, hp => by simp [camL] at hp
  | k + 1, p, hp => by
    simp only [camL] at hp
    split at hp
    · rcases List.mem_append.1 hp with hp | hp
      · exact cam_keys xs most hx k p hp
      · simp at hp
        subst hp
        exact hx k
    · exact cam_keys xs most hx k p hp
theorem row_keys {w : World} {a : Option Addr} {n c : Nat} {xs : List (List Int)} (h : RowsAt w a n c xs) (i : Nat) : -9223372036854775808 ≤ gi (gl xs i) 0 ∧ gi (gl xs i) 0 ≤ 9223372036854775807 := by
  by_cases hi : i < n
  · obtain ⟨b, o, _, _, hc⟩ := h.cells (by omega)
    obtain ⟨ai, ni, ci, _, hI⟩ := hc i hi
    exact hI.bd_at 0
  · have : gl xs i = [] := by
      unfold gl
      rw [List.getD_eq_getElem?_getD, List.getElem?_eq_none (by rw [h.len]; omega)]; rfl
    rw [this]
    decide
/-- few.Put where what comes of it may be. -/
theorem fput_ok (K : Nat) (s : Int × List (Int × Int)) (a : Option Addr) (n c : Nat) (k x : Int) (w : World) (h : CntAt w a n c s.2) (hok : FewOk K s) (hx : 1 ≤ x ∧ x ≤ 1000000000000) (t : Int × List (Int × Int)) (ht : fput K s k x = t) (hok2 : FewOk K t) :
    Calls Try.prog 21 #[fewV K s.1 a n c, .int .i64 k, .int .i64 x] w fun e w' => ∃ a' n' c', e = .returned (.tuple #[fewV K t.1 a' n' c', .int .i64 0]) ∧ CntAt w' a' n' c' t.2 ∧ Below w.heap.size w w' := by
  refine (fput_c K s a n c k x w h hok hx).mono ?_
  rw [ht]
  rintro e w' ⟨⟨_, a', n', c', rfl, hO⟩ | ⟨hne, _⟩, hb⟩
  · obtain ⟨_, _, e, hI⟩ := owns_cnts hO
    cases e
    exact ⟨a', n', c', rfl, hI, hb⟩
  · exact absurd hok2 hne
/-- A literal of one counter. -/
theorem cnt_lit (w : World) (k n : Int) : CntAt (w.alloc (.cells #[.int .i64 k, .int .i64 n] 51)) (some ⟨w.heap.size, 0, none⟩) 1 1 [(k, n)] := by
  refine ⟨rfl, Nat.le_refl _, by omega, fun _ => ⟨w.heap.size, 0, rfl, by simp, fun i hi => ?_⟩⟩
  obtain rfl : i = 0 := by omega
  exact ⟨by go_simp; rfl, by go_simp; rfl⟩
/-- What stands while counters are asked of a few at Q. -/
structure AskS (W : World) (Q : Nat) (K lost : Int) (a : Option Addr) (n c : Nat) (F : List (Int × Int)) (r nM : Nat) (S : Int → Int) : Prop where
  c0 : W.cell? ⟨Q, 0, none⟩ = some (.int .i64 K)
  c1 : W.cell? ⟨Q, 1, none⟩ = some (.int .i64 lost)
  c2 : W.cell? ⟨Q, 2, none⟩ = some (.slice a n c)
  fw : CntAt W a n c F
  mp : MapInt W Try.prog 3 3 .i64 r nM S
theorem AskS.below {W W' : World} {Q : Nat} {K lost : Int} {a : Option Addr} {n c : Nat} {F : List (Int × Int)} {r nM : Nat} {S : Int → Int} (h : AskS W Q K lost a n c F r nM S) (hb : Below W.heap.size W W') : AskS W' Q K lost a n c F r nM S :=
  ⟨ck hb h.c0, ck hb h.c1, ck hb h.c2, h.fw.below hb, h.mp.below hb⟩
theorem cntV_setK : ∀ (L : List (Int × Int)) (i : Nat) (y : Int), i < L.length → cntV (L.set i (y, cnum L i)) = (cntV L).set (i * 2) (.int .i64 y)
  | [], i, _, h => by simp at h
  | p :: l, 0, y, _ => by simp [cntV, cnum]
  | p :: l, i + 1, y, hi => by
    have ih := cntV_setK l i y (by simpa using hi)
    have e : cnum (p :: l) (i + 1) = cnum l i := rfl
    rw [show (i + 1) * 2 = i * 2 + 1 + 1 by omega, e]
    simp only [List.set_cons_succ, cntV]
    rw [ih]
/-- The first k keys turned by f. -/
def kmap (f : Int → Int) (D : List (Int × Int)) (k : Nat) : List (Int × Int) := (D.take k).map (fun p => (f p.1, p.2)) ++ D.drop k
theorem kmap_len (f : Int → Int) (D : List (Int × Int)) (k : Nat) : (kmap f D k).length = D.length := by
  unfold kmap
  rw [List.length_append, List.length_map, List.length_take, List.length_drop]; omega
theorem kmap_zero (f : Int → Int) (D : List (Int × Int)) : kmap f D 0 = D := by simp [kmap]
/-- All keys turned by f. -/
def kall (f : Int → Int) (D : List (Int × Int)) : List (Int × Int) := D.map (fun p => (f p.1, p.2))
theorem kall_len (f : Int → Int) (D : List (Int × Int)) : (kall f D).length = D.length := List.length_map ..
theorem kmap_all (f : Int → Int) (D : List (Int × Int)) (n : Nat) (h : D.length = n) : kmap f D n = kall f D := by
  unfold kmap kall
  rw [List.take_of_length_le (by omega), List.drop_of_length_le (by omega), List.append_nil]
theorem kmap_at (f : Int → Int) (D : List (Int × Int)) (k : Nat) (hk : k < D.length) : (kmap f D k)[k]? = some (ckey D k, cnum D k) := by
  unfold kmap
  rw [List.getElem?_append_right (by rw [List.length_map, List.length_take]; omega), List.length_map, List.length_take, List.getElem?_drop, ← cget D k hk]
  congr 1; omega
theorem kmap_get (f : Int → Int) (D : List (Int × Int)) (k : Nat) (hk : k < D.length) : ckey (kmap f D k) k = ckey D k ∧ cnum (kmap f D k) k = cnum D k := by
  have h := kmap_at f D k hk
  have h2 := cget (kmap f D k) k (by rw [kmap_len]; exact hk)
  rw [h] at h2
  simp only [Option.some.injEq, Prod.mk.injEq] at h2
  exact ⟨h2.1.symm, h2.2.symm⟩
theorem kmap_step (f : Int → Int) (D : List (Int × Int)) (k : Nat) (hk : k < D.length) : kmap f D (k + 1) = (kmap f D k).set k (f (ckey D k), cnum D k) := by
  unfold kmap
  rw [ctake D k hk, List.map_append, List.set_append_right _ _ (by rw [List.length_map, List.length_take]; omega), List.length_map, List.length_take, show k - min k D.length = 0 by omega]
  have e : D.drop k = (ckey D k, cnum D k) :: D.drop (k + 1) := by
    rw [List.drop_eq_getElem_cons hk]
    congr 1
    have := cget D k hk
    rw [List.getElem?_eq_getElem hk] at this
    exact Option.some.inj this
  rw [e]
  simp
theorem map_csum (f : Int → Int) : ∀ D : List (Int × Int), csum (kall f D) = csum D
  | [] => rfl
  | p :: l => by
    have := map_csum f l
    unfold kall at *
    simp only [List.map_cons, csum]; rw [this]
theorem map_bd (f : Int → Int) (D : List (Int × Int)) (Q : Int → Prop) (h : ∀ p ∈ D, Q p.2) : ∀ p ∈ kall f D, Q p.2 := by
  intro p hp
  obtain ⟨q, hq, rfl⟩ := List.mem_map.1 hp
  exact h q hq
theorem map_keys (f : Int → Int) (D : List (Int × Int)) : ∀ p ∈ kall f D, ∃ x, p.1 = f x := by
  intro p hp
  obtain ⟨q, _, rfl⟩ := List.mem_map.1 hp
  exact ⟨q.1, rfl⟩
end Go.Proofs.Ytlikpakjjaeblaa
