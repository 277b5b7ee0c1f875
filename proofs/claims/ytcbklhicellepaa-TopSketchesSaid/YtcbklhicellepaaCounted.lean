/- Contract of the laws' own counted: a table to which counters came. -/
import Derived.Test.YtcbklhicellepaaTablePut2
import Derived.Test.YtcbklhicellepaaCnt
import Derived.Deep.LoopGhost
namespace Go.Proofs.Ytcbklhicellepaa
open Go.ChangeShapes Go.WideShapes Go.ChangeAt Go.RowKit
set_option maxRecDepth 20000
/-- How much came to a place. -/
def hits (P : Int → Nat → Nat) : List (Int × Int) → Nat → Nat → Int
  | [], _, _ => 0
  | p :: l, i, j => (if j = P p.1 i then p.2 else 0) + hits P l i j
theorem hits_append (P : Int → Nat → Nat) (l : List (Int × Int)) (i j : Nat) : ∀ m, hits P (m ++ l) i j = hits P m i j + hits P l i j
  | [] => by simp [hits]
  | p :: m => by simp only [List.cons_append, hits]; rw [hits_append P l i j m]; omega
theorem hits_bd (P : Int → Nat → Nat) (i j : Nat) : ∀ l : List (Int × Int), (∀ p ∈ l, 0 ≤ p.2) → 0 ≤ hits P l i j ∧ hits P l i j ≤ csum l
  | [], _ => by simp [hits, csum]
  | p :: l, h => by
    have h1 := hits_bd P i j l (fun q hq => h q (by simp [hq]))
    have h2 := h p (by simp)
    simp only [hits, csum]
    split <;> omega
/-- The table behind the first k. -/
def cntT (P : Int → Nat → Nat) (T : Nat → Nat → Int) (L : List (Int × Int)) (i j : Nat) : Int := T i j + hits P L i j
theorem cntT_step (P : Int → Nat → Nat) (T : Nat → Nat → Int) (L : List (Int × Int)) (k : Nat) (hk : k < L.length) : tput (cntT P T (L.take k)) (P (ckey L k)) (cnum L k) = cntT P T (L.take (k + 1)) := by
  funext i j
  rw [ctake L k hk]
  unfold tput cntT
  rw [hits_append]
  simp only [hits]
  split <;> omega
/-- No row of the table lies in block P. -/
def RowsNe (W : World) (a : Option Addr) (n P : Nat) : Prop := ∀ b o, a = some ⟨b, o, none⟩ → b ≠ P ∧ ∀ i, i < n → ∀ bi oi ni ci, W.cell? ⟨b, o + i, none⟩ = some (.slice (some ⟨bi, oi, none⟩) ni ci) → bi ≠ P
theorem RowsNe.below {W W' : World} {a : Option Addr} {n P c : Nat} {xs : List (List Int)} (h : RowsNe W a n P) (hr : RowsAt W a n c xs) (hb : Below W.heap.size W W') : RowsNe W' a n P := by
  intro b o ha
  refine ⟨(h b o ha).1, fun i hi bi oi ni ci hc => ?_⟩
  obtain ⟨b', o', ha', hlt, _⟩ := hr.cells (by omega)
  rw [ha] at ha'
  simp only [Option.some.injEq, Addr.mk.injEq] at ha'
  obtain ⟨rfl, rfl, _⟩ := ha'
  exact (h b o ha).2 i hi bi oi ni ci ((hb.cell (p := ⟨b, o + i, none⟩) hlt).symm.trans hc)
theorem RowsNe.set {W : World} {a : Option Addr} {n P Q : Nat} (h : RowsNe W a n P) (h' : RowsNe W a n Q) (k : Nat) (v : Value) : RowsNe (W.setCell ⟨Q, k, none⟩ v) a n P := by
  intro b o ha
  refine ⟨(h b o ha).1, fun i hi bi oi ni ci hc => (h b o ha).2 i hi bi oi ni ci ?_⟩
  rw [World.cell?_setCell_far _ _ _ _ (fun e => (h' b o ha).1 e.symm)] at hc
  exact hc
theorem RowsAt.setFar {W : World} {a : Option Addr} {n c P : Nat} {xs : List (List Int)} (h : RowsAt W a n c xs) (hne : RowsNe W a n P) (k : Nat) (v : Value) : RowsAt (W.setCell ⟨P, k, none⟩ v) a n c xs := by
  refine ⟨h.len, h.le, h.max, fun hn => ?_⟩
  obtain ⟨b, off, rfl, hlt, hc⟩ := h.cells hn
  refine ⟨b, off, rfl, by simpa using hlt, fun i hi => ?_⟩
  obtain ⟨ai, ni, ci, h1, h2⟩ := hc i hi
  refine ⟨ai, ni, ci, coff h1 (hne b off rfl).1, h2.setCell _ (fun bi oi he => ?_) v⟩
  subst he
  exact (hne b off rfl).2 i hi bi oi ni ci h1
theorem RowsAt.old {W : World} {a : Option Addr} {n c m : Nat} {T : Nat → Nat → Int} (h : RowsAt W a n c (tabL T m n)) (hm : 1 ≤ m) (hn : 1 ≤ n) (P : Nat) (hP : W.heap.size ≤ P) : RowsNe W a n P := by
  intro b o ha
  refine ⟨?_, fun i hi bi oi ni ci hc => ?_⟩
  · obtain ⟨b', o', ha', hlt, _⟩ := h.cells hn
    rw [ha] at ha'
    simp only [Option.some.injEq, Addr.mk.injEq] at ha'
    omega
  · obtain ⟨b', o', ha', hlt, hcs⟩ := h.cells (by omega)
    rw [ha] at ha'
    simp only [Option.some.injEq, Addr.mk.injEq] at ha'
    obtain ⟨rfl, rfl, _⟩ := ha'
    obtain ⟨bj, oj, cj, h1, _, h3⟩ := tabL_row hcs hm i hi
    rw [hc] at h1
    simp only [Option.some.injEq, Value.slice.injEq, Addr.mk.injEq] at h1
    omega
theorem OwnT.rne {W : World} {B g n m : Nat} {G C : Nat → Nat} {T : Nat → Nat → Int} (h : OwnT W B g n m G C T) (P : Nat) (h1 : g ≠ P) (h2 : P < B) : RowsNe W (some ⟨g, 0, none⟩) n P := by
  intro b o ha
  simp only [Option.some.injEq, Addr.mk.injEq] at ha
  obtain ⟨rfl, rfl, _⟩ := ha
  refine ⟨h1, fun i hi bi oi ni ci hc => ?_⟩
  rw [Nat.zero_add, h.hd i hi] at hc
  simp only [Option.some.injEq, Value.slice.injEq, Addr.mk.injEq] at hc
  have := h.ltG i hi
  omega
/-- table.Put where nothing is too great. -/
theorem tput_ok (m : Nat) (a : Option Addr) (n c : Nat) (T : Nat → Nat → Int) (key x : Int) (w : World) (h : RowsAt w a n c (tabL T m n)) (hok : TabOk m n (tabL T m n)) (hx1 : 0 ≤ x) (hx2 : x ≤ 1000000000000) (hs : ∀ i, i < n → T i (plc m key i) + x ≤ 1000000000000) :
    Calls Try.prog 13 #[tabV m a n c, .int .i64 key, .int .i64 x] w fun e w' =>
      ∃ g cp, e = .returned (.tuple #[tabV m (some ⟨g, 0, none⟩) n cp, .int .i64 0]) ∧ RowsAt w' (some ⟨g, 0, none⟩) n cp (tabL (tput T (plc m key) x) m n) ∧ (∀ P, P < w.heap.size → RowsNe w' (some ⟨g, 0, none⟩) n P) ∧ Below w.heap.size w w' := by
  refine (tput_c m a n c T key x w h hok hx1 hx2).mono ?_
  rintro e w' ⟨⟨g, cp, G, C, rfl, hO, hg1, hg2, hg3, _⟩ | ⟨rfl, i, hi, hle⟩, hb⟩
  · refine ⟨g, cp, rfl, hO.rows hg2 hg3 (fun i j hi hj => ?_), fun P hP => hO.rne P (by omega) hP, hb⟩
    have := hok.cell i j hi hj
    unfold tput
    split <;> omega
  · have := hs i hi; omega
/-- What stands while counters come. -/
structure CtdS (W : World) (P R m n : Nat) (a : Option Addr) (c : Nat) (T : Nat → Nat → Int) : Prop where
  c0 : W.cell? ⟨P, 0, none⟩ = some (.int .i64 (m : Nat))
  c1 : W.cell? ⟨P, 1, none⟩ = some (.slice a n c)
  r0 : ∃ u, W.cell? ⟨R, 0, none⟩ = some u
  r1 : ∃ u, W.cell? ⟨R, 1, none⟩ = some u
  fp : ∀ o, W.frozen? ⟨P, o, none⟩ = false
  fr : ∀ o, W.frozen? ⟨R, o, none⟩ = false
  rows : RowsAt W a n c (tabL T m n)
  n1 : RowsNe W a n P
  n2 : RowsNe W a n R
theorem CtdS.below {W W' : World} {P R m n : Nat} {a : Option Addr} {c : Nat} {T : Nat → Nat → Int} (h : CtdS W P R m n a c T) (hb : Below W.heap.size W W') : CtdS W' P R m n a c T := by
  obtain ⟨c0, c1, ⟨u0, r0⟩, ⟨u1, r1⟩, fp, fr, rows, n1, n2⟩ := h
  exact ⟨ck hb c0, ck hb c1, ⟨u0, ck hb r0⟩, ⟨u1, ck hb r1⟩, fun o => (hb.frozen (p := ⟨P, o, none⟩) (show P < _ from ltc c0)).trans (fp o), fun o => (hb.frozen (p := ⟨R, o, none⟩) (show R < _ from ltc r0)).trans (fr o), rows.below hb, n1.below rows hb, n2.below rows hb⟩
/-- The table is overwritten by another one. -/
theorem CtdS.put {W : World} {P R m n : Nat} {a a' : Option Addr} {c c' : Nat} {T U : Nat → Nat → Int} (h : CtdS W P R m n a c T) (hPR : R ≠ P) (hr : RowsAt W a' n c' (tabL U m n)) (h1 : RowsNe W a' n P) (h2 : RowsNe W a' n R) :
    CtdS ((W.setCell ⟨P, 0, none⟩ (.int .i64 (m : Nat))).setCell ⟨P, 1, none⟩ (.slice a' n c')) P R m n a' c' U := by
  obtain ⟨c0, c1, ⟨u0, r0⟩, ⟨u1, r1⟩, fp, fr, rows, n1, n2⟩ := h
  have t := res2 (.int .i64 (m : Nat)) (.slice a' n c') c0 c1
  have k1 := h1.set h1 0 (.int .i64 (m : Nat))
  have k2 := h2.set h1 0 (.int .i64 (m : Nat))
  exact ⟨t.1, t.2, ⟨u0, coff (coff r0 hPR) hPR⟩, ⟨u1, coff (coff r1 hPR) hPR⟩, fun o => frs (frs (fp o)), fun o => frs (frs (fr o)), (hr.setFar h1 _ _).setFar k1 _ _, k1.set k1 _ _, k2.set k1 _ _⟩
end Go.Proofs.Ytcbklhicellepaa
