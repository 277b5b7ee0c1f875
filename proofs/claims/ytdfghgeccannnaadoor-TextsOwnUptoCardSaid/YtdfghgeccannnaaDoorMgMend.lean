/- Merged: Spans, Mend. -/
import Derived.Test.YtdfghgeccannnaaDoorMgSpan
import Derived.WalkSpells
import Derived.Test.YtdfghgeccannnaaDoorMgKit
import Derived.Deep.LoopGhost
import Derived.ArgAppend
import Derived.Lib.MinMax
/- Contract of the laws' own spans: the spans that it makes of lists of numbers. -/
namespace Go.Proofs.YtdfghgeccannnaaDoor
open Go.ChangeShapes Go.WideShapes Go.ChangeAt Go.RowKit
set_option maxRecDepth 20000

theorem SpansAt.alloc {w : World} {a : Option Addr} {n cap : Nat} {us ls : List Int} (h : SpansAt w a n cap us ls) (o : Obj) : SpansAt (w.alloc o) a n cap us ls := h.below ((Below.refl _ _).alloc (Nat.le_refl _) o)
def upf (xs : List (List Int)) (i : Nat) : Int := if 0 < (gl xs i).length then wi (gi (gl xs i) 0) ((i : Int) + 1) - 1 else -1
def lvf (xs : List (List Int)) (most : Int) (i : Nat) : Int := if 1 < (gl xs i).length then wi (gi (gl xs i) 1) (most + 1) else 0
theorem upf_bd (xs : List (List Int)) (i : Nat) : -1 ≤ upf xs i ∧ upf xs i < i := by
  unfold upf
  have := wi_lo (gi (gl xs i) 0) ((i : Int) + 1) (by omega)
  have := wi_hi (gi (gl xs i) 0) ((i : Int) + 1) (by omega)
  split <;> omega
theorem lvf_bd (xs : List (List Int)) (most : Int) (h : 0 ≤ most) (i : Nat) : 0 ≤ lvf xs most i ∧ lvf xs most i ≤ most := by
  unfold lvf
  have := wi_lo (gi (gl xs i) 1) (most + 1) (by omega)
  have := wi_hi (gi (gl xs i) 1) (most + 1) (by omega)
  split <;> omega
/-- The cells of k spans. -/
def spanCells (u l : Nat → Int) : Nat → List Value
  | 0 => []
  | k + 1 => spanCells u l k ++ [Value.int .i64 (u k), Value.int .i64 (l k)]
theorem spanCells_len (u l : Nat → Int) : ∀ k, (spanCells u l k).length = k * 2
  | 0 => rfl
  | k + 1 => by simp [spanCells, spanCells_len u l k]; omega
theorem spanCells_get (u l : Nat → Int) : ∀ k i, i < k → (spanCells u l k)[i * 2]? = some (.int .i64 (u i)) ∧ (spanCells u l k)[i * 2 + 1]? = some (.int .i64 (l i))
  | 0, i, h => by omega
  | k + 1, i, h => by
    have e := spanCells_len u l k
    by_cases hi : i < k
    · have a := spanCells_get u l k i hi
      simp only [spanCells]
      rw [List.getElem?_append_left (by omega), List.getElem?_append_left (by omega)]
      exact a
    · obtain rfl : i = k := by omega
      simp only [spanCells]
      rw [List.getElem?_append_right (by omega), List.getElem?_append_right (by omega), e]
      simp
theorem one_two (x y : Int) : ∀ u ∈ [Value.int .i64 x, Value.int .i64 y], u.oneCell' = true := by
  intro u hu; simp at hu; rcases hu with rfl | rfl <;> rfl
theorem info_span : (Tryd.prog.info? 36).map (fun i => (i.zero, i.size, i.bytes)) = some (some (.agg #[.int .i64 0, .int .i64 0]), 2, 16) := by kernel_rfl


/-- What the call itself has made reads as spans. -/
theorem owns_spans {w : World} {base : Nat} {e : TypeId} {v : Value} {n : Nat} {u l : Nat → Int} (h : w.ownsRow base e 2 v n (spanCells u l n)) : ∃ a cap, v = .slice a n cap ∧ SpansAt w a n cap (tab u n) (tab l n) := by
  obtain ⟨a, cap, rfl, h1, h2, h3⟩ := owns_cells h
  refine ⟨a, cap, rfl, tab_len _ _, tab_len _ _, h1, h2, fun hn => ?_⟩
  obtain ⟨b, off, ha, hb, hc⟩ := h3 (fun e => by have := spanCells_len u l n; rw [e] at this; simp at this; omega)
  refine ⟨b, off, ha, hb, fun i hi => ?_⟩
  have := spanCells_get u l n i hi
  rw [tab_gi _ _ _ hi, tab_gi _ _ _ hi]
  exact ⟨hc _ _ this.1, hc _ _ this.2⟩
theorem spans_ok (xs : List (List Int)) (most : Int) (h : 0 ≤ most) (h' : most ≤ 20) (n : Nat) : SpansOk n (tab (upf xs) n) (tab (lvf xs most) n) := by
  intro i hi
  rw [tab_gi _ _ _ hi, tab_gi _ _ _ hi]
  have := upf_bd xs i
  have := lvf_bd xs most h i
  exact ⟨by omega, by omega, by omega, by omega⟩
/-- A slice literal of one span. -/
theorem span_lit1 {w : World} {cs : List Value} {T : TypeId} {b : Nat} (u l : Int) (hbk : b = w.heap.size) (hcs : cs = [Value.int .i64 u, Value.int .i64 l]) : SpansAt (w.alloc (.cells cs.toArray T)) (some ⟨b, 0, none⟩) 1 1 [u] [l] := by
  subst hcs hbk
  refine ⟨rfl, rfl, Nat.le_refl _, by omega, fun _ => ⟨w.heap.size, 0, rfl, by simp, fun i hi => ?_⟩⟩
  have hh : (w.alloc (.cells [Value.int .i64 u, Value.int .i64 l].toArray T)).heap[w.heap.size]? = some (.cells [Value.int .i64 u, Value.int .i64 l].toArray T) := heap_alloc_new w _
  obtain rfl : i = 0 := by omega
  unfold World.cell?
  rw [hh]
  simp [gi]
theorem span_lit2 {w : World} {cs : List Value} {T : TypeId} {b : Nat} (u l u2 l2 : Int) (hbk : b = w.heap.size) (hcs : cs = [Value.int .i64 u, Value.int .i64 l, Value.int .i64 u2, Value.int .i64 l2]) : SpansAt (w.alloc (.cells cs.toArray T)) (some ⟨b, 0, none⟩) 2 2 [u, u2] [l, l2] := by
  subst hcs hbk
  refine ⟨rfl, rfl, Nat.le_refl _, by omega, fun _ => ⟨w.heap.size, 0, rfl, by simp, fun i hi => ?_⟩⟩
  have hh : (w.alloc (.cells [Value.int .i64 u, Value.int .i64 l, Value.int .i64 u2, Value.int .i64 l2].toArray T)).heap[w.heap.size]? = some (.cells [Value.int .i64 u, Value.int .i64 l, Value.int .i64 u2, Value.int .i64 l2].toArray T) := heap_alloc_new w _
  match i, hi with
  | 0, _ => unfold World.cell?; rw [hh]; simp [gi]
  | 1, _ => unfold World.cell?; rw [hh]; simp [gi]
end Go.Proofs.YtdfghgeccannnaaDoor

/- Contract of span.Mend, and what it makes of the levels. -/
namespace Go.Proofs.YtdfghgeccannnaaDoor
open Go.ChangeShapes Go.WideShapes Go.ChangeAt Go.RowKit
set_option maxRecDepth 20000

/-- One thing put in. -/
def put1 (f : Nat → Int) (i : Nat) (v : Int) : Nat → Int := fun j => if j = i then v else f j
/-- One round: the level of i goes up to its parent. -/
def mend1 (u l : Nat → Int) (i : Nat) : Nat → Int := if 0 ≤ u i then put1 l (u i).toNat (min (l (u i).toNat) (l i)) else l
/-- The levels behind d rounds, from the last on. -/
def mdS (u : Nat → Int) (n : Nat) (l : Nat → Int) : Nat → Nat → Int
  | 0 => l
  | d + 1 => mend1 u (mdS u n l d) (n - 1 - d)
theorem mend1_le (u l : Nat → Int) (i j : Nat) : mend1 u l i j ≤ l j := by
  unfold mend1
  split
  · unfold put1; split
    · rename_i h; subst h; omega
    · omega
  · omega
theorem mdS_le (u : Nat → Int) (n : Nat) (l : Nat → Int) (j : Nat) : ∀ d, mdS u n l d j ≤ l j
  | 0 => Int.le_refl _
  | d + 1 => Int.le_trans (mend1_le u _ _ j) (mdS_le u n l j d)
theorem mend1_ge (u l : Nat → Int) (i j : Nat) (B : Int) (h : ∀ k, B ≤ l k) : B ≤ mend1 u l i j := by
  unfold mend1
  split
  · unfold put1; split
    · have := h (u i).toNat; have := h i; omega
    · exact h j
  · exact h j
theorem mdS_ge (u : Nat → Int) (n : Nat) (l : Nat → Int) (B : Int) (h : ∀ k, B ≤ l k) : ∀ d j, B ≤ mdS u n l d j
  | 0, j => h j
  | d + 1, j => mend1_ge u _ _ j B (fun k => mdS_ge u n l B h d k)
/-- Behind d rounds no parent of the last d is higher. -/
theorem mdS_closed (u : Nat → Int) (n : Nat) (l : Nat → Int) (hu : ∀ i, i < n → u i < i) : ∀ d, d ≤ n → ∀ i, n - d ≤ i → i < n → 0 ≤ u i → mdS u n l d (u i).toNat ≤ mdS u n l d i
  | 0, _, i, h1, h2, _ => by omega
  | d + 1, hd, i, h1, h2, h3 => by
    have hn := hu (n - 1 - d) (by omega)
    have hi := hu i h2
    simp only [mdS]
    by_cases e : i = n - 1 - d
    · subst e
      unfold mend1
      rw [if_pos h3]
      unfold put1
      rw [if_pos rfl, if_neg (by omega)]
      omega
    · have ih := mdS_closed u n l hu d (by omega) i (by omega) h2 h3
      have a := mend1_le u (mdS u n l d) (n - 1 - d) (u i).toNat
      have b : mend1 u (mdS u n l d) (n - 1 - d) i = mdS u n l d i := by
        unfold mend1
        split
        · unfold put1; rw [if_neg (by omega)]
        · rfl
      rw [b]
      omega
/-- Mended levels stay. -/
theorem mdS_same (u : Nat → Int) (n : Nat) (l : Nat → Int) (h : ∀ i, i < n → 0 ≤ u i → l (u i).toNat ≤ l i) : ∀ d, d ≤ n → ∀ j, mdS u n l d j = l j
  | 0, _, _ => rfl
  | d + 1, hd, j => by
    have ih := mdS_same u n l h d (by omega)
    simp only [mdS]
    unfold mend1
    split
    · rename_i h0
      unfold put1
      split
      · rename_i e
        have := h (n - 1 - d) (by omega) h0
        rw [ih, ih, e]
        omega
      · exact ih j
    · exact ih j
theorem spanCells_congr (u u' l l' : Nat → Int) : ∀ n, (∀ i, i < n → u i = u' i ∧ l i = l' i) → spanCells u l n = spanCells u' l' n
  | 0, _ => rfl
  | n + 1, h => by
    simp only [spanCells]
    rw [spanCells_congr u u' l l' n (fun i hi => h i (by omega)), (h n (by omega)).1, (h n (by omega)).2]
theorem spanCells_set (u l : Nat → Int) (n k : Nat) (x : Int) (hk : k < n) : (spanCells u l n).set (k * 2 + 1) (.int .i64 x) = spanCells u (put1 l k x) n := by
  apply List.ext_getElem?
  intro j
  rw [List.getElem?_set]
  by_cases hj : j < n * 2
  · have h1 := spanCells_get u l n (j / 2) (by omega)
    have h2 := spanCells_get u (put1 l k x) n (j / 2) (by omega)
    by_cases e : k * 2 + 1 = j
    · rw [if_pos e, if_pos (by rw [spanCells_len]; omega)]
      have e2 : j / 2 = k := by omega
      rw [e2] at h2
      rw [← e, h2.2]
      unfold put1; rw [if_pos rfl]
    · rw [if_neg e]
      rcases Nat.mod_two_eq_zero_or_one j with hm | hm
      · rw [show j = j / 2 * 2 by omega, h1.1, h2.1]
      · rw [show j = j / 2 * 2 + 1 by omega, h1.2, h2.2]
        unfold put1; rw [if_neg (by omega)]
  · rw [if_neg (by omega), List.getElem?_eq_none (by rw [spanCells_len]; omega), List.getElem?_eq_none (by rw [spanCells_len]; omega)]
theorem spanCells_one (u l : Nat → Int) : ∀ n, ∀ v ∈ spanCells u l n, v.oneCell' = true
  | 0, v, h => by simp [spanCells] at h
  | n + 1, v, h => by
    simp only [spanCells] at h
    rcases List.mem_append.1 h with h | h
    · exact spanCells_one u l n v h
    · simp at h
      rcases h with rfl | rfl <;> rfl
theorem spans_cells {w : World} {a : Option Addr} {n c : Nat} {us ls : List Int} (h : SpansAt w a n c us ls) {x : Addr} (ha : a = some x) (j : Nat) (v : Value) (hv : (spanCells (gi us) (gi ls) n)[j]? = some v) : w.cell? (x.add j) = some v := by
  have hj : j < n * 2 := by
    have := (List.getElem?_eq_some_iff.1 hv).1
    rw [spanCells_len] at this
    exact this
  obtain ⟨b, off, hb, _, hc⟩ := h.cells (by omega)
  rw [ha] at hb
  cases hb
  rw [addr_add]
  have h1 := spanCells_get (gi us) (gi ls) n (j / 2) (by omega)
  have h2 := hc (j / 2) (by omega)
  rcases Nat.mod_two_eq_zero_or_one j with hm | hm
  · rw [show j = j / 2 * 2 by omega] at hv ⊢
    rw [h1.1] at hv
    rw [h2.1, hv]
  · rw [show j = j / 2 * 2 + 1 by omega] at hv ⊢
    rw [h1.2] at hv
    rw [← Nat.add_assoc, h2.2, hv]

set_option maxHeartbeats 4000000 in
theorem mend_c (a : Option Addr) (n c : Nat) (us ls : List Int) (w : World) (h : SpansAt w a n c us ls) (hn : n ≤ 40) (hok : SpansOk n us ls) :
    Calls Tryd.prog 12 #[.slice a n c] w fun e w' => ∃ v, e = .returned (.tuple #[v, .int .i64 0]) ∧ w'.ownsRow w.heap.size 36 2 v n (spanCells (gi us) (mdS (gi us) n (gi ls) n) n) ∧ Below w.heap.size w w' := by
  obtain ⟨i0, hi, hz0, hz1, hz2⟩ := info_parts info_span
  have CK := hidp (scheck_c a n c us ls w h hn hok)
  have MK := hidp (fun (w' : World) (hb : Below w.heap.size w w') => h.below hb)
  have OK := hidp hok
  have LB := hidp (fun k => show 0 ≤ gi ls k from by
    by_cases hk : k < n
    · exact (hok k hk).2.2.1
    · have := h.ll; unfold gi; rw [List.getD_eq_getElem?_getD, List.getElem?_eq_none (by omega)]; simp)
  have LU := hidp (fun k (hk : k < n) => (hok k hk).2.2.2)
  have mm := h.max
  have ee := h.le
  clear h hok
  cases a with
  | none =>
    have hn0 : n = 0 := by
      rcases Nat.eq_zero_or_pos n with hz | hz
      · exact hz
      · obtain ⟨b, o, hb, _⟩ := (MK.out w (Below.refl _ _)).cells hz
        cases hb
    subst hn0
    go_enter Tryd.func12, Tryd.ntmps12
    go_wp2_with fail
    refine CK.out.mono ?_
    rintro e wa ⟨rfl, hba⟩
    go_wp2_with fail
    refine wp_loop_rounds 1 ?_; rw [rounds_succ]
    go_wp2
    go_ret2
    exact ⟨_, rfl, World.ownsRow_nil _ _ _ _, hba⟩
  | some x =>
    go_enter Tryd.func12, Tryd.ntmps12
    go_wp2_with fail
    refine CK.out.mono ?_
    rintro e wa ⟨rfl, hba⟩
    have HC := hidp (fun j u hu => spans_cells (MK.out wa hba) rfl j u hu)
    go_wp2_with (at_builtin; refine wpList_append_own_at _ rfl (.const (.slice none 0 0)) (.tmp 13) 23 rfl w.heap.size 36 i0 (.agg #[.int .i64 0, .int .i64 0]) 2 16 Tryd.underlying23 hi hz0 hz1 hz2 rfl (by decide) _ 0 [] rfl (World.ownsRow_nil _ _ _ _) x n c (spanCells (gi us) (gi ls) n) rfl (by rw [spanCells_len]) HC.out (spanCells_one _ _ _) (by unfold maxLen; omega) (by omega) (hba.size) ?_; intro v1 w1 h1 h2 h3 h4; rw [Nat.zero_add, List.nil_append] at h1; have hb1 := hba.grown h2 hba.size (fun k hk => by cases hk); obtain ⟨av, cv, hve, hcv1, hcv2⟩ := owns_form h1; subst hve; clear h2 h3 h4)
    go_loopg [6] n (fun gg s6 wr => ∃ d : Nat, d ≤ n ∧ n - d ≤ gg ∧ s6 = .int .i64 ((n : Int) - 1 - (d : Int)) ∧ wr.ownsRow w.heap.size 36 2 (.slice av n cv) n (spanCells (gi us) (mdS (gi us) n (gi ls) d) n) ∧ Below w.heap.size w wr)
    case atStart => exact ⟨0, by omega, by omega, by simp, h1, hb1⟩
    case round =>
      obtain ⟨d, hd, hgg, rfl, ho, hbl⟩ := hrel
      by_cases hlt : d < n
      · obtain ⟨I, hI⟩ : ∃ I, I = n - 1 - d := ⟨_, rfl⟩
        have hIE : (n : Int) - 1 - (d : Int) = (I : Int) := by omega
        have hIn : I < n := by omega
        rw [hIE]
        have HI := hidp hI
        obtain ⟨g, cp, hve, hg1, hg2, hg3, hg4⟩ := owns_addr ho (by omega)
        simp only [Value.slice.injEq] at hve
        obtain ⟨rfl, _, rfl⟩ := hve
        obtain ⟨o1, o2, o3, o4⟩ := OK.out I hIn
        have q0 := ho.cellAt (I * 2) (by omega)
        rw [(spanCells_get _ _ n I hIn).1] at q0
        have q1 := ho.cellAt (I * 2 + 1) (by omega)
        rw [(spanCells_get _ _ n I hIn).2] at q1
        have ST := hidp (show mdS (gi us) n (gi ls) (d + 1) = mend1 (gi us) (mdS (gi us) n (gi ls) d) I by rw [hI]; rfl)
        clear hI hIE
        have b1 := mdS_ge (gi us) n (gi ls) 0 LB.out d I
        have b2 := Int.le_trans (mdS_le (gi us) n (gi ls) I d) (LU.out I hIn)
        by_cases hk0 : 0 ≤ gi us I
        · obtain ⟨k, hk⟩ := Int.eq_ofNat_of_zero_le hk0
          have hkI : k < I := by omega
          have q2 := ho.cellAt (k * 2 + 1) (by omega)
          rw [(spanCells_get _ _ n k (by omega)).2] at q2
          have q3 := ho.frozenAt (k * 2 + 1)
          have b3 := mdS_ge (gi us) n (gi ls) 0 LB.out d k
          have b4 := Int.le_trans (mdS_le (gi us) n (gi ls) k d) (LU.out k (by omega))
          have M := hidp (show mend1 (gi us) (mdS (gi us) n (gi ls) d) I = put1 (mdS (gi us) n (gi ls) d) k (min (mdS (gi us) n (gi ls) d k) (mdS (gi us) n (gi ls) d I)) by
            unfold mend1; rw [if_pos hk0, hk]; rfl)
          rw [hk] at q0
          clear hk hk0 o1 o2
          have hkI' : (k : Int) < (n : Int) := by omega
          go_wp2_with fail
          go_region
          go_wp2
          go_roundg (n - (d + 1))
          case measure => omega
          case rel =>
            refine ⟨d + 1, by omega, by omega, v_int (by have := HI.out; omega), ?_, (hbl.setCell (p := ⟨g, k * 2 + 1, none⟩) hg1 _).drew⟩
            rw [ST.out, M.out, ← spanCells_set _ _ n k _ (by omega)]
            exact (ho.stored (k * 2 + 1) (.int .i64 (min (mdS (gi us) n (gi ls) d k) (mdS (gi us) n (gi ls) d I)))).1
        · have hk1 : gi us I = -1 := by omega
          have M := hidp (show mend1 (gi us) (mdS (gi us) n (gi ls) d) I = mdS (gi us) n (gi ls) d by
            unfold mend1; rw [if_neg hk0])
          rw [hk1] at q0
          clear hk0 o1 o2 hk1
          go_wp2_with fail
          go_roundg (n - (d + 1))
          case measure => omega
          case rel => exact ⟨d + 1, by omega, by omega, v_int (by have := HI.out; omega), by rw [ST.out, M.out]; exact ho, hbl⟩
      · obtain rfl : d = n := by omega
        have hm : (d : Int) - 1 - (d : Int) = -1 := by omega
        rw [hm]
        go_wp2_with fail
        go_ret2
        exact ⟨_, rfl, ho, hbl⟩
end Go.Proofs.YtdfghgeccannnaaDoor
