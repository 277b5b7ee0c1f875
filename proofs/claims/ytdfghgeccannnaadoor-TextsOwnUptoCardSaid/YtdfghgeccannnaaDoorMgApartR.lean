/- Merged: EqI, Roomy, Apart, EqR, ApartR. -/
import Derived.Test.YtdfghgeccannnaaDoorMem
import Derived.Deep.QuietTactic
import Derived.BigQuiet
import Derived.WalkSmall
import Derived.Test.YtdfghgeccannnaaDoorFr
import Derived.Deep.OwnRows
import Derived.Test.YtdfghgeccannnaaDoorRules
import Derived.Test.YtdfghgeccannnaaDoorRoomyR
import Derived.Test.YtdfghgeccannnaaDoorCloneR
/- Contract of slices.Equal at integers: whether two lists are the same. -/
namespace Go.Proofs.YtdfghgeccannnaaDoor
open Go.ChangeShapes Go.WideShapes Go.ChangeAt Go.RowKit
set_option maxRecDepth 20000

theorem gi_ext (xs ys : List Int) (h : xs.length = ys.length) (hg : ∀ j, j < xs.length → gi xs j = gi ys j) : xs = ys := by
  apply List.ext_getElem h
  intro i h1 h2
  have := hg i h1
  unfold gi at this
  rw [List.getD_eq_getElem?_getD, List.getD_eq_getElem?_getD, List.getElem?_eq_getElem h1, List.getElem?_eq_getElem h2] at this
  exact this

end Go.Proofs.YtdfghgeccannnaaDoor

/- Contracts of the generic helpers of own.go at integers: roomy, marked, spoil. -/
namespace Go.Proofs.YtdfghgeccannnaaDoor
open Go.ChangeShapes Go.WideShapes Go.ChangeAt Go.RowKit
set_option maxRecDepth 20000
end Go.Proofs.YtdfghgeccannnaaDoor

/- Contract of own.go's apart at rows of integers. -/
namespace Go.Proofs.YtdfghgeccannnaaDoor
open Go.ChangeShapes Go.WideShapes Go.ChangeAt Go.RowKit
set_option maxRecDepth 20000
theorem one_slc (a : Option Addr) (n c : Nat) : ∀ u ∈ [Value.slice a n c], u.oneCell' = true := by
  intro u hu; simp at hu; subst hu; rfl
/-- A block in which the slices of rows stand. -/
structure Hd (b o : Nat) (W : World) (L : List Ent) : Prop where
  lt : b < W.heap.size
  at_ : ∀ i x, L[i]? = some x → W.cell? ⟨b, o + i, none⟩ = some x.v
theorem Hd.below {b o : Nat} {W W' : World} {L : List Ent} (h : Hd b o W L) (hb : Below W.heap.size W W') : Hd b o W' L :=
  ⟨Nat.lt_of_lt_of_le h.lt hb.size, fun i x hx => (hb.cell (p := ⟨b, o + i, none⟩) h.lt).trans (h.at_ i x hx)⟩
theorem Hd.grown {b o : Nat} {W W' : World} {L : List Ent} {r : Option Nat} (h : Hd b o W L) (hg : W.grownBy W' r) (hr : r ≠ some b) : Hd b o W' L :=
  ⟨Nat.lt_of_lt_of_le h.lt hg.size, fun i x hx => gk hg (h.at_ i x hx) hr⟩
/-- A row of integers, short. -/
def IsI (x : Ent) : Prop := ∃ n xs, x = ei x.v n xs ∧ n ≤ 1000 ∧ Bd xs
theorem Sep.ints {B : Nat} {W : World} {L : List Ent} (h : Sep B W L) {x : Ent} (hx : x ∈ L) (hi : IsI x) : ∃ a n c xs, x = ei (.slice a n c) n xs ∧ IntsAt W a n c xs ∧ n ≤ 1000 := by
  obtain ⟨n, xs, hx1, hn, hb⟩ := hi
  have ho := h.own x hx
  obtain ⟨v, rfl⟩ : ∃ v, x = ei v n xs := ⟨_, hx1⟩
  obtain ⟨a, c, hv, hI⟩ := owns_ints (show W.ownsRow B 3 1 v n (xs.map (Value.int .i64)) from ho) hb
  subst hv
  exact ⟨a, n, c, xs, rfl, hI, hn⟩
/-- M's rows hold what those of L hold. -/
def Twin (L M : List Ent) : Prop := ∀ (i : Nat) (y : Ent), M[i]? = some y → ∃ x : Ent, L[i]? = some x ∧ x.e = y.e ∧ x.s = y.s ∧ x.n = y.n ∧ x.cs = y.cs
theorem Twin.nil (L : List Ent) : Twin L [] := fun i y h => by simp at h
theorem Twin.snoc {L M : List Ent} (h : Twin L M) {x y : Ent} (hx : L[M.length]? = some x) (h1 : x.e = y.e) (h2 : x.s = y.s) (h3 : x.n = y.n) (h4 : x.cs = y.cs) : Twin L (M ++ [y]) := fun i z hz => by
  by_cases hi : i < M.length
  · rw [List.getElem?_append_left hi] at hz; exact h i z hz
  · rw [List.getElem?_append_right (by omega)] at hz
    have : i - M.length = 0 := by
      have := (List.getElem?_eq_some_iff.1 hz).1
      simp at this; omega
    rw [this] at hz; simp at hz; subst hz
    rw [show i = M.length by omega]
    exact ⟨x, hx, h1, h2, h3, h4⟩
theorem vmap_snoc (M : List Ent) (y : Ent) : (M ++ [y]).map (·.v) = M.map (·.v) ++ [y.v] := by simp
theorem drop_cons {α : Type} {L : List α} {k : Nat} {x : α} (h : L[k]? = some x) : L.drop k = x :: L.drop (k + 1) := by
  obtain ⟨hk, rfl⟩ := List.getElem?_eq_some_iff.1 h
  exact List.drop_eq_getElem_cons hk
end Go.Proofs.YtdfghgeccannnaaDoor

/- Contract of slices.Equal at rules: equal where they are the same. -/
namespace Go.Proofs.YtdfghgeccannnaaDoor
open Go.ChangeShapes Go.WideShapes Go.ChangeAt Go.RowKit
set_option maxRecDepth 20000
theorem eqr_c (a1 a2 : Option Addr) (n c1 c2 : Nat) (L : List Rl) (w : World) (h1 : RulesAt w a1 n c1 L) (h2 : RulesAt w a2 n c2 L) :
    Calls Tryd.prog 19 #[.slice a1 n c1, .slice a2 n c2] w fun e w' => e = .returned (.bool true) ∧ Below w.heap.size w w' := by
  have m1 := h1.max
  have m2 := h2.max
  have e1 := h1.le
  have e2 := h2.le
  have hne : ((n : Int) != (n : Int)) = false := by simp
  have C1 := hidp h1.cells
  have C2 := hidp h2.cells
  clear h1 h2
  go_enter Tryd.func19, Tryd.ntmps19
  go_wp2_with fail
  go_loopw [13] (fun i wr => ∃ k : Nat, k ≤ n ∧ i = .int .i64 k ∧ Below w.heap.size w wr) (fun i _ => n - (intOf i).toNat)
  case atStart => exact ⟨0, by omega, rfl, Below.refl _ _⟩
  case round =>
    obtain ⟨k, hk, rfl, hbl⟩ := hrel
    by_cases hlt : k < n
    · obtain ⟨b, o, rfl, hb, hc⟩ := C1.out (by omega)
      obtain ⟨b', o', rfl, hb', hc'⟩ := C2.out (by omega)
      have q0 := carry_cell ⟨hb, (hc k hlt).1⟩ hbl
      have q1 := carry_cell ⟨hb, (hc k hlt).2.1⟩ hbl
      have q2 := carry_cell ⟨hb, (hc k hlt).2.2⟩ hbl
      have q3 := carry_cell ⟨hb', (hc' k hlt).1⟩ hbl
      have q4 := carry_cell ⟨hb', (hc' k hlt).2.1⟩ hbl
      have q5 := carry_cell ⟨hb', (hc' k hlt).2.2⟩ hbl
      clear hc hc'
      generalize rp L k = s at *
      generalize rl L k = v at *
      generalize re L k = e at *
      go_wp2_with fail
      go_quiet (fail)
      go_wp2
      go_roundw
      case rel => exact ⟨k + 1, by omega, by go_num, below_drewN hbl _⟩
      case measure => simp [intOf]; omega
    · obtain rfl : k = n := by omega
      go_wp2
      go_ret
      exact ⟨rfl, hbl⟩
end Go.Proofs.YtdfghgeccannnaaDoor

/- Contract of own.go's apart at rows of cullender/api.Rule (printed by genapart.py out of XApart). -/
namespace Go.Proofs.YtdfghgeccannnaaDoor
open Go.ChangeShapes Go.WideShapes Go.ChangeAt Go.RowKit
set_option maxRecDepth 20000
theorem info_slcR : (Tryd.prog.info? 24).map (fun i => (i.zero, i.size, i.bytes)) = some (some (.slice none 0 0), 1, 24) := by kernel_rfl
theorem rsV_inj : ∀ l m : List Rl, rsV l = rsV m → l = m
  | [], [], _ => rfl
  | [], p :: m, h => by simp [rsV, rlV] at h
  | p :: l, [], h => by simp [rsV, rlV] at h
  | (p1, p2, p3) :: l, (q1, q2, q3) :: m, h => by
    simp only [rsV, rlV, List.cons_append, List.nil_append, List.cons.injEq, Value.int.injEq, Value.string.injEq, true_and] at h
    obtain ⟨h1, h2, h3, h4⟩ := h
    rw [rsV_inj l m h4, h1, h2, h3]
/-- A row of cullender/api.Rule. -/
def er (v : Value) (n : Nat) (L : List Rl) : Ent := ⟨39, 3, v, n, rsV L⟩
/-- .. a short one. -/
def IsR (x : Ent) : Prop := ∃ n L, x = er x.v n L ∧ n ≤ 1000
theorem Sep.er {B : Nat} {W : World} {L : List Ent} (h : Sep B W L) {x : Ent} (hx : x ∈ L) (hi : IsR x) : ∃ a n c xs, x = Go.Proofs.YtdfghgeccannnaaDoor.er (.slice a n c) n xs ∧ RulesAt W a n c xs ∧ n ≤ 1000 := by
  obtain ⟨n, xs, hx1, hn⟩ := hi
  have ho := h.own x hx
  obtain ⟨v, rfl⟩ : ∃ v, x = Go.Proofs.YtdfghgeccannnaaDoor.er v n xs := ⟨_, hx1⟩
  obtain ⟨a, c, hv, hI⟩ := owns_rules (show W.ownsRow B 39 3 v n (rsV xs) from ho)
  subst hv
  exact ⟨a, n, c, xs, rfl, hI, hn⟩
set_option maxHeartbeats 2000000 in
theorem apartr_c (B b o m c : Nat) (x0 : ByteArray) (x1 x2 : Int) (L : List Ent) (w : World) (hl : L.length = m) (hm0 : 0 < m) (hm : m ≤ 100) (hmc : m ≤ c) (hc : c ≤ 9223372036854775807) (hB : B ≤ w.heap.size)
    (hH : Hd b o w L) (hO : ∀ x ∈ L, x.v.ownBlock ≠ some b) (hS : Sep B w L) (hI : ∀ x ∈ L, IsR x) :
    Calls Tryd.prog 34 #[.agg #[.string x0, .int .i64 x1, .int .i64 x2], .slice (some ⟨b, o, none⟩) m c] w fun e w' => e = .returned (.bool true) ∧ Below B w w' := by
  have hb0 : Below w.heap.size w (w.alloc (.cells #[.string x0, .int .i64 x1, .int .i64 x2] 39)) := bal (Below.refl _ _) _
  have p0 : (w.alloc (.cells #[.string x0, .int .i64 x1, .int .i64 x2] 39)).cell? ⟨w.heap.size, 0, none⟩ = some (.string x0) := by go_simp
  have p1 : (w.alloc (.cells #[.string x0, .int .i64 x1, .int .i64 x2] 39)).cell? ⟨w.heap.size, 1, none⟩ = some (.int .i64 x1) := by go_simp
  have p2 : (w.alloc (.cells #[.string x0, .int .i64 x1, .int .i64 x2] 39)).cell? ⟨w.heap.size, 2, none⟩ = some (.int .i64 x2) := by go_simp
  have hl0 := hH.lt
  have HBOX := hidp (fun x (hx : x ∈ L) e => by have := (hS.own x hx).lt w.heap.size e; omega : ∀ x ∈ L, x.v.ownBlock ≠ some w.heap.size)
  replace hH := hH.below hb0
  replace hS := hS.below hb0
  have HL := hidp hl
  have HO := hidp hO
  have HI := hidp hI
  have HH := hidp hH
  have HS := hidp hS
  clear hl hO hI hH hS
  go_enter Tryd.func34, Tryd.ntmps34
  go_wp2_with fail
  obtain ⟨w0, hw0⟩ : ∃ w0, w0 = (w.alloc (.cells #[.string x0, .int .i64 x1, .int .i64 x2] 39)) := ⟨_, rfl⟩
  rw [← hw0] at hb0 HH HS p0 p1 p2 ⊢
  clear hw0
  have hB0 := hb0.size
  go_loopw [12, 5] (fun i s5 wr => ∃ (k : Nat) (M : List Ent), k ≤ m ∧ i = .int .i64 k ∧ Hid (M.length = k) ∧ wr.ownsRow w0.heap.size 24 1 s5 k (M.map (·.v)) ∧ Hid (Sep B wr (L ++ M)) ∧ Hid (Off s5 (L ++ M)) ∧ Hid (Twin L M) ∧ Hid (∀ x ∈ M, IsR x) ∧ Hid (Hd b o wr L) ∧ Below w0.heap.size w0 wr) (fun i _ _ => m - (intOf i).toNat)
  case atStart => exact ⟨0, [], by omega, rfl, rfl, World.ownsRow_nil _ _ _ _, by rw [List.append_nil]; exact HS, Off.nil _, Twin.nil _, fun x hx => by simp at hx, HH, Below.refl _ _⟩
  case round =>
    obtain ⟨k, M, hk, rfl, ML, hW, S1, O1, T1, I1, H1, hBl⟩ := hrel
    by_cases hlt : k < m
    · have hlL := HL.out
      obtain ⟨y, hy⟩ : ∃ y, L[k]? = some y := ⟨L[k]'(by omega), List.getElem?_eq_getElem (by omega)⟩
      have hyL : y ∈ L := List.mem_of_getElem? hy
      obtain ⟨a', n', c', xs', rfl, hI', hn'⟩ := S1.out.er (x := y) (List.mem_append_left _ hyL) (HI.out y hyL)
      have c1 : wr.cell? ⟨b, o + k, none⟩ = some (.slice a' n' c') := H1.out.at_ k _ hy
      have HY := hidp hy
      have CC := hidp (cloner_c a' n' c' xs' wr hI' (by omega))
      clear hy hyL hlL
      clear hI'
      go_wp2_with fail
      refine CC.out.mono ?_
      rintro e w2 ⟨v2, rfl, hv2, hb2⟩
      have hd2 := owns_below' hW hb2
      have hbs := bstep hBl hb2
      have hgs := hbs.size
      have S2 := hidp (S1.out.snoc (x := er v2 n' xs') (Nat.le_trans hB (Nat.le_trans hB0 hBl.size)) hb2 hv2)
      have O2 := hidp (Off.snoc (x := er v2 n' xs') O1.out ((apart_new hW hv2 (Nat.le_refl _)).symm))
      have H2 := hidp (H1.out.below hb2)
      obtain ⟨a2, c2, rfl, _, _⟩ := owns_form hv2
      clear CC c1
      go_wp2_with (at_builtin; refine wpList_append_new rfl (.tmp 16) (.tmp 19) 89 rfl w0.heap.size 24 _ 1 24 info_slcR rfl (by decide) Tryd.underlying89 u5 k _ rfl hd2 rfl (one_slc _ _ _) rfl rfl (by omega) (by decide) hgs ?_; intro v3 w3 nv g3 d3)
      have hkn : v3.ownBlock = u5.ownBlock ∨ ∃ k, v3.ownBlock = some k ∧ w2.heap.size ≤ k := d3
      have S3 := hidp (S2.out.off O2.out g3)
      have O3 := hidp (O2.out.grown S2.out d3)
      have H3 := hidp (H2.out.grown g3 (fun e => by
        have h1 := (hd2.lt b e).1
        have h2 := HH.out.lt
        omega))
      have bl3 := append_step hd2 hbs (Nat.le_refl _) g3
      go_roundw
      case measure => simp [intOf]; omega
      case rel =>
        have hml := ML.out
        refine ⟨k + 1, M ++ [er (.slice a2 n' c2) n' xs'], by omega, by go_num, hidp (by simp [hml]), by rw [vmap_snoc]; exact nv, hidp (by rw [← List.append_assoc]; exact S3.out), hidp (by rw [← List.append_assoc]; exact O3.out), hidp (T1.out.snoc (x := er (.slice a' n' c') n' xs') (by rw [hml]; exact HY.out) rfl rfl rfl rfl), hidp (fun z hz => ?_), H3, bl3⟩
        rcases List.mem_append.1 hz with hz | hz
        · exact I1.out z hz
        · simp at hz; subst hz; exact ⟨n', xs', rfl, hn'⟩
    · obtain rfl : m = k := by omega
      have hml := ML.out
      obtain ⟨gw, cw, rfl, hgw, hgl, hcw, hcm⟩ := owns_addr hW hm0
      clear ML
      go_wp2_with fail
      have hBl' : Below B w wr := (hb0.mono hB).trans (hBl.mono (Nat.le_trans hB hB0))
      replace p0 := ck hBl p0
      replace p1 := ck hBl p1
      replace p2 := ck hBl p2
      go_loopw [24] (fun i wx => ∃ (k : Nat), k ≤ m ∧ i = .int .i64 k ∧ wx.ownsRow w0.heap.size 24 1 (.slice (some ⟨gw, 0, none⟩) m cw) m (M.map (·.v)) ∧ Hid (Sep B wx (L.drop k ++ M)) ∧ Hid (Hd b o wx L) ∧ Below B w wx ∧ wx.cell? ⟨w.heap.size, 0, none⟩ = some (.string x0) ∧ wx.cell? ⟨w.heap.size, 1, none⟩ = some (.int .i64 x1) ∧ wx.cell? ⟨w.heap.size, 2, none⟩ = some (.int .i64 x2)) (fun i _ => m - (intOf i).toNat)
      case atStart => exact ⟨0, by omega, rfl, hW, S1, H1, hBl', p0, p1, p2⟩
      case round =>
        obtain ⟨k, hk, rfl, hW, S1, H1, hBl, q0, q1, q2⟩ := hrel
        clear hBl' p0 p1 p2
        by_cases hlt : k < m
        · have hlL := HL.out
          obtain ⟨y, hy⟩ : ∃ y, L[k]? = some y := ⟨L[k]'(by omega), List.getElem?_eq_getElem (by omega)⟩
          have hyL : y ∈ L := List.mem_of_getElem? hy
          obtain ⟨z, hz⟩ : ∃ z, M[k]? = some z := ⟨M[k]'(by omega), List.getElem?_eq_getElem (by omega)⟩
          have hzM : z ∈ M := List.mem_of_getElem? hz
          have hyD : y ∈ L.drop k ++ M := by rw [drop_cons hy]; simp
          have hne := HO.out y hyL
          have hnb := HBOX.out y hyL
          have hYI := HI.out y hyL
          have hZI := I1.out z hzM
          obtain ⟨y', hy', t1, t2, t3, t4⟩ := T1.out k z hz
          have hyy : y' = y := by rw [hy] at hy'; exact (Option.some.inj hy').symm
          subst hyy
          have S1' := S1.out
          rw [drop_cons hy] at S1'
          have hyo := S1'.own y' (by simp)
          have hoff := O1.out y' (List.mem_append_left _ hyL)
          have hlo := S1'.own y' (by simp)
          obtain ⟨ay, ny, cy, xy, rfl, hIy, hny⟩ := S1.out.er hyD hYI
          obtain ⟨az, nz, cz, xz, rfl, hIz, hnz⟩ := S1.out.er (x := z) (List.mem_append_right _ hzM) hZI
          obtain rfl : ny = nz := t3
          have hxx : xy = xz := rsV_inj _ _ t4
          subst hxx
          have c1 : wr.cell? ⟨b, o + k, none⟩ = some (.slice ay ny cy) := H1.out.at_ k _ hy
          have c2 : wr.cell? ⟨gw, k, none⟩ = some (.slice az ny cz) := by
            rw [hW.cellAt k (by omega), List.getElem?_map, hz]; rfl
          have EQ := hidp (eqr_c ay az ny cy cz xy wr hIy hIz)
          have S2 := hidp S1'
          have HNE := hidp hne
          have HNB := hidp hnb
          have HOF := hidp hoff
          clear hy hyL hz hzM hyD t1 t2 t4 hIy hIz S1' hYI hZI hyo hlo hne hnb hoff hlL
          go_wp2_with fail
          refine EQ.out.mono ?_
          rintro e w2 ⟨rfl, hb2⟩
          have S3 := hidp (S2.out.below hb2)
          replace q0 := ck hb2 q0
          replace q1 := ck hb2 q1
          replace q2 := ck hb2 q2
          have hW2 := owns_below' hW hb2
          have H2 := hidp (H1.out.below hb2)
          have hBl2 : Below B w w2 := hBl.trans (hb2.mono (Nat.le_trans hB hBl.size))
          have SP := hidp (spoilR_c (.slice ay ny cy) ny B (rsV xy) x0 x1 x2 w2 (S3.out.own (er (.slice ay ny cy) ny xy) (by simp)))
          have hyB := (S3.out.own (er (.slice ay ny cy) ny xy) (by simp)).lt
          clear EQ S2 hb2 c1 c2
          go_wp2_with fail
          refine SP.out.mono ?_
          rintro e w3 ⟨rfl, hg⟩
          have S4 := hidp (Sep.head (L := L.drop (k + 1) ++ M) S3.out hg)
          have hW3 := hW2.kept hg HOF.out.symm
          have H3 := hidp (H2.out.grown hg HNE.out)
          replace q0 := gk hg q0 HNB.out
          replace q1 := gk hg q1 HNB.out
          replace q2 := gk hg q2 HNB.out
          have hBl3 : Below B w w3 := hBl2.grown hg (Nat.le_trans hB hBl2.size) (fun q hq => (hyB q hq).1)
          clear SP S3 hyB
          go_wp2_with fail
          go_roundw
          case measure => simp [intOf]; omega
          case rel => exact ⟨k + 1, by omega, by go_num, hW3, S4, H3, hBl3, q0, q1, q2⟩
        · obtain rfl : k = m := by omega
          go_wp2
          go_ret
          exact ⟨rfl, hBl⟩
end Go.Proofs.YtdfghgeccannnaaDoor
