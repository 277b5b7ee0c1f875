/- Contracts of board's functions at whatever comes. -/
import Derived.Test.YtdfghgeccannnaaDoorMgBoardJoin
import Derived.Test.YtdfghgeccannnaaDoorFr
namespace Go.Proofs.YtdfghgeccannnaaDoor
open Go.ChangeShapes Go.WideShapes Go.ChangeAt Go.RowKit Go.Lib
set_option maxRecDepth 20000
theorem bd_of (L : List Rl) (n : Nat) (hl : L.length = n) (hn : n ≤ 16) (h1 : ∀ i, i < n → oneE (rp L i, rl L i, re L i) = 0) (h2 : ∀ i, i + 1 < n → slt (rp L i) (rp L (i + 1)) = true) : BdOk L := by
  have hg : ∀ i (hi : i < L.length), L[i] = (rp L i, rl L i, re L i) := fun i hi => by
    have := rget L i hi
    rw [List.getElem?_eq_getElem hi] at this
    exact Option.some.inj this
  have hs : ∀ d i, i + d + 1 < n → slt (rp L i) (rp L (i + d + 1)) = true := fun d => by
    induction d with
    | zero => exact fun i hi => h2 i hi
    | succ d ih => exact fun i hi => slt_trans (ih i (by omega)) (h2 (i + d + 1) (by omega))
  refine ⟨List.pairwise_iff_getElem.2 (fun i j hi hj hij => ?_), by omega, fun r hr => ?_⟩
  · rw [hg i hi, hg j hj]
    have := hs (j - i - 1) i (by omega)
    rw [show i + (j - i - 1) + 1 = j by omega] at this
    exact this
  · obtain ⟨i, hi, rfl⟩ := List.getElem_of_mem hr
    rw [hg i hi]
    exact h1 i (by omega)
set_option maxHeartbeats 4000000 in
theorem bdcheck_bad (a : Option Addr) (n c : Nat) (L : List Rl) (w : World) (h : RulesAt w a n c L) (hbad : ¬ BdOk L) :
    Calls Tryd.prog 43 #[.slice a n c] w fun e w' => (∃ E : Int, e = .returned (.int .i64 E) ∧ (E != 0) = true) ∧ Below w.heap.size w w' := by
  have mm := h.max
  have ee := h.le
  by_cases h16 : 16 < n
  · have h16' : (16 : Int) < (n : Int) := by omega
    clear hbad h
    go_enter Tryd.func43, Tryd.ntmps43
    go_wp2_with fail
    go_ret
    exact ⟨⟨2, rfl, rfl⟩, Below.refl _ _⟩
  · have hn : n ≤ 16 := by omega
    have h16' : ¬ (16 : Int) < (n : Int) := by omega
    obtain ⟨b, o, hz, hx⟩ := h.split
    have hz' : Hid (n = 0) ∨ a = some ⟨b, o, none⟩ := hz.imp_left hidp
    have HX := hidp hx
    have HN := hidp (show ¬ ((∀ i, i < n → oneE (rp L i, rl L i, re L i) = 0) ∧ ∀ i, i + 1 < n → slt (rp L i) (rp L (i + 1)) = true) from fun e => hbad (bd_of L n h.len hn e.1 e.2))
    have OC := hidp one_c
    clear h hz hx hbad h16
    go_enter Tryd.func43, Tryd.ntmps43
    go_wp2_with fail
    go_loopg [11] n (fun gg i wr => ∃ k : Nat, k ≤ n ∧ n - k ≤ gg ∧ i = .int .i64 k ∧ Hid ((∀ i, i < k → oneE (rp L i, rl L i, re L i) = 0) ∧ ∀ i, i + 1 < k → slt (rp L i) (rp L (i + 1)) = true) ∧ Below w.heap.size w wr)
    case atStart => exact ⟨0, by omega, by omega, rfl, hidp ⟨fun i hi => by omega, fun i hi => by omega⟩, Below.refl _ _⟩
    case round =>
      obtain ⟨k, hk, hgg, rfl, HK, hbl⟩ := hrel
      by_cases hlt : k < n
      · obtain rfl : a = some ⟨b, o, none⟩ := hz'.resolve_left (fun e => by have := e.out; omega)
        obtain ⟨hbs, x0, x1, x2⟩ := HX.out k hlt
        have q0 := carry_cell ⟨hbs, x0⟩ hbl
        have q1 := carry_cell ⟨hbs, x1⟩ hbl
        have q2 := carry_cell ⟨hbs, x2⟩ hbl
        have K1 := hidp (OC.out (rp L k) (rl L k) (re L k))
        clear x0 x1 x2
        by_cases O1 : oneE (rp L k, rl L k, re L k) = 0
        · have HO := hidp O1
          rw [O1] at K1
          clear O1
          rcases Nat.eq_zero_or_pos k with rfl | hpos
          · have HK2 := hidp (show (∀ i, i < 1 → oneE (rp L i, rl L i, re L i) = 0) ∧ ∀ i, i + 1 < 1 → slt (rp L i) (rp L (i + 1)) = true from ⟨fun i hi => by
              obtain rfl : i = 0 := by omega
              exact HO.out, fun i hi => by omega⟩)
            clear HO
            simp only [Nat.zero_mul, Nat.add_zero] at q0 q1 q2
            generalize rp L 0 = s at q0 K1
            generalize rl L 0 = l at q1 K1
            generalize re L 0 = e at q2 K1
            have hb2 : Below w.heap.size w (wr.alloc (.cells #[.string s, .int .i64 l, .int .i64 e] 39)) := bal hbl _
            have r0 : (wr.alloc (.cells #[.string s, .int .i64 l, .int .i64 e] 39)).cell? ⟨wr.heap.size, 0, none⟩ = some (.string s) := by simp
            go_wp2_with fail
            refine (K1.out _).mono ?_
            rintro ee w' ⟨rfl, hb1⟩
            have hb3 := bstep hb2 hb1
            have r2 := ck hb1 r0
            clear hb1 hb2 r0
            go_wp2_with fail
            go_quiet (fail)
            go_wp2_with fail
            go_roundg (n - 1)
            case measure => omega
            case rel => exact ⟨1, by omega, by omega, by go_num, HK2, below_drewN hb3 _⟩
          · obtain ⟨j, rfl⟩ : ∃ j, k = j + 1 := ⟨k - 1, by omega⟩
            obtain ⟨_, x0, _, _⟩ := HX.out j (by omega)
            have p0 := carry_cell ⟨hbs, x0⟩ hbl
            clear x0
            by_cases LT : slt (rp L j) (rp L (j + 1)) = true
            · have HK2 := hidp (show (∀ i, i < j + 2 → oneE (rp L i, rl L i, re L i) = 0) ∧ ∀ i, i + 1 < j + 2 → slt (rp L i) (rp L (i + 1)) = true from ⟨fun i hi => by
                by_cases e : i = j + 1
                · rw [e]; exact HO.out
                · exact HK.out.1 i (by omega), fun i hi => by
                by_cases e : i = j
                · rw [e]; exact LT
                · exact HK.out.2 i (by omega)⟩)
              have L1 := hidp (show Op.bytesLess (rp L j).toList (rp L (j + 1)).toList = true from LT)
              clear LT HO
              generalize rp L (j + 1) = s at q0 K1 L1
              generalize rl L (j + 1) = l at q1 K1
              generalize re L (j + 1) = e at q2 K1
              generalize rp L j = s0 at p0 L1
              have hb2 : Below w.heap.size w (wr.alloc (.cells #[.string s, .int .i64 l, .int .i64 e] 39)) := bal hbl _
              have p1 := ca p0 (.cells #[.string s, .int .i64 l, .int .i64 e] 39)
              have r0 : (wr.alloc (.cells #[.string s, .int .i64 l, .int .i64 e] 39)).cell? ⟨wr.heap.size, 0, none⟩ = some (.string s) := by simp
              go_wp2_with fail
              refine (K1.out _).mono ?_
              rintro ee w' ⟨rfl, hb1⟩
              have hb3 := bstep hb2 hb1
              have p2 := ck hb1 p1
              have r2 := ck hb1 r0
              have hj : (0 : Int) < (j : Int) + 1 := by omega
              have L2 := L1.out
              clear hb1 hb2 p0 p1 r0 q0 q1 q2
              go_wp2_with fail
              go_quiet (fail)
              go_wp2_with fail
              go_roundg (n - (j + 2))
              case measure => omega
              case rel => exact ⟨j + 2, by omega, by omega, by go_num, HK2, below_drewN hb3 _⟩
            · have L1 := hidp (show Op.bytesLess (rp L j).toList (rp L (j + 1)).toList = false from by
                cases hq : Op.bytesLess (rp L j).toList (rp L (j + 1)).toList with
                | false => rfl
                | true => exact absurd hq LT)
              clear LT HO
              generalize rp L (j + 1) = s at q0 K1 L1
              generalize rl L (j + 1) = l at q1 K1
              generalize re L (j + 1) = e at q2 K1
              generalize rp L j = s0 at p0 L1
              have hb2 : Below w.heap.size w (wr.alloc (.cells #[.string s, .int .i64 l, .int .i64 e] 39)) := bal hbl _
              have p1 := ca p0 (.cells #[.string s, .int .i64 l, .int .i64 e] 39)
              have r0 : (wr.alloc (.cells #[.string s, .int .i64 l, .int .i64 e] 39)).cell? ⟨wr.heap.size, 0, none⟩ = some (.string s) := by simp
              go_wp2_with fail
              refine (K1.out _).mono ?_
              rintro ee w' ⟨rfl, hb1⟩
              have hb3 := bstep hb2 hb1
              have p2 := ck hb1 p1
              have r2 := ck hb1 r0
              have hj : (0 : Int) < (j : Int) + 1 := by omega
              have L2 := L1.out
              clear hb1 hb2 p0 p1 r0 q0 q1 q2
              go_wp2_with fail
              go_quiet (fail)
              go_wp2_with fail
              go_ret
              exact ⟨⟨_, rfl, rfl⟩, below_drewN hb3 _⟩
        · have hx : (oneE (rp L k, rl L k, re L k) != 0) = true := by simpa using O1
          clear O1
          generalize oneE (rp L k, rl L k, re L k) = x at hx K1
          generalize rp L k = s at q0 K1
          generalize rl L k = l at q1 K1
          generalize re L k = e at q2 K1
          have hb2 : Below w.heap.size w (wr.alloc (.cells #[.string s, .int .i64 l, .int .i64 e] 39)) := bal hbl _
          go_wp2_with fail
          refine (K1.out _).mono ?_
          rintro ee w' ⟨rfl, hb1⟩
          have hb3 := bstep hb2 hb1
          clear hb1 hb2
          go_wp2_with fail
          go_ret
          exact ⟨⟨x, rfl, hx⟩, hb3⟩
      · exfalso
        obtain rfl : k = n := by omega
        exact HN.out HK.out
/-- A short list of rules that lies in a block that was not there at B (or nil). -/
def FrR (B : Nat) (W : World) (v : Value) : Prop := ∃ (n : Nat) (L : List Rl), W.ownsRow B 39 3 v n (rsV L) ∧ n ≤ 1000
theorem bput_le (L : List Rl) (r : Rl) (h : BdOk L) (h0 : putE L r = 0) : oneE r = 0 ∧ (bput L r).length ≤ 16 := by
  have hl := h.len
  unfold putE at h0
  by_cases h1 : oneE r = 0
  · refine ⟨h1, ?_⟩
    rw [if_neg (by rw [h1]; exact fun e => e rfl)] at h0
    cases hf : fhas L r.1 with
    | true => rw [bput_hasLen L r h.srt hf]; exact hl
    | false =>
      rw [hf] at h0
      simp only [Bool.false_eq_true, if_false] at h0
      by_cases h16 : L.length = 16
      · rw [if_pos h16] at h0; omega
      · rw [bput_new r L h.srt hf]
        simp only [List.length_append, List.length_cons, List.length_take, List.length_drop]
        have := fpos_le r.1 L
        omega
  · rw [if_pos h1] at h0; exact absurd h0 h1
set_option maxHeartbeats 4000000 in
theorem bdput_bad (a : Option Addr) (n c : Nat) (L : List Rl) (s : ByteArray) (l e : Int) (w : World) (h : RulesAt w a n c L) (hbad : ¬ BdOk L) :
    Calls Tryd.prog 16 #[.slice a n c, .agg #[.string s, .int .i64 l, .int .i64 e]] w fun e w' => (∃ E : Int, e = .returned (.tuple #[.slice none 0 0, .int .i64 E])) ∧ Below w.heap.size w w' := by
  have CK := hidp (fun W (hB : Below w.heap.size w W) => bdcheck_bad a n c L W (h.below hB) hbad)
  have hb0 : Below w.heap.size w (w.alloc (.cells #[.string s, .int .i64 l, .int .i64 e] 39)) := bal (Below.refl _ _) _
  clear h hbad
  go_enter Tryd.func16, Tryd.ntmps16
  go_wp2_with fail
  refine (CK.out _ hb0).mono ?_
  rintro ee w1 ⟨⟨E, rfl, hE⟩, hb1⟩
  have B1 := bstep hb0 hb1
  clear CK hb0 hb1
  go_wp2_with fail
  go_ret2
  exact ⟨⟨E, rfl⟩, B1⟩
theorem bdput_any (a : Option Addr) (n c : Nat) (L : List Rl) (s : ByteArray) (l e : Int) (w : World) (h : RulesAt w a n c L) :
    Calls Tryd.prog 16 #[.slice a n c, .agg #[.string s, .int .i64 l, .int .i64 e]] w fun e w' => ∃ v r, e = .returned (.tuple #[v, .int .i64 r]) ∧ FrR w.heap.size w' v ∧ Below w.heap.size w w' := by
  by_cases hE : BdOk L
  · refine (bdput_c a n c L s l e w h hE).mono ?_
    rintro e' w' ⟨⟨h0, v, rfl, hO⟩ | ⟨_, rfl⟩, hB⟩
    · have := (bput_le L _ hE h0).2
      exact ⟨_, _, rfl, ⟨_, _, hO, by omega⟩, hB⟩
    · exact ⟨_, _, rfl, ⟨0, [], World.ownsRow_nil _ _ _ _, by omega⟩, hB⟩
  · refine (bdput_bad a n c L s l e w h hE).mono ?_
    rintro e' w' ⟨⟨E, rfl⟩, hB⟩
    exact ⟨_, _, rfl, ⟨0, [], World.ownsRow_nil _ _ _ _, by omega⟩, hB⟩
/-- Put at a board that may be: a new board that may be, or a code and nothing. -/
theorem bdput3_c (a : Option Addr) (n c : Nat) (L : List Rl) (s : ByteArray) (l e : Int) (w : World) (h : RulesAt w a n c L) (ho : BdOk L) :
    Calls Tryd.prog 16 #[.slice a n c, .agg #[.string s, .int .i64 l, .int .i64 e]] w fun ee w' => ((∃ v L', ee = .returned (.tuple #[v, .int .i64 0]) ∧ BdOk L' ∧ w'.ownsRow w.heap.size 39 3 v L'.length (rsV L')) ∨ (∃ x : Int, x ≠ 0 ∧ ee = .returned (.tuple #[.slice none 0 0, .int .i64 x]))) ∧ Below w.heap.size w w' := by
  refine (bdput_c a n c L s l e w h ho).mono ?_
  rintro ee w' ⟨⟨h0, v, rfl, hO⟩ | ⟨h0, rfl⟩, hb⟩
  · obtain ⟨h1, h2⟩ := bput_le L _ ho h0
    exact ⟨.inl ⟨v, _, rfl, bput_ok L _ ho h1 h2, hO⟩, hb⟩
  · exact ⟨.inr ⟨_, h0, rfl⟩, hb⟩
set_option maxHeartbeats 4000000 in
theorem bdjoin_bad1 (a : Option Addr) (n c : Nat) (L : List Rl) (a2 : Option Addr) (n2 c2 : Nat) (w : World) (h : RulesAt w a n c L) (hbad : ¬ BdOk L) :
    Calls Tryd.prog 17 #[.slice a n c, .slice a2 n2 c2] w fun e w' => (∃ E : Int, e = .returned (.tuple #[.slice none 0 0, .int .i64 E])) ∧ Below w.heap.size w w' := by
  have CK := hidp (bdcheck_bad a n c L w h hbad)
  clear h hbad
  go_enter Tryd.func17, Tryd.ntmps17
  go_wp2_with fail
  refine CK.out.mono ?_
  rintro ee w1 ⟨⟨E, rfl, hE⟩, hb1⟩
  clear CK
  go_wp2_with fail
  go_ret2
  exact ⟨⟨E, rfl⟩, hb1⟩
set_option maxHeartbeats 4000000 in
theorem bdjoin_bad2 (a : Option Addr) (n c : Nat) (L : List Rl) (a2 : Option Addr) (n2 c2 : Nat) (M : List Rl) (w : World) (h : RulesAt w a n c L) (h2 : RulesAt w a2 n2 c2 M) (ho : BdOk L) (hbad : ¬ BdOk M) :
    Calls Tryd.prog 17 #[.slice a n c, .slice a2 n2 c2] w fun e w' => (∃ E : Int, e = .returned (.tuple #[.slice none 0 0, .int .i64 E])) ∧ Below w.heap.size w w' := by
  have CK := hidp (bdcheck_c a n c L w h ho)
  have CK2 := hidp (fun W (hB : Below w.heap.size w W) => bdcheck_bad a2 n2 c2 M W (h2.below hB) hbad)
  clear h h2 ho hbad
  go_enter Tryd.func17, Tryd.ntmps17
  go_wp2_with fail
  refine CK.out.mono ?_
  rintro ee w1 ⟨rfl, hb1⟩
  go_wp2_with fail
  refine (CK2.out _ hb1).mono ?_
  rintro ee w2 ⟨⟨E, rfl, hE⟩, hb2⟩
  have B2 := bstep hb1 hb2
  clear CK CK2 hb1 hb2
  go_wp2_with fail
  go_ret2
  exact ⟨⟨E, rfl⟩, B2⟩
set_option maxHeartbeats 4000000 in
theorem bdjoin_ok (a : Option Addr) (n c : Nat) (L : List Rl) (a2 : Option Addr) (n2 c2 : Nat) (M : List Rl) (w : World) (h : RulesAt w a n c L) (h2 : RulesAt w a2 n2 c2 M) (ho : BdOk L) (ho2 : BdOk M) :
    Calls Tryd.prog 17 #[.slice a n c, .slice a2 n2 c2] w fun e w' => ∃ v r, e = .returned (.tuple #[v, .int .i64 r]) ∧ FrR w.heap.size w' v ∧ Below w.heap.size w w' := by
  have CK := hidp (fun W (hB : Below w.heap.size w W) => bdcheck_c a n c L W (h.below hB) ho)
  have CK2 := hidp (fun W (hB : Below w.heap.size w W) => bdcheck_c a2 n2 c2 M W (h2.below hB) ho2)
  have CL := hidp (fun W (hB : Below w.heap.size w W) => cloner_c a n c L W (h.below hB) (by have := h.len; have := ho.len; omega))
  have HLO := hidp ho
  have hl := h.len
  have hl2 := h2.len
  have m2 := h2.max
  have e2 := h2.le
  obtain ⟨b, o, hz, hx⟩ := h2.split
  have hz' : Hid (n2 = 0) ∨ a2 = some ⟨b, o, none⟩ := hz.imp_left hidp
  have HX := hidp hx
  clear h h2 hz hx ho ho2 hl2
  go_enter Tryd.func17, Tryd.ntmps17
  go_wp2_with fail
  refine (CK.out _ (Below.refl _ _)).mono ?_
  rintro e w1 ⟨rfl, hb1⟩
  go_wp2_with fail
  refine (CK2.out _ hb1).mono ?_
  rintro e w2 ⟨rfl, hb2⟩
  have B2 := bstep hb1 hb2
  go_wp2_with fail
  refine (CL.out _ B2).mono ?_
  rintro e w3 ⟨v, rfl, hv, hb3⟩
  have B3 := bstep B2 hb3
  have hv3 := owns_mono hv B2.size
  have hf := owns_form hv3
  obtain ⟨av, cv, rfl, hv1, hv2⟩ := hf
  have HV := hidp hv3
  clear hb1 hb2 hb3 B2 hv CK CK2 CL hv3
  go_wp2_with fail
  go_loopg [8, 27] n2 (fun gg s8 s27 wr => ∃ (k m c' : Nat) (a' : Option Addr) (LK : List Rl), k ≤ n2 ∧ n2 - k ≤ gg ∧ s27 = .int .i64 k ∧ s8 = .slice a' m c' ∧ Hid (BdOk LK ∧ m = LK.length ∧ wr.ownsRow w.heap.size 39 3 (.slice a' m c') m (rsV LK)) ∧ Below w.heap.size w wr)
  case atStart => exact ⟨0, n, cv, av, L, by omega, by omega, rfl, rfl, hidp ⟨HLO.out, hl.symm, HV.out⟩, B3⟩
  case round =>
    clear HV HLO
    obtain ⟨k, m, c', a', LK, hk, hgg, rfl, rfl, OW, hbl⟩ := hrel
    by_cases hlt : k < n2
    · obtain rfl : a2 = some ⟨b, o, none⟩ := hz'.resolve_left (fun e => by have := e.out; omega)
      obtain ⟨hbs, x0, x1, x2⟩ := HX.out k hlt
      have q0 := carry_cell ⟨hbs, x0⟩ hbl
      have q1 := carry_cell ⟨hbs, x1⟩ hbl
      have q2 := carry_cell ⟨hbs, x2⟩ hbl
      clear x0 x1 x2
      generalize rp M k = s at *
      generalize rl M k = l at *
      generalize re M k = e at *
      have hb2 : Below w.heap.size w (wr.alloc (.cells #[.string s, .int .i64 l, .int .i64 e] 39)) := bal hbl _
      have OW2 := hidp (owns_belowR OW.out.2.2 (bal (Below.refl _ _) (.cells #[.string s, .int .i64 l, .int .i64 e] 39)))
      have hRA := hidp (owns_rules OW2.out)
      have PC := hidp (show Calls Tryd.prog 16 #[.slice a' m c', .agg #[.string s, .int .i64 l, .int .i64 e]] (wr.alloc (.cells #[.string s, .int .i64 l, .int .i64 e] 39)) _ from by
        obtain ⟨a3, c3, h3, h4⟩ := hRA.out
        cases h3
        exact bdput3_c a' m c' LK s l e _ h4 OW.out.1)
      have hwr := hbl.size
      clear hRA
      go_wp2_with fail
      refine PC.out.mono ?_
      rintro ee w5 ⟨hpost, hb5⟩
      have B5 := bstep hb2 hb5
      rcases hpost with ⟨v5, L5, rfl, hB5, hv5⟩ | ⟨x, hx0, rfl⟩
      · have hv6 := owns_mono hv5 (show w.heap.size ≤ _ by simp; omega)
        have hf := owns_form hv6
        obtain ⟨a6, c6, rfl, _, _⟩ := hf
        have HV := hidp hv6
        have HB5 := hidp hB5
        clear hv5 hv6 PC OW OW2 hb5 hb2 hB5
        go_wp2_with fail
        go_roundg (n2 - (k + 1))
        case measure => omega
        case rel => exact ⟨k + 1, _, c6, a6, L5, by omega, by omega, by go_num, rfl, hidp ⟨HB5.out, rfl, HV.out⟩, B5⟩
      · have HV := hidp (owns_belowR OW2.out hb5)
        have HM := hidp OW.out
        have y0 : (x == 0) = false := by simpa using hx0
        by_cases hx2 : x = 2
        · have y2 : (x == 2) = true := by rw [hx2]; rfl
          clear PC OW OW2 hb5 hb2 hx0 HM HV hx2
          go_wp2_with fail
          go_ret2
          exact ⟨_, _, rfl, ⟨0, [], World.ownsRow_nil _ _ _ _, by omega⟩, B5⟩
        · have y2 : (x == 2) = false := by simpa using hx2
          clear PC OW OW2 hb5 hb2 hx0 hx2
          go_wp2_with fail
          go_roundg (n2 - (k + 1))
          case measure => omega
          case rel => exact ⟨k + 1, m, c', a', LK, by omega, by omega, by go_num, rfl, hidp ⟨HM.out.1, HM.out.2.1, HV.out⟩, B5⟩
    · obtain rfl : k = n2 := by omega
      have HO := hidp OW.out
      clear OW
      go_wp2_with fail
      go_ret2
      exact ⟨_, _, rfl, ⟨_, _, HO.out.2.2, by have h1 := HO.out.1.len; have h2 := HO.out.2.1; omega⟩, hbl⟩
theorem bdjoin_any (a : Option Addr) (n c : Nat) (L : List Rl) (a2 : Option Addr) (n2 c2 : Nat) (M : List Rl) (w : World) (h : RulesAt w a n c L) (h2 : RulesAt w a2 n2 c2 M) :
    Calls Tryd.prog 17 #[.slice a n c, .slice a2 n2 c2] w fun e w' => ∃ v r, e = .returned (.tuple #[v, .int .i64 r]) ∧ FrR w.heap.size w' v ∧ Below w.heap.size w w' := by
  have bad : ∀ (e : Ending) (w' : World), ((∃ E : Int, e = .returned (.tuple #[.slice none 0 0, .int .i64 E])) ∧ Below w.heap.size w w') → ∃ v r, e = .returned (.tuple #[v, .int .i64 r]) ∧ FrR w.heap.size w' v ∧ Below w.heap.size w w' := by
    rintro e w' ⟨⟨E, rfl⟩, hB⟩
    exact ⟨_, _, rfl, ⟨0, [], World.ownsRow_nil _ _ _ _, by omega⟩, hB⟩
  by_cases ho : BdOk L
  · by_cases ho2 : BdOk M
    · exact bdjoin_ok a n c L a2 n2 c2 M w h h2 ho ho2
    · exact (bdjoin_bad2 a n c L a2 n2 c2 M w h h2 ho ho2).mono bad
  · exact (bdjoin_bad1 a n c L a2 n2 c2 w h ho).mono bad
end Go.Proofs.YtdfghgeccannnaaDoor
