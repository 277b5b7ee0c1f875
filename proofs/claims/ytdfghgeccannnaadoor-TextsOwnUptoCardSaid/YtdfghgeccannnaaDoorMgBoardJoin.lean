/- Merged: BoardLaw, BoardJoin. -/
import Derived.Test.YtdfghgeccannnaaDoorBoardPut
/- Plain: what Put makes may be; what it tells. -/
namespace Go.Proofs.YtdfghgeccannnaaDoor
set_option maxRecDepth 20000
theorem bput_ok (L : List Rl) (r : Rl) (h : BdOk L) (h1 : oneE r = 0) (hl : (bput L r).length ≤ 16) : BdOk (bput L r) :=
  ⟨bput_srt r L h.srt, hl, fun q hq => by
    rcases bput_mem r L q hq with e | e
    · rw [e]; exact h1
    · exact h.one q e⟩
theorem bput_hasLen (L : List Rl) (r : Rl) (hs : Srt L) (h : fhas L r.1 = true) : (bput L r).length = L.length := by
  rw [bput_old r L hs h]
  split
  · exact List.length_set
  · rfl
/-- Put tells 0, or 8 and leaves all as it is. -/
theorem putE_cases (L : List Rl) (r : Rl) (h : BdOk L) (h1 : oneE r = 0) (hl : (bput L r).length ≤ 16) : putE L r = 0 ∨ (putE L r = 8 ∧ bput L r = L) := by
  unfold putE
  rw [if_neg (by omega)]
  cases hf : fhas L r.1 with
  | true =>
    rw [if_pos rfl]
    have hb := bput_old r L h.srt hf
    have e : (L.getD (fpos L r.1) nilRl).2 = (rl L (fpos L r.1), re L (fpos L r.1)) := rfl
    rw [e] at hb
    cases hn : newer r.2 (rl L (fpos L r.1), re L (fpos L r.1)) with
    | true => exact .inl (by rw [if_pos rfl])
    | false =>
      rw [hn, if_neg (by simp)] at hb
      rw [if_neg (by simp)]
      split
      · exact .inl rfl
      · exact .inr ⟨rfl, hb⟩
  | false =>
    rw [if_neg (by simp)]
    have hb := bput_new r L h.srt hf
    have hp := fpos_le r.1 L
    have : (bput L r).length = L.length + 1 := by
      rw [hb, List.length_append, List.length_cons, List.length_take, List.length_drop]; omega
    rw [if_neg (by omega)]
    exact .inl rfl
/-- The rules of two boards together, at most 16. -/
theorem bputs_mem (M : List Rl) : ∀ L : List Rl, ∀ q ∈ bputs L M, q ∈ M ∨ q ∈ L := by
  induction M with
  | nil => intro L q h; exact .inr h
  | cons r m ih =>
    intro L q h
    rcases ih (bput L r) q h with e | e
    · exact .inl (List.mem_cons_of_mem _ e)
    · rcases bput_mem r L q e with e2 | e2
      · exact .inl (by rw [e2]; exact List.mem_cons_self ..)
      · exact .inr e2
theorem bputs_ok (S : List ByteArray) (hS : S.length ≤ 16) (L M : List Rl) (hL : BdOk L) (hM : ∀ q ∈ M, oneE q = 0 ∧ q.1 ∈ S) (hLS : ∀ q ∈ L, q.1 ∈ S) : BdOk (bputs L M) ∧ ∀ q ∈ bputs L M, q.1 ∈ S := by
  have hk : ∀ q ∈ bputs L M, q.1 ∈ S := fun q hq => by
    rcases bputs_mem M L q hq with e | e
    · exact (hM q e).2
    · exact hLS q e
  have hs := bputs_srt L M hL.srt
  refine ⟨⟨hs, Nat.le_trans (srt_len S _ hs hk) hS, fun q hq => ?_⟩, hk⟩
  rcases bputs_mem M L q hq with e | e
  · exact (hM q e).1
  · exact hL.one q e
end Go.Proofs.YtdfghgeccannnaaDoor

/- Contract of board.Join at boards that may be, whose beginnings are few. -/
namespace Go.Proofs.YtdfghgeccannnaaDoor
open Go.ChangeShapes Go.WideShapes Go.ChangeAt Go.RowKit Go.Lib
set_option maxRecDepth 20000
theorem bdput2_c (a : Option Addr) (n c : Nat) (L : List Rl) (s : ByteArray) (l e : Int) (w : World) (h : RulesAt w a n c L) (ho : BdOk L) (h1 : oneE (s, l, e) = 0) (hl : (bput L (s, l, e)).length ≤ 16) :
    Calls Tryd.prog 16 #[.slice a n c, .agg #[.string s, .int .i64 l, .int .i64 e]] w fun ee w' => ((∃ v, ee = .returned (.tuple #[v, .int .i64 0]) ∧ w'.ownsRow w.heap.size 39 3 v (bput L (s, l, e)).length (rsV (bput L (s, l, e)))) ∨ (bput L (s, l, e) = L ∧ ee = .returned (.tuple #[.slice none 0 0, .int .i64 8]))) ∧ Below w.heap.size w w' := by
  refine (bdput_c a n c L s l e w h ho).mono ?_
  rintro ee w' ⟨h2, hb⟩
  refine ⟨?_, hb⟩
  rcases putE_cases L (s, l, e) ho h1 hl with h3 | ⟨h3, h4⟩
  · rcases h2 with ⟨_, h5⟩ | ⟨h5, _⟩
    · exact .inl h5
    · exact absurd h3 h5
  · rcases h2 with ⟨h5, _⟩ | ⟨_, h5⟩
    · rw [h3] at h5; omega
    · rw [h3] at h5; exact .inr ⟨h4, h5⟩
set_option maxHeartbeats 4000000 in
theorem bdjoin_c (S : List ByteArray) (hS : S.length ≤ 16) (a : Option Addr) (n c : Nat) (L : List Rl) (a2 : Option Addr) (n2 c2 : Nat) (M : List Rl) (w : World) (h : RulesAt w a n c L) (h2 : RulesAt w a2 n2 c2 M) (ho : BdOk L) (ho2 : BdOk M) (hLS : ∀ q ∈ L, q.1 ∈ S) (hMS : ∀ q ∈ M, q.1 ∈ S) :
    Calls Tryd.prog 17 #[.slice a n c, .slice a2 n2 c2] w fun e w' => ∃ v, e = .returned (.tuple #[v, .int .i64 0]) ∧ w'.ownsRow w.heap.size 39 3 v (bputs L M).length (rsV (bputs L M)) ∧ Below w.heap.size w w' := by
  have CK := hidp (fun W (hB : Below w.heap.size w W) => bdcheck_c a n c L W (h.below hB) ho)
  have CK2 := hidp (fun W (hB : Below w.heap.size w W) => bdcheck_c a2 n2 c2 M W (h2.below hB) ho2)
  have CL := hidp (fun W (hB : Below w.heap.size w W) => cloner_c a n c L W (h.below hB) (by have := h.len; have := ho.len; omega))
  have hl := h.len
  have hl2 := h2.len
  have m2 := h2.max
  have e2 := h2.le
  obtain ⟨b, o, hz, hx⟩ := h2.split
  have hz' : Hid (n2 = 0) ∨ a2 = some ⟨b, o, none⟩ := hz.imp_left hidp
  have HX := hidp hx
  have BK := hidp (fun k => bputs_ok S hS L (M.take k) ho (fun q hq => ⟨ho2.one q (List.mem_of_mem_take hq), hMS q (List.mem_of_mem_take hq)⟩) hLS)
  have ST := hidp (fun k (hk : k < n2) => show bputs L (M.take (k + 1)) = bput (bputs L (M.take k)) (rp M k, rl M k, re M k) by rw [rtake M k (by omega), bputs_snoc])
  have ON := hidp (fun k (hk : k < n2) => ho2.one _ (rmem M k (by omega)))
  have TL := hidp (show M.take n2 = M by rw [← hl2, List.take_length])
  have T0 := hidp (show bputs L (M.take 0) = L from rfl)
  clear h h2 hz hx ho ho2 hLS hMS hl2
  go_enter Tryd.func17, Tryd.ntmps17
  go_wp2_with fail
  refine (CK.out _ (Below.refl _ _)).mono ?_
  rintro e w1 ⟨rfl, hb1⟩
  go_wp2_with fail
  refine (CK2.out _ hb1).mono ?_
  rintro e w2 ⟨rfl, hb2⟩
  have B2 := bstep hb1 hb2
  go_wp2_with fail
  refine (CL.out _ B2).mono ?_
  rintro e w3 ⟨v, rfl, hv, hb3⟩
  have B3 := bstep B2 hb3
  have hv3 := owns_mono hv B2.size
  have hf := owns_form hv3
  obtain ⟨av, cv, rfl, hv1, hv2⟩ := hf
  have HV := hidp hv3
  clear hb1 hb2 hb3 B2 hv CK CK2 CL hv3
  go_wp2_with fail
  go_loopg [8, 27] n2 (fun gg s8 s27 wr => ∃ (k m c' : Nat) (a' : Option Addr), k ≤ n2 ∧ n2 - k ≤ gg ∧ s27 = .int .i64 k ∧ s8 = .slice a' m c' ∧ Hid (m = (bputs L (M.take k)).length ∧ wr.ownsRow w.heap.size 39 3 (.slice a' m c') m (rsV (bputs L (M.take k)))) ∧ Below w.heap.size w wr)
  case atStart => exact ⟨0, n, cv, av, by omega, by omega, rfl, rfl, hidp ⟨by rw [T0.out]; exact hl.symm, by rw [T0.out]; exact HV.out⟩, B3⟩
  case round =>
    clear HV
    obtain ⟨k, m, c', a', hk, hgg, rfl, rfl, OW, hbl⟩ := hrel
    by_cases hlt : k < n2
    · obtain rfl : a2 = some ⟨b, o, none⟩ := hz'.resolve_left (fun e => by have := e.out; omega)
      obtain ⟨hbs, x0, x1, x2⟩ := HX.out k hlt
      have q0 := carry_cell ⟨hbs, x0⟩ hbl
      have q1 := carry_cell ⟨hbs, x1⟩ hbl
      have q2 := carry_cell ⟨hbs, x2⟩ hbl
      clear x0 x1 x2
      have OK := hidp (BK.out k).1
      have O2 := hidp (BK.out (k + 1)).1
      have S1 := hidp (ST.out k hlt)
      have N1 := hidp (ON.out k hlt)
      generalize rp M k = s at *
      generalize rl M k = l at *
      generalize re M k = e at *
      generalize hLK : bputs L (M.take k) = LK at *
      generalize hLN : bputs L (M.take (k + 1)) = LN at *
      have HN := hidp hLN
      clear hLK hLN
      have hb2 : Below w.heap.size w (wr.alloc (.cells #[.string s, .int .i64 l, .int .i64 e] 39)) := bal hbl _
      have OW2 := hidp (owns_belowR OW.out.2 (bal (Below.refl _ _) (.cells #[.string s, .int .i64 l, .int .i64 e] 39)))
      have hRA := hidp (owns_rules OW2.out)
      have PC := hidp (show Calls Tryd.prog 16 #[.slice a' m c', .agg #[.string s, .int .i64 l, .int .i64 e]] (wr.alloc (.cells #[.string s, .int .i64 l, .int .i64 e] 39)) _ from by
        obtain ⟨a3, c3, h3, h4⟩ := hRA.out
        cases h3
        exact bdput2_c a' m c' LK s l e _ h4 OK.out N1.out (by rw [← S1.out]; exact O2.out.len))
      have hwr := hbl.size
      clear hRA
      go_wp2_with fail
      refine PC.out.mono ?_
      rintro ee w5 ⟨hpost, hb5⟩
      have B5 := bstep hb2 hb5
      rcases hpost with ⟨v5, rfl, hv5⟩ | ⟨h8, rfl⟩
      · have hv6 := owns_mono hv5 (show w.heap.size ≤ _ by simp; omega)
        rw [← S1.out] at hv6
        have hf := owns_form hv6
        obtain ⟨a6, c6, rfl, _, _⟩ := hf
        have HV := hidp hv6
        clear hv5 hv6 PC OW OW2 hb5 hb2
        go_wp2_with fail
        go_roundg (n2 - (k + 1))
        case measure => omega
        case rel => exact ⟨k + 1, _, c6, a6, by omega, by omega, by go_num, rfl, hidp ⟨by rw [HN.out], by rw [HN.out]; exact HV.out⟩, B5⟩
      · have HV := hidp (owns_belowR OW2.out hb5)
        have E1 := hidp (show LN = LK by rw [S1.out, h8])
        have HM := hidp OW.out.1
        clear PC OW OW2 hb5 hb2 h8
        go_wp2_with fail
        go_roundg (n2 - (k + 1))
        case measure => omega
        case rel => exact ⟨k + 1, m, c', a', by omega, by omega, by go_num, rfl, hidp ⟨by rw [HN.out, E1.out]; exact HM.out, by rw [HN.out, E1.out]; exact HV.out⟩, B5⟩
    · obtain rfl : k = n2 := by omega
      have OW2 := OW.out
      rw [TL.out] at OW2
      obtain ⟨hm, hO⟩ := OW2
      have HO := hidp hO
      have HM := hidp hm
      clear hm hO OW
      go_wp2_with fail
      go_ret2
      exact ⟨_, rfl, by rw [← HM.out]; exact HO.out, hbl⟩
end Go.Proofs.YtdfghgeccannnaaDoor
