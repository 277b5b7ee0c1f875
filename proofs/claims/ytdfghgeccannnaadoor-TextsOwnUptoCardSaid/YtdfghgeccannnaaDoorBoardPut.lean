/- Contract of board.Put at boards that may be, whatever the rule. -/
import Derived.Test.YtdfghgeccannnaaDoorMgBoardCheck
import Derived.Test.YtdfghgeccannnaaDoorCloneR
import Derived.Test.YtdfghgeccannnaaDoorInsR
import Derived.Deep.RegionWith
import Derived.Deep.RegionHeld3
import Derived.OneCell
import Derived.Below
namespace Go.Proofs.YtdfghgeccannnaaDoor
open Go.ChangeShapes Go.WideShapes Go.ChangeAt Go.RowKit Go.Lib
set_option maxRecDepth 20000
theorem ltc' {W : World} {P i : Nat} {v : Value} (h : W.cell? ⟨P, i, none⟩ = some v) : P < W.heap.size := lt_of_cell h
theorem owns_belowR {w w' : World} {base : Nat} {e : TypeId} {size : Nat} {v : Value} {n : Nat} {xs : List Value} (h : w.ownsRow base e size v n xs) (hb : Below w.heap.size w w') : w'.ownsRow base e size v n xs := by
  refine ⟨h.1, ?_⟩
  rcases h.2 with h0 | ⟨g, cap, cur, hv, hg, hh, r⟩
  · exact .inl h0
  · exact .inr ⟨g, cap, cur, hv, hg, (hb.block g (Array.getElem?_eq_some_iff.1 hh).1).trans hh, r⟩
theorem set3 (a b c : Value) (xs : List Value) (j : Nat) (u : Value) : (a :: b :: c :: xs).set (j + 3) u = a :: b :: c :: xs.set j u := rfl
theorem rsV_set : ∀ (L : List Rl) (i : Nat) (r : Rl), i < L.length → (((rsV L).set (i * 3) (.string r.1)).set (i * 3 + 1) (.int .i64 r.2.1)).set (i * 3 + 2) (.int .i64 r.2.2) = rsV (L.set i r)
  | [], i, _, h => by simp at h
  | p :: l, 0, r, _ => rfl
  | p :: l, i + 1, r, h => by
    have ih := rsV_set l i r (by simpa using h)
    rw [show (i + 1) * 3 = i * 3 + 3 by omega, show i * 3 + 3 + 1 = i * 3 + 1 + 3 by omega, show i * 3 + 3 + 2 = i * 3 + 2 + 3 by omega]
    show (((Value.string p.1 :: Value.int .i64 p.2.1 :: Value.int .i64 p.2.2 :: rsV l).set _ _).set _ _).set _ _ = Value.string p.1 :: Value.int .i64 p.2.1 :: Value.int .i64 p.2.2 :: rsV (l.set i r)
    rw [set3, set3, set3, ih]
theorem rsV_take : ∀ (L : List Rl) (i : Nat), (rsV L).take (i * 3) = rsV (L.take i)
  | [], i => by simp [rsV]
  | p :: l, 0 => rfl
  | p :: l, i + 1 => by
    rw [show (i + 1) * 3 = i * 3 + 1 + 1 + 1 by omega]
    simp only [rsV, List.take_succ_cons]
    rw [rsV_take l i]
theorem rsV_drop : ∀ (L : List Rl) (i : Nat), (rsV L).drop (i * 3) = rsV (L.drop i)
  | [], i => by simp [rsV]
  | p :: l, 0 => rfl
  | p :: l, i + 1 => by
    rw [show (i + 1) * 3 = i * 3 + 1 + 1 + 1 by omega]
    simp only [rsV, List.drop_succ_cons]
    rw [rsV_drop l i]
theorem rsV_ins (L : List Rl) (i : Nat) (r : Rl) : (rsV L).take (i * 3) ++ rlV r ++ (rsV L).drop (i * 3) = rsV (L.take i ++ r :: L.drop i) := by
  rw [rsV_take, rsV_drop, rsV_append, List.append_assoc]; rfl
/-- What Put tells. -/
def putE (L : List Rl) (r : Rl) : Int :=
  if oneE r ≠ 0 then oneE r else if fhas L r.1 = true then (if newer r.2 (rl L (fpos L r.1), re L (fpos L r.1)) = true then 0 else if r.2 = (rl L (fpos L r.1), re L (fpos L r.1)) then 0 else 8) else if L.length = 16 then 2 else 0
def BPost (w : World) (L : List Rl) (r : Rl) (e : Ending) (w' : World) : Prop :=
  ((putE L r = 0 ∧ ∃ v, e = .returned (.tuple #[v, .int .i64 0]) ∧ w'.ownsRow w.heap.size 39 3 v (bput L r).length (rsV (bput L r))) ∨ (putE L r ≠ 0 ∧ e = .returned (.tuple #[.slice none 0 0, .int .i64 (putE L r)]))) ∧ Below w.heap.size w w'
theorem BPost.bad {w w' : World} {L : List Rl} {r : Rl} (x : Int) (h : putE L r = x) (hx : x ≠ 0) (hb : Below w.heap.size w w') : BPost w L r (.returned (.tuple #[.slice none 0 0, .int .i64 x])) w' :=
  ⟨.inr ⟨by rw [h]; exact hx, by rw [h]⟩, hb⟩
set_option maxHeartbeats 8000000 in
theorem bdput_c (a : Option Addr) (n c : Nat) (L : List Rl) (s : ByteArray) (l e : Int) (w : World) (h : RulesAt w a n c L) (ho : BdOk L) :
    Calls Tryd.prog 16 #[.slice a n c, .agg #[.string s, .int .i64 l, .int .i64 e]] w (BPost w L (s, l, e)) := by
  have hl := h.len
  have hn : n ≤ 16 := by have := ho.len; omega
  have hm := h.max
  have hle := h.le
  have CK := hidp (fun W (hB : Below w.heap.size w W) => bdcheck_c a n c L W (h.below hB) ho)
  have ON := hidp (fun W => one_c s l e W)
  have CL := hidp (fun W (hB : Below w.heap.size w W) => cloner_c a n c L W (h.below hB) (by omega))
  have FI := hidp (fun W (hB : Below w.heap.size w W) => find_c a n c L s W (h.below hB) ho.srt (by omega))
  have PE := hidp (show putE L (s, l, e) = if oneE (s, l, e) ≠ 0 then oneE (s, l, e) else if fhas L s = true then (if newer (l, e) (rl L (fpos L s), re L (fpos L s)) = true then 0 else if (l, e) = (rl L (fpos L s), re L (fpos L s)) then 0 else 8) else if L.length = 16 then 2 else 0 from rfl)
  have hb0 : Below w.heap.size w (w.alloc (.cells #[.string s, .int .i64 l, .int .i64 e] 39)) := bal (Below.refl _ _) _
  have c0 : (w.alloc (.cells #[.string s, .int .i64 l, .int .i64 e] 39)).cell? ⟨w.heap.size, 0, none⟩ = some (.string s) := by simp
  have c1 : (w.alloc (.cells #[.string s, .int .i64 l, .int .i64 e] 39)).cell? ⟨w.heap.size, 1, none⟩ = some (.int .i64 l) := by simp
  have c2 : (w.alloc (.cells #[.string s, .int .i64 l, .int .i64 e] 39)).cell? ⟨w.heap.size, 2, none⟩ = some (.int .i64 e) := by simp
  by_cases h1 : oneE (s, l, e) = 0
  case neg =>
    have P1 := hidp (show putE L (s, l, e) = oneE (s, l, e) by rw [PE.out, if_pos h1])
    generalize oneE (s, l, e) = x at *
    have hx : (x != 0) = true := by simpa using h1
    have hx2 : (x == 0) = false := by simpa using h1
    have H1 := hidp h1
    clear h1 FI CL PE
    go_enter Tryd.func16, Tryd.ntmps16
    go_wp2_with fail
    refine (CK.out _ hb0).mono ?_
    rintro ee w1 ⟨rfl, hb1⟩
    have p0 := ck hb1 c0
    have p1 := ck hb1 c1
    have p2 := ck hb1 c2
    have B1 := bstep hb0 hb1
    clear c0 c1 c2 hb0 hb1
    go_wp2_with fail
    refine (ON.out _).mono ?_
    rintro ee w2 ⟨rfl, hb2⟩
    have B2 := bstep B1 hb2
    clear p0 p1 p2 B1 hb2
    go_wp2_with fail
    go_ret2
    exact BPost.bad x P1.out H1.out B2
  case pos =>
    have P1 := hidp (show putE L (s, l, e) = if fhas L s = true then (if newer (l, e) (rl L (fpos L s), re L (fpos L s)) = true then 0 else if (l, e) = (rl L (fpos L s), re L (fpos L s)) then 0 else 8) else if L.length = 16 then 2 else 0 by rw [PE.out, if_neg (by omega)])
    have ON2 := hidp (fun W => by have := ON.out W; rw [h1] at this; exact this)
    have FL := hidp (fpos_le s L)
    have BO := hidp (show fhas L s = true → bput L (s, l, e) = if newer (l, e) (rl L (fpos L s), re L (fpos L s)) = true then L.set (fpos L s) (s, l, e) else L from bput_old (s, l, e) L ho.srt)
    have BN := hidp (show fhas L s = false → bput L (s, l, e) = L.take (fpos L s) ++ (s, l, e) :: L.drop (fpos L s) from bput_new (s, l, e) L ho.srt)
    have NW := hidp (fun s' l' e' W => newer_c s s' l e l' e' W)
    clear h1 PE ON h ho
    go_enter Tryd.func16, Tryd.ntmps16
    go_wp2_with fail
    refine (CK.out _ hb0).mono ?_
    rintro ee w1 ⟨rfl, hb1⟩
    have p0 := ck hb1 c0
    have p1 := ck hb1 c1
    have p2 := ck hb1 c2
    have B1 := bstep hb0 hb1
    clear c0 c1 c2 hb0 hb1
    go_wp2_with fail
    refine (ON2.out _).mono ?_
    rintro ee w2 ⟨rfl, hb2⟩
    have c0 := ck hb2 p0
    have c1 := ck hb2 p1
    have c2 := ck hb2 p2
    have B2 := bstep B1 hb2
    clear p0 p1 p2 B1 hb2
    go_wp2_with fail
    refine (CL.out _ B2).mono ?_
    rintro ee w3 ⟨v, rfl, hv, hb3⟩
    have hf := owns_form hv
    obtain ⟨av, cv, rfl, hv1, hv2⟩ := hf
    have p0 := ck hb3 c0
    have p1 := ck hb3 c1
    have p2 := ck hb3 c2
    have B3 := bstep B2 hb3
    have hH := ltc' c0
    have hz3 := hb3.size
    clear c0 c1 c2 hb3
    go_wp2_with fail
    refine (FI.out _ B3).mono ?_
    rintro ee w4 ⟨rfl, hb4⟩
    have c0 := ck hb4 p0
    have c1 := ck hb4 p1
    have c2 := ck hb4 p2
    have B4 := bstep B3 hb4
    have hv4 := owns_belowR hv hb4
    have hz4 := hb4.size
    have hz34 : w2.heap.size ≤ w4.heap.size := Nat.le_trans hz3 hz4
    clear p0 p1 p2 B3 hb4 hv CK ON2 CL FI
    cases hfh : fhas L s with
    | true =>
      have P2 := hidp (show putE L (s, l, e) = if newer (l, e) (rl L (fpos L s), re L (fpos L s)) = true then 0 else if (l, e) = (rl L (fpos L s), re L (fpos L s)) then 0 else 8 by rw [P1.out, if_pos hfh])
      have hfi : fpos L s < n ∧ rp L (fpos L s) = s := by
        unfold fhas at hfh
        simp only [Bool.and_eq_true, decide_eq_true_eq] at hfh
        exact ⟨by rw [← hl]; exact hfh.1, hfh.2⟩
      have BO2 := hidp (BO.out hfh)
      have RS := hidp (fun (hi : fpos L s < n) => show (((rsV L).set (fpos L s * 3) (.string s)).set (fpos L s * 3 + 1) (.int .i64 l)).set (fpos L s * 3 + 2) (.int .i64 e) = rsV (L.set (fpos L s) (s, l, e)) from rsV_set L (fpos L s) (s, l, e) (by omega))
      have RN := hidp (show (L.set (fpos L s) (s, l, e)).length = n by rw [List.length_set]; exact hl)
      clear FL BO BN P1
      obtain ⟨a', cap', he, hRA⟩ := owns_rules hv4
      have hcs := fun (i : Nat) (hi : i < n) => hRA.split
      obtain ⟨g, cp, he2, _⟩ := owns_addr hv4 (by omega)
      simp only [Value.slice.injEq] at he he2
      obtain ⟨rfl, _, rfl⟩ := he
      obtain ⟨rfl, _, rfl⟩ := he2
      obtain ⟨b, off, hbo, hblt, hc⟩ := hRA.cells (by omega)
      simp only [Option.some.injEq, Addr.mk.injEq] at hbo
      obtain ⟨rfl, rfl, _⟩ := hbo
      obtain ⟨x0, x1, x2⟩ := hc _ hfi.1
      rw [hfi.2, Nat.zero_add] at x0
      rw [Nat.zero_add] at x1 x2
      have RS2 := hidp (RS.out hfi.1)
      have hin := hfi.1
      clear hc hcs RS hfi hRA
      generalize fpos L s = i at *
      generalize rl L i = l2 at *
      generalize re L i = e2 at *
      cases hnw : newer (l, e) (l2, e2) with
      | true =>
        have P3 := hidp (show putE L (s, l, e) = 0 by rw [P2.out, if_pos hnw])
        have B3 := hidp (show bput L (s, l, e) = L.set i (s, l, e) by rw [BO2.out, if_pos hnw])
        have N1 := hidp (fun W => NW.out s l2 e2 W)
        rw [hnw] at N1
        clear P2 BO2 NW hnw hfh
        go_wp2_with fail
        go_region_with (go_at_call 46; go_loud (refine Calls.mono (N1.out _) ?_; rintro ee w5 ⟨rfl, hb5⟩; have hbv := bstep (Below.refl w4.heap.size w4).drew hb5; have d0 := ck hbv c0; have d1 := ck hbv c1; have d2 := ck hbv c2; have y0 := ck hbv x0; have y1 := ck hbv x1; have y2 := ck hbv x2; have B5 := bstep B4 hbv; have hv5 := owns_belowR hv4 hbv; have z0 := hv5.frozenAt (i * 3); have z1 := hv5.frozenAt (i * 3 + 1); have z2 := hv5.frozenAt (i * 3 + 2)))
        all_goals go_wp2_with fail
        all_goals go_ret2
        all_goals have hg2 : w.heap.size ≤ g := Nat.le_trans (Nat.le_of_lt hH) (hv5.lt g rfl).1
        all_goals exact ⟨.inl ⟨P3.out, _, rfl, by rw [B3.out, RN.out, ← RS2.out]; exact owns_mono ((((hv5.stored (i * 3) _).1.stored (i * 3 + 1) _).1.stored (i * 3 + 2) _).1) (Nat.le_of_lt hH)⟩, ((B5.setCell (p := ⟨g, i * 3, none⟩) hg2 _).setCell (p := ⟨g, i * 3 + 1, none⟩) hg2 _).setCell (p := ⟨g, i * 3 + 2, none⟩) hg2 _⟩
      | false =>
        have P3 := hidp (show putE L (s, l, e) = if (l, e) = (l2, e2) then 0 else 8 by rw [P2.out, if_neg (by rw [hnw]; simp)])
        have B3 := hidp (show bput L (s, l, e) = L by rw [BO2.out, if_neg (by rw [hnw]; simp)])
        have N1 := hidp (fun W => NW.out s l2 e2 W)
        rw [hnw] at N1
        clear P2 BO2 NW hnw hfh RS2 RN
        by_cases hle2 : l = l2 ∧ e = e2
        · obtain ⟨rfl, rfl⟩ := hle2
          have P4 := hidp (show putE L (s, l, e) = 0 by rw [P3.out, if_pos rfl])
          clear P3
          go_wp2_with fail
          go_region_with (go_at_call 46; go_loud (refine Calls.mono (N1.out _) ?_; rintro ee w5 ⟨rfl, hb5⟩; have hbv := bstep (Below.refl w4.heap.size w4).drew hb5; have d0 := ck hbv c0; have d1 := ck hbv c1; have d2 := ck hbv c2; have y0 := ck hbv x0; have y1 := ck hbv x1; have y2 := ck hbv x2; have B5 := bstep B4 hbv; have hv5 := owns_belowR hv4 hbv))
          all_goals go_wp2_with fail
          all_goals go_quiet (fail)
          all_goals go_wp2_with fail
          all_goals go_ret2
          all_goals exact ⟨.inl ⟨P4.out, _, rfl, by rw [B3.out, hl]; exact owns_mono (owns_belowR hv5 (below_drewN (Below.refl _ _) _)) (Nat.le_of_lt hH)⟩, below_drewN B5 _⟩
        · have P4 := hidp (show putE L (s, l, e) = 8 by rw [P3.out, if_neg (fun h => hle2 ⟨congrArg Prod.fst h, congrArg Prod.snd h⟩)])
          clear P3
          by_cases h5 : l2 = l
          · subst h5
            have n5 : (e2 == e) = false := by rw [beq_eq_false_iff_ne]; exact fun h => hle2 ⟨rfl, h.symm⟩
            clear hle2
            go_wp2_with fail
            go_region_with (go_at_call 46; go_loud (refine Calls.mono (N1.out _) ?_; rintro ee w5 ⟨rfl, hb5⟩; have hbv := bstep (Below.refl w4.heap.size w4).drew hb5; have d0 := ck hbv c0; have d1 := ck hbv c1; have d2 := ck hbv c2; have y0 := ck hbv x0; have y1 := ck hbv x1; have y2 := ck hbv x2; have B5 := bstep B4 hbv))
            all_goals go_wp2_with fail
            all_goals go_quiet (fail)
            all_goals go_wp2_with fail
            all_goals go_ret2
            all_goals exact BPost.bad 8 P4.out (by omega) (below_drewN B5 _)
          · have n5 : (l2 == l) = false := by rw [beq_eq_false_iff_ne]; exact h5
            clear hle2 h5
            go_wp2_with fail
            go_region_with (go_at_call 46; go_loud (refine Calls.mono (N1.out _) ?_; rintro ee w5 ⟨rfl, hb5⟩; have hbv := bstep (Below.refl w4.heap.size w4).drew hb5; have d0 := ck hbv c0; have d1 := ck hbv c1; have d2 := ck hbv c2; have y0 := ck hbv x0; have y1 := ck hbv x1; have y2 := ck hbv x2; have B5 := bstep B4 hbv))
            all_goals go_wp2_with fail
            all_goals go_quiet (fail)
            all_goals go_wp2_with fail
            all_goals go_ret2
            all_goals exact BPost.bad 8 P4.out (by omega) (below_drewN B5 _)
    | false =>
      have P2 := hidp (show putE L (s, l, e) = if L.length = 16 then 2 else 0 by rw [P1.out, hfh]; rfl)
      have BN2 := hidp (BN.out hfh)
      have hfl := FL.out
      rw [hl] at hfl
      have RI := hidp (rsV_ins L (fpos L s) (s, l, e))
      have RL := hidp (show (bput L (s, l, e)).length = n + 1 by rw [BN2.out, List.length_append, List.length_cons, List.length_take, List.length_drop, hl]; omega)
      clear BO BN P1 FL NW hfh
      generalize fpos L s = i at *
      by_cases h16 : n = 16
      · have P3 := hidp (show putE L (s, l, e) = 2 by rw [P2.out, if_pos (by omega)])
        subst h16
        clear P2
        go_wp2_with fail
        go_quiet (fail)
        go_wp2_with fail
        go_quiet (fail)
        go_wp2_with fail
        all_goals go_ret2
        all_goals exact BPost.bad 2 P3.out (by omega) (below_drewN B4 _)
      · have P3 := hidp (show putE L (s, l, e) = 0 by rw [P2.out, if_neg (by omega)])
        clear P2
        have hn16 : ((n : Int) == 16) = false := by rw [beq_eq_false_iff_ne]; omega
        have IN := hidp (fun (W : World) (hB : Below w4.heap.size w4 W) => insr_own (.slice av n cv) n i w2.heap.size W.heap.size (rsV L) (rlV (s, l, e)) 39 (W.alloc (.cells (rlV (s, l, e)).toArray 39)) (owns_belowR hv4 (bal hB _)) (by
          have h1 := hB.size
          have h2 := hz34
          simp; omega) hfl (by omega) rfl (heap_alloc_new W _) (fun h => by
          have h1 := (owns_belowR hv4 hB).lt _ h
          omega) (one_rlV _) (rsV_one L))
        go_wp2_with fail
        go_quiet (fail)
        go_wp2_with fail
        go_quiet (fail)
        generalize hW5 : (w4.drewN _).drewN _ = W5 at *
        have hb5 : Below w4.heap.size w4 W5 := by rw [← hW5]; exact below_drewN (below_drewN (Below.refl _ _) _) _
        have d0 := ck hb5 c0
        have d1 := ck hb5 c1
        have d2 := ck hb5 c2
        clear hW5 c0 c1 c2
        go_wp2_with fail
        refine (IN.out W5 hb5).mono ?_
        rintro ee w6 ⟨v6, rfl, hv6, hg6, hn6⟩
        have hf6 := owns_form hv6
        obtain ⟨a6, c6, rfl, _, _⟩ := hf6
        go_wp2_with fail
        all_goals go_ret2
        have b6 := bstep B4 hb5
        have b7 : Below w.heap.size w w6 := (bal b6 _).grown hg6 (by simp; have := b6.size; omega) (fun k hk => by
          have := (hv4.lt k hk).1
          omega)
        exact ⟨.inl ⟨P3.out, _, rfl, by rw [RL.out, BN2.out, ← RI.out]; exact owns_mono hv6 (Nat.le_of_lt hH)⟩, b7⟩
end Go.Proofs.YtdfghgeccannnaaDoor
