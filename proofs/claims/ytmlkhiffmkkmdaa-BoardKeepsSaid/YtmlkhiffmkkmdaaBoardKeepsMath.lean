/- Plain: what the law BoardKeeps says of a rule put to what ruled gives. -/
import Derived.Test.YtmlkhiffmkkmdaaBoardAsksMath
namespace Go.Proofs.Ytmlkhiffmkkmdaa
set_option maxRecDepth 20000
theorem look_rp (L : List Rl) (hs : Srt L) (i : Nat) (hi : i < L.length) : look L (rp L i) = some (rl L i, re L i) :=
  (mem_look L hs (rp L i, rl L i, re L i)).1 (rmem L i hi)
theorem fhas_at {L : List Rl} {p : ByteArray} (h : fhas L p = true) : fpos L p < L.length ∧ rp L (fpos L p) = p := by
  unfold fhas at h
  simp only [Bool.and_eq_true, decide_eq_true_eq] at h
  exact h
theorem look_has (L : List Rl) (hs : Srt L) (p : ByteArray) (h : fhas L p = true) : look L p = some (rl L (fpos L p), re L (fpos L p)) := by
  obtain ⟨h1, h2⟩ := fhas_at h
  have := look_rp L hs _ h1
  rwa [h2] at this
theorem putE_one (L : List Rl) (r : Rl) (h : putE L r = 0) : oneE r = 0 := by
  unfold putE at h
  by_cases h1 : oneE r = 0
  · exact h1
  · rw [if_pos h1] at h; exact absurd h h1
/-- Put said OK: the rule stands. -/
theorem put_stands (L : List Rl) (r : Rl) (hs : Srt L) (h : putE L r = 0) (h1 : oneE r = 0) : look (bput L r) r.1 = some r.2 := by
  rw [bput_look r r.1 L hs, if_pos rfl]
  cases hf : fhas L r.1 with
  | true =>
    rw [look_has L hs _ hf]
    unfold putE at h
    rw [if_neg (by omega), if_pos hf] at h
    show (if newer r.2 (rl L (fpos L r.1), re L (fpos L r.1)) = true then some r.2 else some (rl L (fpos L r.1), re L (fpos L r.1))) = some r.2
    split
    · rfl
    · rename_i hn
      rw [if_neg hn] at h
      split at h
      · rename_i he; rw [he]
      · cases h
  | false =>
    cases hl : look L r.1 with
    | none => rfl
    | some y =>
      have hm := look_mem r.1 y L hl
      exfalso
      have hb := bput_new r L hs hf
      have hc : look (bput L r) r.1 = win (some r.2) (look L r.1) := by rw [bput_look r r.1 L hs, if_pos rfl]
      have hmem : r ∈ bput L r := by rw [hb]; simp
      have hy2 : (r.1, y) ∈ bput L r := by
        rw [hb]
        have := List.take_append_drop (fpos L r.1) L
        rw [← this] at hm
        rcases List.mem_append.1 hm with e | e
        · exact List.mem_append_left _ e
        · exact List.mem_append_right _ (List.mem_cons_of_mem _ e)
      have hlen : (bput L r).length = L.length + 1 := by
        rw [hb, List.length_append, List.length_cons, List.length_take, List.length_drop]
        have := fpos_le r.1 L
        omega
      have hs2 := bput_srt r L hs
      have e1 := (mem_look _ hs2 r).1 hmem
      have e2 := (mem_look _ hs2 (r.1, y)).1 hy2
      have e3 : r.2 = y := Option.some.inj (e1.symm.trans e2)
      -- both stand at places of their own
      rw [hb] at hs2
      have hs3 := List.pairwise_append.1 hs2
      have hs4 := List.pairwise_cons.1 hs3.2.1
      have := List.take_append_drop (fpos L r.1) L
      rw [← this] at hm
      rcases List.mem_append.1 hm with e | e
      · exact slt_ne (hs3.2.2 _ e r (List.mem_cons_self ..)) rfl
      · exact slt_ne (hs4.1 _ e) rfl
/-- Put again: the same. -/
theorem put_again (L : List Rl) (r : Rl) (hs : Srt L) (h : putE L r = 0) (h1 : oneE r = 0) (hl : (bput L r).length < 16) : putE (bput L r) r = 0 ∧ bput (bput L r) r = bput L r := by
  have hst := put_stands L r hs h h1
  have hs2 := bput_srt r L hs
  have hext : bput (bput L r) r = bput L r := srt_ext _ _ (bput_srt r _ hs2) hs2 (fun p => by
    rw [bput_look r p _ hs2]
    split
    · rename_i e
      rw [← e, hst]
      show (if newer r.2 r.2 = true then some r.2 else some r.2) = some r.2
      split <;> rfl
    · rfl)
  refine ⟨?_, hext⟩
  unfold putE
  rw [if_neg (by omega)]
  cases hf : fhas (bput L r) r.1 with
  | true =>
    rw [if_pos rfl]
    have h2 := look_has _ hs2 _ hf
    rw [hst] at h2
    rw [← Option.some.inj h2]
    split
    · rfl
    · rw [if_pos rfl]
  | false => rw [if_neg (by simp), if_neg (by omega)]
/-- A rule that the name begins with: it counts, or a longer one that was there. -/
theorem ask_put (L : List Rl) (r : Rl) (s : ByteArray) (hs : Srt L) (hst : look (bput L r) r.1 = some r.2) (hb : begins s r.1 = true) :
    askE (bput L r) s = 0 ∧ (askL (bput L r) s = r.2.1 ∨ (askL L s = askL (bput L r) s ∧ askE L s = 0)) := by
  have hs2 := bput_srt r L hs
  have hr : r ∈ bput L r := (mem_look _ hs2 r).2 hst
  rcases ask_or (bput L r) s with h | ⟨q, hq⟩
  · have := h r hr; rw [hb] at this; cases this
  · have hy := ask_yes _ s hs2 q hq
    refine ⟨hy.2, ?_⟩
    by_cases e : q.1 = r.1
    · left
      have h2 := (mem_look _ hs2 q).1 hq.1
      rw [e, hst] at h2
      rw [hy.1, Option.some.inj h2]
    · right
      have h2 := (mem_look _ hs2 q).1 hq.1
      rw [bput_look r q.1 L hs, if_neg (fun x => e x.symm)] at h2
      have hqL := (mem_look L hs q).2 h2
      have hz := ask_yes L s hs q ⟨hqL, hq.2.1, fun x hx hbx => by
        by_cases e2 : x.1 = r.1
        · rw [e2]; exact hq.2.2 r hr hb
        · have h3 := (mem_look L hs x).1 hx
          have h4 : look (bput L r) x.1 = some x.2 := by rw [bput_look r x.1 L hs, if_neg (fun y => e2 y.symm)]; exact h3
          exact hq.2.2 x ((mem_look _ hs2 x).2 h4) hbx⟩
      exact ⟨hz.1.trans hy.1.symm, hz.2⟩
/-- begins, as the law's code has it. -/
theorem begins_code (s p : ByteArray) : begins s p = (decide (p.data.toList.length ≤ s.data.toList.length) && (s.data.toList.take p.data.toList.length == p.data.toList)) := (Lib.hasPrefix_of_take _ _).symm
theorem begins_x (s p x : ByteArray) (h : p.size ≤ s.size) (hx : x = s.extract 0 p.size) : (x = p → begins s p = true) ∧ (x ≠ p → begins s p = false) := by
  have hl : x.data.toList = s.data.toList.take p.size := by
    rw [hx]
    simp [ByteArray.data_extract, Array.toList_extract]
  have hs : ∀ b : ByteArray, b.data.toList.length = b.size := fun b => by rw [Array.length_toList]; rfl
  have hb : begins s p = (x.data.toList == p.data.toList) := by
    rw [begins_code, hs, hs, hl, decide_eq_true h, Bool.true_and]
  refine ⟨fun e => by rw [hb, e]; simp, fun e => ?_⟩
  rw [hb]
  cases hc : (x.data.toList == p.data.toList) with
  | false => rfl
  | true => exact absurd (data_injB (by simpa using hc)) e
end Go.Proofs.Ytmlkhiffmkkmdaa
