/- Plain: what Ask says depends on the rules that the name begins with, and the longest one counts. -/
import Derived.Test.YtmlkhiffmkkmdaaBoardAsk
namespace Go.Proofs.Ytmlkhiffmkkmdaa
set_option maxRecDepth 20000
theorem data_injB {s t : ByteArray} (h : s.data.toList = t.data.toList) : s = t := ByteArray.ext (Array.ext' h)
theorem begins_self (s : ByteArray) : begins s s = true := by
  unfold begins Lib.hasPrefix
  rw [List.isPrefixOf_iff_prefix]
  exact List.prefix_refl _
theorem begins_size {s p : ByteArray} (h : begins s p = true) : p.size ≤ s.size := by
  unfold begins Lib.hasPrefix at h
  rw [List.isPrefixOf_iff_prefix] at h
  have := h.length_le
  simpa using this
theorem begins_eq {s p q : ByteArray} (h1 : begins s p = true) (h2 : begins s q = true) (h3 : p.size = q.size) : p = q := by
  unfold begins Lib.hasPrefix at h1 h2
  rw [List.isPrefixOf_iff_prefix] at h1 h2
  refine data_injB ?_
  have e1 := List.prefix_iff_eq_take.1 h1
  have e2 := List.prefix_iff_eq_take.1 h2
  rw [e1, e2]
  have : p.data.toList.length = q.data.toList.length := by simpa using h3
  rw [this]
theorem ask_none (L : List Rl) (s : ByteArray) : ∀ n, askI L s n = 0 → ∀ i, i < n → begins s (rp L i) = false
  | 0, _, i, hi => by omega
  | n + 1, h, i, hi => by
    unfold askI at h
    split at h
    · omega
    · next h2 =>
      by_cases e : i = n
      · subst e
        cases hb : begins s (rp L i)
        · rfl
        · exact absurd ⟨hb, .inl h⟩ h2
      · exact ask_none L s n h i (by omega)
theorem ask_some (L : List Rl) (s : ByteArray) : ∀ n j, askI L s n = j + 1 → j < n ∧ begins s (rp L j) = true ∧ ∀ i, i < n → begins s (rp L i) = true → (rp L i).size ≤ (rp L j).size
  | 0, j, h => by cases h
  | n + 1, j, h => by
    unfold askI at h
    split at h
    · next h2 =>
      obtain rfl : n = j := by omega
      refine ⟨by omega, h2.1, fun i hi hb => ?_⟩
      by_cases e : i = n
      · rw [e]; exact Nat.le_refl _
      · rcases Nat.eq_zero_or_pos (askI L s n) with h3 | h3
        · have := ask_none L s n h3 i (by omega); rw [hb] at this; cases this
        · obtain ⟨k, hk⟩ : ∃ k, askI L s n = k + 1 := ⟨askI L s n - 1, by omega⟩
          have h4 := (ask_some L s n k hk).2.2 i (by omega) hb
          rw [hk] at h2
          have h5 : (rp L k).size < (rp L n).size := h2.2.resolve_left (by omega)
          omega
    · next h2 =>
      obtain ⟨h3, h4, h5⟩ := ask_some L s n j h
      refine ⟨by omega, h4, fun i hi hb => ?_⟩
      by_cases e : i = n
      · subst e
        rw [h] at h2
        have : ¬ (rp L j).size < (rp L i).size := fun h6 => h2 ⟨hb, .inr h6⟩
        omega
      · exact h5 i (by omega) hb
/-- The rule that counts. -/
def Counts1 (L : List Rl) (s : ByteArray) (q : Rl) : Prop := q ∈ L ∧ begins s q.1 = true ∧ ∀ x ∈ L, begins s x.1 = true → x.1.size ≤ q.1.size
theorem rl_mem {L : List Rl} {x : Rl} (h : x ∈ L) : ∃ i, i < L.length ∧ x = (rp L i, rl L i, re L i) := by
  obtain ⟨i, hi, e⟩ := List.getElem_of_mem h
  refine ⟨i, hi, ?_⟩
  have := rget L i hi
  rw [List.getElem?_eq_getElem hi, e] at this
  exact Option.some.inj this
theorem ask_no (L : List Rl) (s : ByteArray) (h : ∀ x ∈ L, begins s x.1 = false) : askL L s = 0 ∧ askE L s = 4 := by
  have : askI L s L.length = 0 := by
    rcases Nat.eq_zero_or_pos (askI L s L.length) with h3 | h3
    · exact h3
    · obtain ⟨k, hk⟩ : ∃ k, askI L s L.length = k + 1 := ⟨askI L s L.length - 1, by omega⟩
      obtain ⟨h4, h5, _⟩ := ask_some L s _ k hk
      rw [h _ (rmem L k h4)] at h5; cases h5
  unfold askL askE
  rw [this]; exact ⟨rfl, rfl⟩
theorem ask_yes (L : List Rl) (s : ByteArray) (hs : Srt L) (q : Rl) (h : Counts1 L s q) : askL L s = q.2.1 ∧ askE L s = 0 := by
  obtain ⟨hq, hb, hm⟩ := h
  rcases Nat.eq_zero_or_pos (askI L s L.length) with h3 | h3
  · obtain ⟨i, hi, e⟩ := rl_mem hq
    have := ask_none L s _ h3 i hi
    rw [e] at hb
    rw [this] at hb; cases hb
  · obtain ⟨k, hk⟩ : ∃ k, askI L s L.length = k + 1 := ⟨askI L s L.length - 1, by omega⟩
    obtain ⟨h4, h5, h6⟩ := ask_some L s _ k hk
    obtain ⟨i, hi, e⟩ := rl_mem hq
    have e1 : q.1 = rp L i := by rw [e]
    have h7 := h6 i hi (by rw [← e1]; exact hb)
    have h8 := hm _ (rmem L k h4) h5
    rw [← e1] at h7
    have e2 : rp L k = q.1 := begins_eq h5 hb (Nat.le_antisymm h8 h7)
    have e3 := look_of q.1 q.2 L hs hq
    have e4 := look_of (rp L k) (rl L k, re L k) L hs (rmem L k h4)
    rw [e2, e3] at e4
    have e5 : q.2.1 = rl L k := congrArg Prod.fst (Option.some.inj e4)
    unfold askL askE
    rw [hk, e5]
    exact ⟨rfl, rfl⟩
/-- One of the two. -/
theorem ask_or (L : List Rl) (s : ByteArray) : (∀ x ∈ L, begins s x.1 = false) ∨ ∃ q, Counts1 L s q := by
  rcases Nat.eq_zero_or_pos (askI L s L.length) with h3 | h3
  · left
    intro x hx
    obtain ⟨i, hi, e⟩ := rl_mem hx
    rw [e]; exact ask_none L s _ h3 i hi
  · right
    obtain ⟨k, hk⟩ : ∃ k, askI L s L.length = k + 1 := ⟨askI L s L.length - 1, by omega⟩
    obtain ⟨h4, h5, h6⟩ := ask_some L s _ k hk
    refine ⟨_, rmem L k h4, h5, fun x hx hb => ?_⟩
    obtain ⟨i, hi, e⟩ := rl_mem hx
    have e1 : x.1 = rp L i := by rw [e]
    rw [e1] at hb ⊢
    exact h6 i hi hb
/-- Two boards that hold the same rules that the name begins with say the same. -/
theorem ask_same (L M : List Rl) (s : ByteArray) (h1 : Srt L) (h2 : Srt M) (h : ∀ q : Rl, begins s q.1 = true → (q ∈ L ↔ q ∈ M)) : askL L s = askL M s ∧ askE L s = askE M s := by
  rcases ask_or L s with h3 | ⟨q, h3⟩
  · have h4 : ∀ x ∈ M, begins s x.1 = false := fun x hx => by
      cases hb : begins s x.1
      · rfl
      · have := h3 x ((h x hb).2 hx); rw [hb] at this; cases this
    obtain ⟨a, b⟩ := ask_no L s h3
    obtain ⟨c, d⟩ := ask_no M s h4
    exact ⟨a.trans c.symm, b.trans d.symm⟩
  · obtain ⟨a, b⟩ := ask_yes L s h1 q h3
    obtain ⟨c, d⟩ := ask_yes M s h2 q ⟨(h q h3.2.1).1 h3.1, h3.2.1, fun x hx hb => h3.2.2 x ((h x hb).2 hx) hb⟩
    exact ⟨a.trans c.symm, b.trans d.symm⟩
/-- Membership by what a board says. -/
theorem mem_look (L : List Rl) (hs : Srt L) (q : Rl) : q ∈ L ↔ look L q.1 = some q.2 :=
  ⟨fun h => look_of q.1 q.2 L hs h, fun h => look_mem q.1 q.2 L h⟩
/-- A rule that the name does not begin with makes no difference. -/
theorem ask_far (L : List Rl) (r : Rl) (s : ByteArray) (hs : Srt L) (h : begins s r.1 = false) : askL L s = askL (bput L r) s ∧ askE L s = askE (bput L r) s :=
  ask_same L _ s hs (bput_srt r L hs) (fun q hb => by
    rw [mem_look L hs, mem_look _ (bput_srt r L hs), bput_look r q.1 L hs, if_neg (fun e => by rw [e, hb] at h; cases h)])
/-- A rule of the name itself counts. -/
theorem ask_near (L : List Rl) (r : Rl) (hs : Srt L) (hw : win (some r.2) (look L r.1) = some r.2) : askL (bput L r) r.1 = r.2.1 ∧ askE (bput L r) r.1 = 0 := by
  refine ask_yes _ r.1 (bput_srt r L hs) r ⟨(mem_look _ (bput_srt r L hs) r).2 ?_, begins_self _, fun x _ hb => begins_size hb⟩
  rw [bput_look r r.1 L hs, if_pos rfl, hw]
end Go.Proofs.Ytmlkhiffmkkmdaa
