/- Plain: what Put makes may be; what it tells. -/
import Derived.Test.YtmlkhiffmkkmdaaBoardPut
namespace Go.Proofs.Ytmlkhiffmkkmdaa
set_option maxRecDepth 20000
theorem bput_ok (L : List Rl) (r : Rl) (h : BdOk L) (h1 : oneE r = 0) (hl : (bput L r).length ≤ 16) : BdOk (bput L r) :=
  ⟨bput_srt r L h.srt, hl, fun q hq => by
    rcases bput_mem r L q hq with e | e
    · rw [e]; exact h1
    · exact h.one q e⟩
theorem bput_hasLen (L : List Rl) (r : Rl) (hs : Srt L) (h : fhas L r.1 = true) : (bput L r).length = L.length := by
  rw [bput_old r L hs h]
  split
  · exact List.length_set
  · rfl
/-- Put tells 0, or 8 and leaves all as it is. -/
theorem putE_cases (L : List Rl) (r : Rl) (h : BdOk L) (h1 : oneE r = 0) (hl : (bput L r).length ≤ 16) : putE L r = 0 ∨ (putE L r = 8 ∧ bput L r = L) := by
  unfold putE
  rw [if_neg (by omega)]
  cases hf : fhas L r.1 with
  | true =>
    rw [if_pos rfl]
    have hb := bput_old r L h.srt hf
    have e : (L.getD (fpos L r.1) nilRl).2 = (rl L (fpos L r.1), re L (fpos L r.1)) := rfl
    rw [e] at hb
    cases hn : newer r.2 (rl L (fpos L r.1), re L (fpos L r.1)) with
    | true => exact .inl (by rw [if_pos rfl])
    | false =>
      rw [hn, if_neg (by simp)] at hb
      rw [if_neg (by simp)]
      split
      · exact .inl rfl
      · exact .inr ⟨rfl, hb⟩
  | false =>
    rw [if_neg (by simp)]
    have hb := bput_new r L h.srt hf
    have hp := fpos_le r.1 L
    have : (bput L r).length = L.length + 1 := by
      rw [hb, List.length_append, List.length_cons, List.length_take, List.length_drop]; omega
    rw [if_neg (by omega)]
    exact .inl rfl
/-- The rules of two boards together, at most 16. -/
theorem bputs_mem (M : List Rl) : ∀ L : List Rl, ∀ q ∈ bputs L M, q ∈ M ∨ q ∈ L := by
  induction M with
  | nil => intro L q h; exact .inr h
  | cons r m ih =>
    intro L q h
    rcases ih (bput L r) q h with e | e
    · exact .inl (List.mem_cons_of_mem _ e)
    · rcases bput_mem r L q e with e2 | e2
      · exact .inl (by rw [e2]; exact List.mem_cons_self ..)
      · exact .inr e2
theorem bputs_ok (S : List ByteArray) (hS : S.length ≤ 16) (L M : List Rl) (hL : BdOk L) (hM : ∀ q ∈ M, oneE q = 0 ∧ q.1 ∈ S) (hLS : ∀ q ∈ L, q.1 ∈ S) : BdOk (bputs L M) ∧ ∀ q ∈ bputs L M, q.1 ∈ S := by
  have hk : ∀ q ∈ bputs L M, q.1 ∈ S := fun q hq => by
    rcases bputs_mem M L q hq with e | e
    · exact (hM q e).2
    · exact hLS q e
  have hs := bputs_srt L M hL.srt
  refine ⟨⟨hs, Nat.le_trans (srt_len S _ hs hk) hS, fun q hq => ?_⟩, hk⟩
  rcases bputs_mem M L q hq with e | e
  · exact (hM q e).1
  · exact hL.one q e
end Go.Proofs.Ytmlkhiffmkkmdaa
