/- Plain: what the law BoardAsks says of the rules that ruled gives. -/
import Derived.Test.YtmlkhiffmkkmdaaRuledMath
import Derived.Test.YtmlkhiffmkkmdaaBoardAskLaw
namespace Go.Proofs.Ytmlkhiffmkkmdaa
set_option maxRecDepth 20000
/-- The epochs that ruled gives are below 10. -/
theorem rowsR_ep : ∀ (l : List (List Int)), ∀ q ∈ rowsR l, q.2.2 < 10
  | [], q, h => by cases h
  | xs :: l, q, h => by
    unfold rowsR at h
    split at h
    · exact rowsR_ep l q h
    · rcases List.mem_cons.1 h with e | e
      · rw [e]
        have h4 := wi_hi (gi xs 2) 9 (by omega)
        show 1 + wi (gi xs 2) 9 < 10
        omega
      · exact rowsR_ep l q e
theorem ruled_ep (ls : List (List Int)) : ∀ q ∈ ruledL ls, q.2.2 < 10 := fun q hq => by
  rcases bputs_mem _ _ q hq with e | e
  · exact rowsR_ep _ q e
  · cases e
theorem ruled_len (ls : List (List Int)) : (ruledL ls).length ≤ 7 :=
  srt_len tx7 _ (ruled_ok (ls.take 30)).1.srt (ruled_ok (ls.take 30)).2
theorem newer_ep {l e : Int} {q : Int × Int} (h : q.2 < e) : newer (l, e) q = true := (newer_iff _ _).2 (.inl h)
theorem putE_new (L : List Rl) (r : Rl) (h1 : oneE r = 0) (hl : L.length < 16) (hq : ∀ q ∈ L, q.2.2 < r.2.2) : putE L r = 0 := by
  unfold putE
  rw [if_neg (by omega)]
  cases hf : fhas L r.1 with
  | true =>
    rw [if_pos rfl]
    have hlt : fpos L r.1 < L.length := by
      unfold fhas at hf
      have := hf
      simp only [Bool.and_eq_true, decide_eq_true_eq] at this
      exact this.1
    rw [if_pos (newer_ep (hq _ (rmem L _ hlt)))]
  | false =>
    rw [if_neg (by simp), if_neg (by omega)]
theorem win_new (L : List Rl) (r : Rl) (hq : ∀ q ∈ L, q.2.2 < r.2.2) : win (some r.2) (look L r.1) = some r.2 := by
  cases h : look L r.1 with
  | none => rfl
  | some y =>
    have := hq _ (look_mem r.1 y L h)
    show (if newer r.2 y = true then some r.2 else some y) = some r.2
    rw [if_pos (newer_ep this)]
def nm5 (i : Nat) : ByteArray := ([⟨#[]⟩, ⟨#[97]⟩, ⟨#[97, 98, 99, 100]⟩, ⟨#[98, 97]⟩, ⟨#[122, 122]⟩] : List ByteArray).getD i ⟨#[]⟩
theorem nm5_ok : ∀ i, i < 5 → txtE (nm5 i) = false ∧ txtE (nm5 i ++ ⟨#[120]⟩) = false ∧ begins (nm5 i) (nm5 i ++ ⟨#[120]⟩) = false ∧ (nm5 i).size ≤ 4 := by decide +kernel
theorem bput_lt (L : List Rl) (r : Rl) (hs : Srt L) : (bput L r).length ≤ L.length + 1 := by
  cases hf : fhas L r.1 with
  | true => have := bput_hasLen L r hs hf; omega
  | false =>
    rw [bput_new r L hs hf, List.length_append, List.length_cons, List.length_take, List.length_drop]
    have hp := fpos_le r.1 L
    omega
theorem one_lv {s : ByteArray} {l e : Int} (h : txtE s = false) (h1 : 0 ≤ l) (h2 : l < 21) (h3 : e = 100) : oneE (s, l, e) = 0 := by
  have : numE l e = false := by
    unfold numE
    exact decide_eq_false (by omega)
  show (if txtE s then (3 : Int) else if numE l e then 1 else 0) = 0
  rw [h, this]; rfl
/-- All that the law asks of a rule of epoch 100 put to what ruled gives. -/
theorem asks_put (ls : List (List Int)) (s : ByteArray) (l : Int) (h : txtE s = false) (h1 : 0 ≤ l) (h2 : l < 21) :
    putE (ruledL ls) (s, l, 100) = 0 ∧ BdOk (bput (ruledL ls) (s, l, 100)) ∧ win (some (l, 100)) (look (ruledL ls) s) = some (l, 100) := by
  have ho := (ruled_ok (ls.take 30)).1
  have hl := ruled_len ls
  have h3 := one_lv (s := s) h h1 h2 rfl
  have hq : ∀ q ∈ ruledL ls, q.2.2 < (100 : Int) := fun q hq => by have := ruled_ep ls q hq; omega
  refine ⟨putE_new _ _ h3 (by omega) hq, bput_ok _ _ ho h3 ?_, win_new _ (s, l, 100) hq⟩
  have := bput_lt (ruledL ls) (s, l, 100) ho.srt
  omega
end Go.Proofs.Ytmlkhiffmkkmdaa
