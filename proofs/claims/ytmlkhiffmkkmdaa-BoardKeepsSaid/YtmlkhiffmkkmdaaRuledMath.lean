/- Plain: the rules that culkeep.ruled reads from rows. -/
import Derived.Test.YtmlkhiffmkkmdaaBoardLaw
namespace Go.Proofs.Ytmlkhiffmkkmdaa
set_option maxRecDepth 20000
def tx7 : List ByteArray := [⟨#[]⟩, ⟨#[97]⟩, ⟨#[97, 98]⟩, ⟨#[97, 98, 99]⟩, ⟨#[98]⟩, ⟨#[98, 97]⟩, ⟨#[99]⟩]
def pf7 (i : Nat) : ByteArray := tx7.getD i ⟨#[]⟩
theorem pf7_ok : ∀ i, i < 7 → txtE (pf7 i) = false := by decide +kernel
theorem pf7_mem : ∀ i, i < 7 → pf7 i ∈ tx7 := by
  intro i hi
  unfold pf7
  rw [List.getD_eq_getElem?_getD, List.getElem?_eq_getElem (by simpa [tx7] using hi)]
  exact List.getElem_mem _
/-- The rule of a row of at least three. -/
def rowR (xs : List Int) : Rl := (pf7 (wn (gi xs 0) 7), wi (gi xs 1) 21, 1 + wi (gi xs 2) 9)
theorem rowR_ok (xs : List Int) : oneE (rowR xs) = 0 ∧ (rowR xs).1 ∈ tx7 := by
  have h7 : wn (gi xs 0) 7 < 7 := by have := wn_lt (gi xs 0) 7 (by omega); omega
  have h1 := wi_lo (gi xs 1) 21 (by omega)
  have h2 := wi_hi (gi xs 1) 21 (by omega)
  have h3 := wi_lo (gi xs 2) 9 (by omega)
  have h4 := wi_hi (gi xs 2) 9 (by omega)
  refine ⟨?_, pf7_mem _ h7⟩
  unfold oneE rowR
  have : numE (wi (gi xs 1) 21) (1 + wi (gi xs 2) 9) = false := by
    unfold numE
    exact decide_eq_false (by omega)
  show (if txtE (pf7 (wn (gi xs 0) 7)) then (3 : Int) else if numE (wi (gi xs 1) 21) (1 + wi (gi xs 2) 9) then 1 else 0) = 0
  rw [pf7_ok _ h7, this]; rfl
/-- The rules of rows. -/
def rowsR : List (List Int) → List Rl
  | [] => []
  | xs :: l => if xs.length < 3 then rowsR l else rowR xs :: rowsR l
theorem rowsR_append (m : List (List Int)) : ∀ l, rowsR (l ++ m) = rowsR l ++ rowsR m
  | [] => rfl
  | xs :: l => by
    simp only [List.cons_append, rowsR]
    rw [rowsR_append m l]
    split <;> rfl
theorem rowsR_ok : ∀ (l : List (List Int)), ∀ q ∈ rowsR l, oneE q = 0 ∧ q.1 ∈ tx7
  | [], q, h => by cases h
  | xs :: l, q, h => by
    unfold rowsR at h
    split at h
    · exact rowsR_ok l q h
    · rcases List.mem_cons.1 h with e | e
      · rw [e]; exact rowR_ok xs
      · exact rowsR_ok l q e
/-- What culkeep.ruled gives. -/
def ruledL (ls : List (List Int)) : List Rl := bputs [] (rowsR (ls.take 30))
theorem bd_nil : BdOk [] := ⟨srt_nil, by simp, fun q h => by cases h⟩
theorem ruled_ok (ls : List (List Int)) : BdOk (bputs [] (rowsR ls)) ∧ ∀ q ∈ bputs [] (rowsR ls), q.1 ∈ tx7 :=
  bputs_ok tx7 (by simp [tx7]) [] _ bd_nil (rowsR_ok ls) (fun q h => by cases h)
end Go.Proofs.Ytmlkhiffmkkmdaa
