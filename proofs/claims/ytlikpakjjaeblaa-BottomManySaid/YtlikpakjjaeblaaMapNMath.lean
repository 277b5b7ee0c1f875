/- How many keys a map of draws has: plain law. -/
import Derived.Test.YtlikpakjjaeblaaMapN
import Derived.Test.YtlikpakjjaeblaaBotMath
namespace Go.Proofs.Ytlikpakjjaeblaa
theorem nd_le : ∀ (L M : List Int), L.Nodup → (∀ x ∈ L, x ∈ M) → L.length ≤ M.length
  | [], _, _, _ => Nat.zero_le _
  | x :: L, M, h, hs => by
    have hn := List.nodup_cons.1 h
    have hx := hs x (List.mem_cons_self ..)
    have h1 := nd_le L (M.erase x) hn.2 (fun y hy => (List.mem_erase_of_ne (fun e => hn.1 (by rw [← e]; exact hy))).2 (hs y (List.mem_cons_of_mem _ hy)))
    have h2 := List.length_erase_of_mem hx
    have h3 := List.length_pos_of_mem hx
    rw [List.length_cons]
    omega
theorem addN_nodup {L : List Int} (h : L.Nodup) (y : Int) : (addN L y).Nodup := by
  unfold addN
  split
  · exact h
  · rename_i hy
    exact List.nodup_append.2 ⟨h, by simp, fun a ha b hb e => by simp at hb; subst hb; exact hy (e ▸ ha)⟩
theorem addNs_nodup : ∀ (xs L : List Int), L.Nodup → (xs.foldl addN L).Nodup
  | [], _, h => h
  | x :: xs, _, h => addNs_nodup xs _ (addN_nodup h x)
theorem addNs_mem (z : Int) : ∀ (xs L : List Int), z ∈ xs.foldl addN L ↔ z ∈ L ∨ z ∈ xs
  | [], L => by simp
  | x :: xs, L => by
    show z ∈ xs.foldl addN (addN L x) ↔ _
    rw [addNs_mem z xs (addN L x), addN_mem, List.mem_cons]
    constructor
    · rintro ((h | h) | h)
      · exact .inr (.inl h)
      · exact .inl h
      · exact .inr (.inr h)
    · rintro (h | h | h)
      · exact .inl (.inr h)
      · exact .inl (.inl h)
      · exact .inr h
theorem rising_nodup {l : List Int} (h : Rising l) : l.Nodup := h.imp (fun h e => by omega)
theorem addNs_len (xs : List Int) : (xs.foldl addN []).length = (srt1 xs).length :=
  Nat.le_antisymm (nd_le _ _ (addNs_nodup xs [] List.nodup_nil) (fun x hx => (srt1_mem x xs).2 (by simpa using (addNs_mem x xs []).1 hx)))
    (nd_le _ _ (rising_nodup (srt1_rising xs)) (fun x hx => (addNs_mem x xs []).2 (.inr ((srt1_mem x xs).1 hx))))
end Go.Proofs.Ytlikpakjjaeblaa
