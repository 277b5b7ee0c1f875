/- (*words).list: the numbers of a word, or a fault. -/
import Derived.Test.YtgodgfnfaiiohaaGreatDoorMgDeskWords
import Derived.Lib.SplitLaws
namespace Go.Proofs.YtgodgfnfaiiohaaGreatDoor
open Go.ChangeShapes Go.WideShapes Go.ChangeAt Go.RowKit
set_option maxRecDepth 20000
set_option linter.unusedVariables false
/-- What strings.Split makes of a text at one byte. -/
def spB (c : UInt8) (s : ByteArray) : List ByteArray := Lib.splitB ⟨#[c]⟩ 0 (Lib.countB s ⟨#[c]⟩) s
theorem spB_len (c : UInt8) (s : ByteArray) : (spB c s).length = Lib.countB s ⟨#[c]⟩ + 1 := Lib.splitB_all ⟨#[c]⟩ (Nat.le_refl 1) _ _ _ rfl
theorem spB_le (c : UInt8) (s : ByteArray) : (spB c s).length ≤ s.size + 1 := by
  rw [spB_len]
  have := Lib.countB_le ⟨#[c]⟩ (Nat.le_refl 1) s.size s (Nat.le_refl _)
  omega
theorem spB_pos (c : UInt8) (s : ByteArray) : 0 < (spB c s).length := by rw [spB_len]; omega
theorem splitB_size (sep : ByteArray) : ∀ (k : Nat) (s x : ByteArray), x ∈ Lib.splitB sep 0 k s → x.size ≤ s.size
  | 0, s, x, h => by rw [Lib.splitB_zero] at h; simp at h; subst h; exact Nat.le_refl _
  | k + 1, s, x, h => by
    unfold Lib.splitB at h
    split at h
    · simp at h; subst h; exact Nat.le_refl _
    · rcases List.mem_cons.1 h with rfl | h
      · rw [ByteArray.size_extract]; omega
      · have := splitB_size sep k _ x h
        rw [ByteArray.size_extract] at this; omega
theorem spB_size (c : UInt8) (s x : ByteArray) (h : x ∈ spB c s) : x.size ≤ s.size := splitB_size _ _ s x h
theorem wg_get (L : List ByteArray) (k : Nat) (h : k < L.length) : L[k]? = some (wg L k) := by
  unfold wg; rw [List.getD_eq_getElem?_getD, List.getElem?_eq_getElem h]; rfl
theorem wg_mem (L : List ByteArray) (k : Nat) (h : k < L.length) : wg L k ∈ L := List.mem_of_getElem? (wg_get L k h)
theorem wg_take (L : List ByteArray) (k : Nat) (h : k < L.length) : L.take (k + 1) = L.take k ++ [wg L k] := by
  rw [List.take_add_one, wg_get L k h]; rfl
theorem spl_c (c : UInt8) (s : ByteArray) (w : World) (hs : s.size ≤ 4294967280) (hT : Tabs w) :
    Calls Tryz.prog 11 #[.string s, .string ⟨#[c]⟩] w fun e w' => e = .returned (.slice (some ⟨w.heap.size, 0, none⟩) (spB c s).length (spB c s).length) ∧ Below w.heap.size w w' ∧ ∀ k, k < (spB c s).length → w'.cell? ⟨w.heap.size, k, none⟩ = some (.string (wg (spB c s) k)) := by
  obtain ⟨m, hm⟩ := hT.ml
  have SC := Tryz.strings_Split s ⟨#[c]⟩ m w (by omega) hm (Nat.le_refl 1)
  rw [← spB_len] at SC
  refine SC.mono ?_
  rintro e w' ⟨rfl, rfl⟩
  refine ⟨rfl, bal (Below.refl _ _) _, fun k hk => ?_⟩
  unfold World.cell?
  rw [heap_alloc_new]
  have : ((spB c s).map Value.string)[k]? = some (.string (wg (spB c s) k)) := by
    rw [List.getElem?_map, wg_get _ _ hk]; rfl
  unfold spB at this ⊢
  simpa using this
theorem nmb_bd {s : ByteArray} {v : Int} (h : nmb s = some v) : 0 ≤ v ∧ v ≤ 9223372036854775807 := by
  unfold nmb at h
  split at h
  · rename_i u hu
    have := atoi_bd _ _ hu
    split at h
    · cases h
    · rename_i hn
      injection h with h
      subst h
      have : ¬ u < 0 := fun e => hn (.inl e)
      omega
  · cases h
def nmv (s : ByteArray) : Int := (nmb s).getD 0
/-- The numbers of a word. -/
def lstN (s : ByteArray) : Option (List Int) := if (spB 44 s).all (fun x => (nmb x).isSome) = true then some ((spB 44 s).map nmv) else none
theorem owns_belowD {w w' : World} {base : Nat} {e : TypeId} {size : Nat} {v : Value} {n : Nat} {xs : List Value} (h : w.ownsRow base e size v n xs) (hb : Below w.heap.size w w') : w'.ownsRow base e size v n xs := by
  refine ⟨h.1, ?_⟩
  rcases h.2 with h0 | ⟨g, cap, cur, hv, hg, hh, r⟩
  · exact .inl h0
  · exact .inr ⟨g, cap, cur, hv, hg, (hb.block g (Array.getElem?_eq_some_iff.1 hh).1).trans hh, r⟩
set_option maxHeartbeats 4000000 in
theorem list_c (P : Nat) (L : List ByteArray) (n k : Nat) (w : World) (h : WdAt w P L n k) (hk : k < n) (hT : Tabs w) (hP : 8 ≤ P) (hs : (wg L k).size ≤ 65536) :
    Calls Tryz.prog 24 #[.pointer (some ⟨P, 0, none⟩)] w fun e w' => ((∃ xs v, lstN (wg L k) = some xs ∧ 1 ≤ xs.length ∧ xs.length ≤ 65537 ∧ (∀ x ∈ xs, 0 ≤ x ∧ x ≤ 9223372036854775807) ∧ e = .returned v ∧ w'.ownsRow w.heap.size 3 1 v xs.length (xs.map (Value.int .i64))) ∨ (lstN (wg L k) = none ∧ e = .panicked [faultV 9])) ∧ WdAt w' P L n (k + 1) ∧ w.grownBy w' (some P) := by
  have NX := hidp (dnext_c P L n k w h hk)
  have HT := hidp hT
  have SP := hidp (fun W hW => spl_c 44 (wg L k) W (Nat.le_trans hs (by decide)) hW)
  have LN := hidp (show lstN (wg L k) = if (spB 44 (wg L k)).all (fun x => (nmb x).isSome) = true then some ((spB 44 (wg L k)).map nmv) else none from rfl)
  have PZ := hidp (fun x hx => Nat.le_trans (spB_size 44 (wg L k) x hx) hs)
  have NB : (spB 44 (wg L k)).length ≤ 65537 := Nat.le_trans (spB_le 44 (wg L k)) (by omega)
  have N0 := spB_pos 44 (wg L k)
  generalize lstN (wg L k) = R at *
  generalize spB 44 (wg L k) = X at *
  obtain ⟨N, hN⟩ : ∃ N, N = X.length := ⟨_, rfl⟩
  have PT := hidp (fun k (hk : k < N) => wg_take X k (by omega))
  have PM := hidp (fun k (hk : k < N) => wg_mem X k (by omega))
  have HN := hidp hN
  have TN := hidp (show X.take N = X by rw [hN, List.take_length])
  rw [← hN] at SP NB N0
  have NM := hidp (fun k (hk : k < N) W (hW : Tabs W) => number_c (wg X k) W hW (Nat.le_trans (PZ.out _ (PM.out k hk)) (by omega)))
  clear h hT hs hN
  go_enter Tryz.func24, Tryz.ntmps24
  go_wp2_with fail
  refine NX.out.mono ?_
  rintro x w1 ⟨rfl, hW, hg⟩
  have HG := hidp hg
  have HW := hidp hW
  clear NX hW hg
  go_wp2_with fail
  refine (SP.out _ (HT.out.grown HG.out hP)).mono ?_
  rintro x w2 ⟨rfl, hb2, hcell⟩
  have HC := hidp hcell
  have HG2 := hidp (gb_trans HG.out (gb_of hb2 _))
  have HW2 := hidp (HW.out.below hb2)
  have HT2 := hidp (HT.out.grown HG2.out hP)
  clear SP HG HW hcell hb2
  go_wp2_with fail
  go_loopg [3, 10] N (fun gg v i wr => ∃ k : Nat, k ≤ N ∧ N - k ≤ gg ∧ i = .int .i64 k ∧ Hid (wr.ownsRow w2.heap.size 3 1 v k (((X.take k).map nmv).map (Value.int .i64))) ∧ Hid (∀ x ∈ X.take k, (nmb x).isSome = true) ∧ Below w2.heap.size w2 wr)
  case atStart => exact ⟨0, by omega, by omega, rfl, hidp (World.ownsRow_nil _ _ _ _), hidp (fun j hj => by simp at hj), Below.refl _ _⟩
  case round =>
    obtain ⟨k, hk, hgg, rfl, hv, hok, hbl⟩ := hrel
    by_cases hlt : k < N
    · have q0 := ck hbl (HC.out k hlt)
      have T1 := hidp (PT.out k hlt)
      have M1 := hidp (PM.out k hlt)
      have N1 := hidp (NM.out k hlt)
      generalize wg X k = s at *
      go_wp2_with fail
      refine (N1.out _ (HT2.out.below (hbl.mono HT2.out.size))).mono ?_
      rintro x w5 ⟨⟨y, h1, h2, h3, rfl⟩ | ⟨h1, rfl⟩, hb5⟩
      · have hv5 := hidp (owns_belowD hv.out hb5)
        have hb6 := bstep hbl hb5
        have hk2 : Hid (∀ x ∈ X.take (k + 1), (nmb x).isSome = true) := hidp (by
          rw [T1.out]
          intro x hx
          rcases List.mem_append.1 hx with hx | hx
          · exact hok.out x hx
          · simp at hx; subst hx; rw [h1]; rfl)
        have hy := hidp (show nmv s = y by unfold nmv; rw [h1]; rfl)
        clear N1 h1 hb5 hbl hv hok q0
        go_wp2_with (at_builtin; refine wpList_append_new rfl (.tmp 14) (.tmp 17) 37 rfl w2.heap.size 3 _ 1 8 info_int rfl (by decide) Tryz.underlying37 _ k _ rfl hv5.out rfl (one_int _ _) rfl rfl (by omega) (by decide) hb6.size ?_; intro v0 x0 nv g0 d0; have bl0 := append_step hv5.out hb6 (Nat.le_refl _) g0; clear g0 d0)
        have NV := hidp nv
        clear nv
        go_roundg (N - (k + 1))
        case measure => omega
        case rel => exact ⟨k + 1, by omega, by omega, by go_num, hidp (by rw [T1.out, List.map_append, List.map_append, show ([s].map nmv).map (Value.int .i64) = [Value.int .i64 y] by simp [hy.out]]; exact NV.out), hk2, bl0⟩
      · have hb6 := bstep hbl hb5
        have HR := hidp (show R = none by
          rw [LN.out, if_neg]
          intro h
          have := List.all_eq_true.1 h s M1.out
          rw [h1] at this; cases this)
        clear N1 h1 hb5 hbl hv hok q0
        go_wp2
        exact ⟨rfl, .inr ⟨HR.out, rfl⟩, HW2.out.below hb6, gb_trans HG2.out (gb_of hb6 _)⟩
    · obtain rfl : k = N := by omega
      have hv2 := hv.out
      rw [TN.out] at hv2
      have hal := hok.out
      rw [TN.out] at hal
      have HR := hidp (show R = some (X.map nmv) by rw [LN.out, if_pos (List.all_eq_true.2 hal)])
      have HV := hidp hv2
      clear hv hv2
      have HL := hidp hal
      clear hal hok
      go_wp2
      go_ret
      refine ⟨.inl ⟨_, _, HR.out, by rw [List.length_map, ← HN.out]; omega, by rw [List.length_map, ← HN.out]; omega, fun x hx => ?_, rfl, ?_⟩, HW2.out.below hbl, gb_trans HG2.out (gb_of hbl _)⟩
      · obtain ⟨s, hs, rfl⟩ := List.mem_map.1 hx
        have := HL.out s hs
        obtain ⟨v, hv⟩ := Option.isSome_iff_exists.1 this
        unfold nmv
        rw [hv]
        exact nmb_bd hv
      · rw [List.length_map, ← HN.out]
        exact owns_mono HV.out HG2.out.size
end Go.Proofs.YtgodgfnfaiiohaaGreatDoor
