/- Merged: Write, Read, FewMath2, Most, BoardAsk, DeskOpC. -/
import Derived.Test.YtgodgfnfaiiohaaGreatDoorMgState
import Derived.Test.YtgodgfnfaiiohaaGreatDoorWordsMath
import Derived.Test.YtgodgfnfaiiohaaGreatDoorShelf
import Derived.Test.YtgodgfnfaiiohaaGreatDoorMgFewMath
import Derived.Test.YtgodgfnfaiiohaaGreatDoorMem
import Derived.Deep.LoopGhost
import Derived.Test.YtgodgfnfaiiohaaGreatDoorMgBoardCheck
import Derived.Test.YtgodgfnfaiiohaaGreatDoorMgDeskOpB
import Derived.Test.YtgodgfnfaiiohaaGreatDoorMgFewPutC
import Derived.Test.YtgodgfnfaiiohaaGreatDoorPond
/- Contract of state.Write. -/
namespace Go.Proofs.YtgodgfnfaiiohaaGreatDoor
open Go.ChangeShapes Go.WideShapes Go.ChangeAt Go.RowKit Go.Maps
set_option maxRecDepth 20000
def wE (L : List (ByteArray × ByteArray)) : Int := if chkE L = 0 then (if 200 < (txt L).size then 2 else 0) else chkE L
def wT (L : List (ByteArray × ByteArray)) : ByteArray := if wE L = 0 then txt L else ⟨#[]⟩
theorem wd_code (p : ByteArray × ByteArray) : p.1 ++ ⟨#[61]⟩ ++ p.2 = wd p := by
  apply ByteArray.ext
  apply Array.ext'
  unfold wd wdL
  simp [ByteArray.data_append]
theorem info_str : (Tryz.prog.info? 9).map (fun i => (i.zero, i.size, i.bytes)) = some (some (.string ⟨#[]⟩), 1, 16) := by kernel_rfl
theorem one_str (s : ByteArray) : ∀ u ∈ [Value.string s], u.oneCell' = true := by
  intro u hu
  rw [List.mem_singleton.1 hu]; rfl
theorem lens_le (B : Nat) : ∀ L : List (ByteArray × ByteArray), (∀ p ∈ L, p.1.size ≤ B ∧ p.2.size ≤ B) → Lib.lens (L.map wdL) ≤ L.length * (2 * B + 1)
  | [], _ => by simp [Lib.lens]
  | p :: l, h => by
    have ih := lens_le B l (fun q hq => h q (List.mem_cons_of_mem _ hq))
    have hp := h p (List.mem_cons_self ..)
    have e : (wdL p).length = p.1.size + 1 + p.2.size := by
      unfold wdL
      rw [List.length_append, List.length_cons, Array.length_toList, Array.length_toList]
      show p.1.size + (p.2.size + 1) = _
      omega
    have e2 : Lib.lens ((p :: l).map wdL) = (wdL p).length + Lib.lens (l.map wdL) := by simp [Lib.lens]
    rw [e2, List.length_cons, Nat.add_mul, e]
    omega
theorem txt_len (L : List (ByteArray × ByteArray)) (hn : L.length ≤ 40) (h : ∀ p ∈ L, p.1.size ≤ 2097152 ∧ p.2.size ≤ 2097152) : (Lib.join (L.map wdL) [44]).length ≤ 140737488355328 := by
  cases L with
  | nil => simp [Lib.join_nil]
  | cons p l =>
    have h1 := lens_le 2097152 (p :: l) h
    rw [List.map_cons, Lib.join_length, ← List.map_cons (f := wdL)]
    have h2 : (p :: l).length * (2 * 2097152 + 1) ≤ 40 * (2 * 2097152 + 1) := Nat.mul_le_mul hn (Nat.le_refl _)
    have h3 : ([44] : List UInt8).length * (l.map wdL).length ≤ 40 := by
      rw [List.length_map]
      simp at hn ⊢
      omega
    omega
theorem words_data (L : List (ByteArray × ByteArray)) : (L.map wd).map (fun x => x.data.toList) = L.map wdL := by
  rw [List.map_map]
  exact List.map_congr_left (fun p _ => rfl)
/-- strings.Join at an own slice of texts. -/
theorem joinS_c (S : List ByteArray) (k : Nat) (v : Value) (B : Nat) (w : World) (hl : S.length = k) (h : w.ownsRow B 9 1 v k (S.map Value.string)) (ht : (Lib.join (S.map (·.data.toList)) [44]).length ≤ 140737488355328) (hk : k ≤ 1000) :
    Calls Tryz.prog 9 #[v, .string ⟨#[44]⟩] w fun e w' => e = .returned (.string ⟨(Lib.join (S.map (·.data.toList)) [44]).toArray⟩) ∧ Below w.heap.size w w' := by
  subst hl
  obtain ⟨a, cap, rfl, h1, h2, h3⟩ := owns_cells h
  cases S with
  | nil =>
    refine (Tryz.strings_Join_none a cap ⟨#[44]⟩ w).mono ?_
    rintro e w' ⟨rfl, rfl⟩
    exact ⟨rfl, Below.refl _ _⟩
  | cons x l =>
    obtain ⟨b, off, rfl, hb, hc⟩ := h3 (by simp)
    exact Tryz.strings_Join b off cap (x :: l) ⟨#[44]⟩ w (fun j y hy => hc j _ (by rw [List.getElem?_map, hy]; rfl)) hb (by omega) h1 ht
set_option maxHeartbeats 4000000 in
theorem write_c (a : Option Addr) (n c : Nat) (L : List (ByteArray × ByteArray)) (w : World) (h : PairsAt w a n c L) (hB : ∀ p ∈ L, p.1.size ≤ 2097152 ∧ p.2.size ≤ 2097152) :
    Calls Tryz.prog 62 #[.slice a n c] w fun e w' => e = .returned (.tuple #[.string (wT L), .int .i64 (wE L)]) ∧ Below w.heap.size w w' := by
  have mm := h.max
  have ee := h.le
  have LN := hidp h.len
  have CK := hidp (stcheck_c a n c L w h)
  by_cases h0 : chkE L = 0
  case neg =>
    have e1 := hidp (show wE L = chkE L by unfold wE; rw [if_neg h0])
    have e2 := hidp (show wT L = ⟨#[]⟩ by unfold wT; rw [e1.out, if_neg h0])
    rw [e1.out, e2.out]
    have hx : (chkE L != 0) = true := by simpa using h0
    generalize chkE L = x at *
    clear h0 h hB
    go_enter Tryz.func62, Tryz.ntmps62
    go_wp2_with fail
    refine CK.out.mono ?_
    rintro e w1 ⟨rfl, hb1⟩
    go_wp2_with fail
    go_ret2
    exact ⟨rfl, hb1⟩
  case pos =>
    have hn : n ≤ 40 := by
      have := h0
      unfold chkE at this
      by_cases h40 : 40 < L.length
      · rw [if_pos h40] at this; cases this
      · rw [← LN.out]; omega
    have TL := hidp (txt_len L (by rw [LN.out]; exact hn) hB)
    rw [h0] at CK
    have WE := hidp (show wE L = if 200 < (txt L).size then 2 else 0 by unfold wE; rw [if_pos h0])
    obtain ⟨b, o, hz, hx⟩ := h.split
    have hz' : Hid (n = 0) ∨ a = some ⟨b, o, none⟩ := hz.imp_left hidp
    have HX := hidp hx
    have SZ := hidp (fun k (hk : k < n) => hB _ (pmem L k (by rw [LN.out]; exact hk)))
    have TK := hidp (fun k (hk : k < n) => ptake L k (by rw [LN.out]; exact hk))
    have TN := hidp (show L.take n = L by rw [← LN.out, List.take_length])
    clear h hB hz hx h0
    go_enter Tryz.func62, Tryz.ntmps62
    go_wp2_with fail
    refine CK.out.mono ?_
    rintro e w1 ⟨rfl, hb1⟩
    clear CK
    go_wp2_with fail
    go_loopg [5, 16] n (fun gg v i wr => ∃ k : Nat, k ≤ n ∧ n - k ≤ gg ∧ i = .int .i64 k ∧ wr.ownsRow w.heap.size 9 1 v k (((L.take k).map wd).map Value.string) ∧ Below w.heap.size w wr)
    case atStart => exact ⟨0, by omega, by omega, rfl, World.ownsRow_nil _ _ _ _, hb1⟩
    case round =>
      clear hb1
      obtain ⟨k, hk, hgg, rfl, hv, hbl⟩ := hrel
      by_cases hlt : k < n
      · obtain rfl : a = some ⟨b, o, none⟩ := hz'.resolve_left (fun e => by have := e.out; omega)
        obtain ⟨hbs, x0, x1⟩ := HX.out k hlt
        have q0 := carry_cell ⟨hbs, x0⟩ hbl
        have q1 := carry_cell ⟨hbs, x1⟩ hbl
        have T1 := hidp (TK.out k hlt)
        have W1 := hidp (wd_code (pk L k, pv L k))
        obtain ⟨z1, z2⟩ := SZ.out k hlt
        clear x0 x1
        generalize pk L k = s at *
        generalize pv L k = t at *
        go_upto_region 8 with fail
        have hv2 := hv.alloc (.cells #[.string s, .string t] 128)
        have hb2 := bal hbl (.cells #[.string s, .string t] 128)
        have r0 : (wr.alloc (.cells #[.string s, .string t] 128)).cell? ⟨wr.heap.size, 0, none⟩ = some (.string s) := by simp
        have r1 : (wr.alloc (.cells #[.string s, .string t] 128)).cell? ⟨wr.heap.size, 1, none⟩ = some (.string t) := by simp
        generalize wr.alloc (.cells #[.string s, .string t] 128) = w4 at *
        clear hv hbl q0 q1
        go_wp2_with (at_builtin; refine wpList_append_new rfl (.tmp 20) (.tmp 27) 23 rfl w.heap.size 9 _ 1 16 info_str rfl (by decide) Tryz.underlying23 _ k _ rfl hv2 rfl (one_str _) rfl rfl (by omega) (by decide) hb2.size ?_; intro v0 x0 nv g0 d0; have bl0 := append_step hv2 hb2 (Nat.le_refl _) g0; clear g0 d0 hv2 hb2)
        have NV := hidp nv
        clear nv
        go_roundg (n - (k + 1))
        case measure => omega
        case rel => exact ⟨k + 1, by omega, by omega, by go_num, by rw [T1.out, List.map_append, List.map_append]; have := NV.out; rw [show s ++ ⟨#[61]⟩ ++ t = wd (s, t) from W1.out] at this; exact this, bl0⟩
      · obtain rfl : k = n := by omega
        obtain ⟨S, hS⟩ : ∃ S, S = L.map wd := ⟨_, rfl⟩
        rw [TN.out, ← hS] at hv
        have HS := hidp hS
        have hl : S.length = k := by have := hv.1; simpa using this
        clear hS
        have JC := hidp (fun v (hvv : wr.ownsRow w.heap.size 9 1 v k (S.map Value.string)) => joinS_c S k v w.heap.size wr hl hvv (by rw [HS.out, words_data]; exact TL.out) (by omega))
        have OS := hidp hv
        have JJ := hidp (JC.out _ hv)
        have JT := hidp (show (⟨(Lib.join (S.map (fun x => x.data.toList)) [44]).toArray⟩ : ByteArray) = txt L by rw [HS.out, words_data]; rfl)
        rw [show (fun x : ByteArray => x.data.toList) = (·.data.toList) from rfl] at JT
        rw [JT.out] at JJ
        clear JC OS hv JT
        go_wp2_with fail
        refine JJ.out.mono ?_
        rintro e w5 ⟨rfl, hb5⟩
        have B5 := bstep hbl hb5
        clear JJ hb5 hbl
        by_cases h200 : 200 < (txt L).size
        · have h2 := hidp (show wE L = 2 by rw [WE.out, if_pos h200])
          have h3 := hidp (show wT L = ⟨#[]⟩ by unfold wT; rw [h2.out]; rfl)
          have h200' : (200 : Int) < ((txt L).size : Int) := by omega
          generalize txt L = T at *
          go_wp2_with fail
          go_ret2
          exact ⟨by rw [h3.out, h2.out]; rfl, B5⟩
        · have h2 := hidp (show wE L = 0 by rw [WE.out, if_neg h200])
          have h3 := hidp (show wT L = txt L by unfold wT; rw [if_pos h2.out])
          have h200' : ¬ (200 : Int) < ((txt L).size : Int) := by omega
          generalize txt L = T at *
          go_wp2_with fail
          go_ret2
          exact ⟨by rw [h3.out, h2.out]; rfl, B5⟩
end Go.Proofs.YtgodgfnfaiiohaaGreatDoor

/- Contract of state.Read. -/
namespace Go.Proofs.YtgodgfnfaiiohaaGreatDoor
open Go.ChangeShapes Go.WideShapes Go.ChangeAt Go.RowKit Go.Maps
set_option maxRecDepth 20000
def rE (s : ByteArray) : Int := if 200 < s.size then 2 else if s.size = 0 then 0 else if (pcs s).all rdOk = true then chkE (rL s) else 3
theorem sp_c (s : ByteArray) (m : Int) (w : World) (hs : s.size ≤ 200) (hm : w.cell? ⟨0, 0, none⟩ = some (.int .i64 m)) :
    Calls Tryz.prog 11 #[.string s, .string ⟨#[44]⟩] w fun e w' => e = .returned (.slice (some ⟨w.heap.size, 0, none⟩) (pcs s).length (pcs s).length) ∧ Below w.heap.size w w' ∧ ∀ k, k < (pcs s).length → w'.cell? ⟨w.heap.size, k, none⟩ = some (.string (mkB (pc (pcs s) k))) := by
  have SC := Tryz.strings_Split s ⟨#[44]⟩ m w (by omega) hm (by decide)
  rw [(split_pcs s).1, (split_pcs s).2] at SC
  refine SC.mono ?_
  rintro e w' ⟨rfl, rfl⟩
  refine ⟨rfl, bal (Below.refl _ _) _, fun k hk => ?_⟩
  unfold World.cell?
  rw [heap_alloc_new]
  have : (((pcs s).map mkB).map Value.string)[k]? = some (.string (mkB (pc (pcs s) k))) := by
    rw [List.getElem?_map, List.getElem?_map, pc_get _ _ hk]; rfl
  simpa using this
theorem ct_c (l : List UInt8) (m : Int) (w : World) (hs : l.length ≤ 200) (hm : w.cell? ⟨0, 0, none⟩ = some (.int .i64 m)) :
    Calls Tryz.prog 19 #[.string (mkB l), .string ⟨#[61]⟩] w fun e w' => e = .returned (.tuple #[.string (rdP l).1, .string (rdP l).2, .bool (rdOk l)]) ∧ ∃ n, w' = w.drewN n :=
  Tryz.strings_Cut (mkB l) ⟨#[61]⟩ m w (by show l.toArray.size < _; rw [List.size_toArray]; omega) hm
theorem all_at {P : List (List UInt8)} (h : P.all rdOk = true) (k : Nat) (hk : k < P.length) : rdOk (pc P k) = true :=
  List.all_eq_true.1 h _ (List.mem_of_getElem? (pc_get P k hk))
theorem all_of {P : List (List UInt8)} (h : ∀ k, k < P.length → rdOk (pc P k) = true) : P.all rdOk = true :=
  List.all_eq_true.2 (fun x hx => by
    obtain ⟨k, hk, rfl⟩ := List.mem_iff_getElem.1 hx
    have := h k hk
    unfold pc at this
    rwa [List.getD_eq_getElem?_getD, List.getElem?_eq_getElem hk] at this)
end Go.Proofs.YtgodgfnfaiiohaaGreatDoor

/- Few counters: plain law of the join, and of the most frequent one (Boyer, Moore). -/
namespace Go.Proofs.YtgodgfnfaiiohaaGreatDoor
set_option maxRecDepth 20000
/-- How many are x. -/
def cn (x : Int) (xs : List Int) : Nat := xs.countP (fun y => decide (y = x))
/-- Boyer, Moore. -/
def bmS (s : Int × Int) (x : Int) : Int × Int := if s.2 = 0 then (x, 1) else if x = s.1 then (s.1, s.2 + 1) else (s.1, s.2 - 1)
def bm (xs : List Int) : Int × Int := xs.foldl bmS (0, 0)
theorem bm_snoc (xs : List Int) (x : Int) : bm (xs ++ [x]) = bmS (bm xs) x := by unfold bm; rw [List.foldl_append]; rfl
theorem cn_snoc (x y : Int) (xs : List Int) : cn x (xs ++ [y]) = cn x xs + (if y = x then 1 else 0) := by
  unfold cn
  rw [List.countP_append]
  simp [List.countP_cons]
theorem bm_inv (xs : List Int) : 0 ≤ (bm xs).2 ∧ (bm xs).2 ≤ xs.length ∧ ∀ x, 2 * (cn x xs : Int) ≤ xs.length + (if x = (bm xs).1 then (bm xs).2 else - (bm xs).2) := by
  induction xs using snoc_ind with
  | h0 => exact ⟨by simp [bm], by simp [bm], fun x => by
      show 2 * ((0 : Nat) : Int) ≤ ((0 : Nat) : Int) + if x = 0 then (0 : Int) else -0
      by_cases e : x = 0
      · rw [if_pos e]; omega
      · rw [if_neg e]; omega⟩
  | h1 xs y ih =>
    obtain ⟨i1, i2, i3⟩ := ih
    rw [bm_snoc]
    generalize bm xs = s at *
    rw [List.length_append]
    refine ⟨?_, ?_, fun x => ?_⟩
    · unfold bmS
      split
      · show (0 : Int) ≤ 1; omega
      · split
        · show (0 : Int) ≤ s.2 + 1; omega
        · show (0 : Int) ≤ s.2 - 1; omega
    · unfold bmS
      simp only [List.length_singleton, Int.natCast_add]
      split
      · show (1 : Int) ≤ _; omega
      · split
        · show s.2 + 1 ≤ _; omega
        · show s.2 - 1 ≤ _; omega
    · have := i3 x
      rw [cn_snoc]
      unfold bmS
      simp only [List.length_singleton, Int.natCast_add]
      by_cases h1 : s.2 = 0
      · rw [if_pos h1]
        show _ ≤ _ + if x = y then (1 : Int) else -1
        by_cases e : x = y
        · rw [if_pos e, if_pos e.symm]; split at this <;> omega
        · rw [if_neg e, if_neg (fun h => e h.symm)]; split at this <;> omega
      · rw [if_neg h1]
        by_cases h2 : y = s.1
        · rw [if_pos h2]
          show _ ≤ _ + if x = s.1 then s.2 + 1 else -(s.2 + 1)
          by_cases e : x = s.1
          · rw [if_pos e] at this ⊢
            rw [if_pos (by rw [h2, e])]; omega
          · rw [if_neg e] at this ⊢
            rw [if_neg (by intro h; exact e (by rw [← h, h2]))]; omega
        · rw [if_neg h2]
          show _ ≤ _ + if x = s.1 then s.2 - 1 else -(s.2 - 1)
          by_cases e : x = s.1
          · rw [if_pos e] at this ⊢
            rw [if_neg (by intro h; exact h2 (by rw [h, e]))]; omega
          · rw [if_neg e] at this ⊢
            split <;> omega
/-- Who is more than half of all. -/
def mostR (xs : List Int) : Int × Bool := if xs.length < 2 * cn (bm xs).1 xs then ((bm xs).1, true) else (0, false)
end Go.Proofs.YtgodgfnfaiiohaaGreatDoor

/- Contract of few.Most. -/
namespace Go.Proofs.YtgodgfnfaiiohaaGreatDoor
open Go.ChangeShapes Go.WideShapes Go.ChangeAt Go.RowKit
set_option maxRecDepth 20000
theorem cn_le (x : Int) (xs : List Int) : cn x xs ≤ xs.length := List.countP_le_length
theorem gtake (xs : List Int) (k : Nat) (h : k < xs.length) : xs.take (k + 1) = xs.take k ++ [gi xs k] := by
  rw [List.take_add_one, gi_get xs k h]; rfl
set_option maxHeartbeats 4000000 in
theorem most_c (a : Option Addr) (n c : Nat) (xs : List Int) (w : World) (h : IntsAt w a n c xs) (hn : n ≤ 40) :
    Calls Tryz.prog 44 #[.slice a n c] w fun e w' => e = .returned (.tuple #[.int .i64 (mostR xs).1, .bool (mostR xs).2, .int .i64 0]) ∧ w = w' := by
  obtain ⟨b, o, hz, hx⟩ := h.split
  have hz' : Hid (n = 0) ∨ a = some ⟨b, o, none⟩ := hz.imp_left hidp
  have HX := hidp hx
  have mm := h.max
  have ee := h.le
  have LN := hidp h.len
  have ST := hidp (fun k (hk : k < n) => show bm (xs.take (k + 1)) = bmS (bm (xs.take k)) (gi xs k) by rw [gtake xs k (by rw [LN.out]; exact hk)]; exact bm_snoc _ _)
  have BI := hidp (fun k => show 0 ≤ (bm (xs.take k)).2 ∧ (bm (xs.take k)).2 ≤ k by
    obtain ⟨h1, h2, _⟩ := bm_inv (xs.take k)
    rw [List.length_take] at h2
    omega)
  have CT := hidp (fun x k (hk : k < n) => show cn x (xs.take (k + 1)) = cn x (xs.take k) + (if gi xs k = x then 1 else 0) by rw [gtake xs k (by rw [LN.out]; exact hk)]; exact cn_snoc _ _ _)
  have CB := hidp (fun x k => show cn x (xs.take k) ≤ k from Nat.le_trans (cn_le x _) (by rw [List.length_take]; omega))
  have TL := hidp (show xs.take n = xs by rw [← LN.out, List.take_length])
  have hn' : ¬ (40 : Int) < (n : Int) := by omega
  clear hx hz h
  go_enter Tryz.func44, Tryz.ntmps44
  go_wp2_with fail
  go_loopg [5, 6, 17] n (fun gg s5 s6 s17 wr => ∃ k : Nat, k ≤ n ∧ n - k ≤ gg ∧ s5 = .int .i64 (bm (xs.take k)).1 ∧ s6 = .int .i64 (bm (xs.take k)).2 ∧ s17 = .int .i64 k ∧ wr = w)
  case atStart => exact ⟨0, by omega, by omega, rfl, rfl, rfl, rfl⟩
  case round =>
    obtain ⟨k, hk, hgg, rfl, rfl, rfl, rfl⟩ := hrel
    by_cases hlt : k < n
    · obtain rfl : a = some ⟨b, o, none⟩ := hz'.resolve_left (fun e => by have := e.out; omega)
      have q := (HX.out k hlt).2
      have S := ST.out k hlt
      have bi := BI.out k
      obtain ⟨⟨one, m⟩, hs⟩ : ∃ s, s = bm (xs.take k) := ⟨_, rfl⟩
      rw [← hs] at S bi ⊢
      dsimp only at bi ⊢
      clear hs
      generalize gi xs k = x at *
      have WM : IntKind.i64.wrap (m - 1) = m - 1 := IntWalk.i64_in _ (by omega)
      have WP : IntKind.i64.wrap (m + 1) = m + 1 := IntWalk.i64_in _ (by omega)
      by_cases h0 : m = 0
      · have S2 := hidp (show bm (xs.take (k + 1)) = (x, 1) by rw [S]; unfold bmS; rw [if_pos h0])
        subst h0
        clear S WM WP
        go_wp2_with fail
        go_roundg (n - (k + 1))
        case measure => omega
        case rel => exact ⟨k + 1, by omega, by omega, by rw [S2.out], by rw [S2.out], by go_num, rfl⟩
      · have b0 : (m == 0) = false := by rw [beq_eq_false_iff_ne]; exact h0
        by_cases h1 : x = one
        · have S2 := hidp (show bm (xs.take (k + 1)) = (one, m + 1) by rw [S]; unfold bmS; rw [if_neg h0, if_pos h1])
          subst h1
          clear S WM
          go_wp2_with fail
          go_roundg (n - (k + 1))
          case measure => omega
          case rel => exact ⟨k + 1, by omega, by omega, by rw [S2.out], by rw [S2.out], by go_num, rfl⟩
        · have S2 := hidp (show bm (xs.take (k + 1)) = (one, m - 1) by rw [S]; unfold bmS; rw [if_neg h0, if_neg h1])
          have b1 : (x == one) = false := by rw [beq_eq_false_iff_ne]; exact h1
          clear S WP
          go_wp2_with fail
          go_roundg (n - (k + 1))
          case measure => omega
          case rel => exact ⟨k + 1, by omega, by omega, by rw [S2.out], by rw [S2.out], by go_num, rfl⟩
    · obtain rfl : k = n := by omega
      rw [TL.out]
      have MR := hidp (show mostR xs = if xs.length < 2 * cn (bm xs).1 xs then ((bm xs).1, true) else (0, false) from rfl)
      rw [LN.out] at MR
      clear ST BI
      generalize (bm xs).2 = mo at *
      generalize (bm xs).1 = one at *
      go_wp2_with fail
      go_loopg [9, 36] k (fun gg s9 s36 wx => ∃ j : Nat, j ≤ k ∧ k - j ≤ gg ∧ s9 = .int .i64 (cn one (xs.take j) : Nat) ∧ s36 = .int .i64 j ∧ wx = wr)
      case atStart => exact ⟨0, by omega, by omega, rfl, rfl, rfl⟩
      case round =>
        obtain ⟨j, hj, hgj, rfl, rfl, rfl⟩ := hrel
        by_cases hlj : j < k
        · obtain rfl : a = some ⟨b, o, none⟩ := hz'.resolve_left (fun e => by have := e.out; omega)
          have q := (HX.out j hlj).2
          have C := CT.out one j hlj
          have cb := CB.out one j
          generalize hcc : cn one (xs.take j) = cc at *
          generalize gi xs j = x at *
          clear hcc
          by_cases h1 : x = one
          · rw [if_pos h1] at C
            have C2 := hidp C
            have b1 : (x == one) = true := by rw [beq_iff_eq]; exact h1
            clear C h1
            go_wp2_with fail
            go_roundg (k - (j + 1))
            case measure => omega
            case rel => exact ⟨j + 1, by omega, by omega, by rw [C2.out]; go_num, by go_num, rfl⟩
          · rw [if_neg h1] at C
            have C2 := hidp C
            have b1 : (x == one) = false := by rw [beq_eq_false_iff_ne]; exact h1
            clear C h1
            go_wp2_with fail
            go_roundg (k - (j + 1))
            case measure => omega
            case rel => exact ⟨j + 1, by omega, by omega, by rw [C2.out]; rfl, by go_num, rfl⟩
        · obtain rfl : j = k := by omega
          rw [TL.out]
          have cb := CB.out one j
          rw [TL.out] at cb
          obtain ⟨cc, hcc⟩ : ∃ cc, cc = cn one xs := ⟨_, rfl⟩
          rw [← hcc] at cb MR ⊢
          clear hcc
          by_cases hm : j < 2 * cc
          · rw [if_pos hm] at MR
            have hm' : (j : Int) < 2 * (cc : Int) := by omega
            clear hm
            go_wp2_with fail
            go_ret3
            exact ⟨by rw [MR.out]; rfl, rfl⟩
          · rw [if_neg hm] at MR
            have hm' : ¬ (j : Int) < 2 * (cc : Int) := by omega
            clear hm
            go_wp2_with fail
            go_ret3
            exact ⟨by rw [MR.out]; rfl, rfl⟩
end Go.Proofs.YtgodgfnfaiiohaaGreatDoor

/- Contract of board.Ask at boards that may be. -/
namespace Go.Proofs.YtgodgfnfaiiohaaGreatDoor
open Go.ChangeShapes Go.WideShapes Go.ChangeAt Go.RowKit Go.Lib
set_option maxRecDepth 20000
theorem hasPrefix_c (s p : ByteArray) (w : World) :
    Calls Tryz.prog 8 #[.string s, .string p] w fun e w' => e = .returned (.bool (begins s p)) ∧ w' = w := Tryz.strings_HasPrefix s p w
/-- The best rule among the first k: its place and 1, or 0. -/
def askI (L : List Rl) (s : ByteArray) : Nat → Nat
  | 0 => 0
  | k + 1 => if begins s (rp L k) = true ∧ (askI L s k = 0 ∨ (rp L (askI L s k - 1)).size < (rp L k).size) then k + 1 else askI L s k
theorem askI_le (L : List Rl) (s : ByteArray) : ∀ k, askI L s k ≤ k
  | 0 => Nat.le_refl _
  | k + 1 => by
    unfold askI
    split
    · omega
    · have := askI_le L s k; omega
/-- What Ask says. -/
def askL (L : List Rl) (s : ByteArray) : Int := if askI L s L.length = 0 then 0 else rl L (askI L s L.length - 1)
def askE (L : List Rl) (s : ByteArray) : Int := if askI L s L.length = 0 then 4 else 0
set_option maxHeartbeats 4000000 in
theorem ask_c (a : Option Addr) (n c : Nat) (L : List Rl) (s : ByteArray) (w : World) (h : RulesAt w a n c L) (ho : BdOk L) (hs : s.size ≤ 200) :
    Calls Tryz.prog 121 #[.slice a n c, .string s] w fun e w' => e = .returned (.tuple #[.int .i64 (askL L s), .int .i64 (askE L s)]) ∧ Below w.heap.size w w' := by
  have CK := hidp (bdcheck_c a n c L w h ho)
  have mm := h.max
  have ee := h.le
  have LN := hidp h.len
  have hn : n ≤ 16 := by have := ho.len; rw [h.len] at this; exact this
  obtain ⟨b, o, hz, hx⟩ := h.split
  have hz' : Hid (n = 0) ∨ a = some ⟨b, o, none⟩ := hz.imp_left hidp
  have HX := hidp hx
  have HP := hidp (hasPrefix_c s)
  have AL := hidp (fun k => askI_le L s k)
  have AS := hidp (fun k => show askI L s (k + 1) = if begins s (rp L k) = true ∧ (askI L s k = 0 ∨ (rp L (askI L s k - 1)).size < (rp L k).size) then k + 1 else askI L s k from rfl)
  have RL := hidp (show askL L s = if askI L s n = 0 then 0 else rl L (askI L s n - 1) by rw [← LN.out]; rfl)
  have RE := hidp (show askE L s = if askI L s n = 0 then 4 else 0 by rw [← LN.out]; rfl)
  have hs2 : ¬ (200 : Int) < (s.size : Int) := by omega
  clear h hz hx ho
  go_enter Tryz.func121, Tryz.ntmps121
  go_wp2_with fail
  refine CK.out.mono ?_
  rintro e w' ⟨rfl, hb0⟩
  go_wp2_with fail
  go_loopg [7, 20] n (fun gg s7 i wr => ∃ k : Nat, k ≤ n ∧ n - k ≤ gg ∧ i = .int .i64 k ∧ s7 = .int .i64 ((askI L s k : Int) - 1) ∧ Below w.heap.size w wr)
  case atStart => exact ⟨0, by omega, by omega, rfl, rfl, hb0⟩
  case round =>
    clear hb0
    obtain ⟨k, hk, hgg, rfl, rfl, hbl⟩ := hrel
    have A1 := AL.out k
    by_cases hlt : k < n
    · obtain rfl : a = some ⟨b, o, none⟩ := hz'.resolve_left (fun e => by have := e.out; omega)
      obtain ⟨hbs, x0, x1, x2⟩ := HX.out k hlt
      have q0 := carry_cell ⟨hbs, x0⟩ hbl
      have q1 := carry_cell ⟨hbs, x1⟩ hbl
      have q2 := carry_cell ⟨hbs, x2⟩ hbl
      have S1 := hidp (AS.out k)
      clear x0 x1 x2
      rcases Nat.eq_zero_or_pos (askI L s k) with h0 | hpos
      · rw [h0]
        have S2 := hidp (show askI L s (k + 1) = if begins s (rp L k) = true then k + 1 else 0 by
          rw [S1.out, h0]
          by_cases hh : begins s (rp L k) = true
          · rw [if_pos ⟨hh, .inl rfl⟩, if_pos hh]
          · rw [if_neg (fun e => hh e.1), if_neg hh])
        clear h0 S1
        generalize rp L k = p at *
        generalize rl L k = l at *
        generalize re L k = e at *
        have hb2 : Below w.heap.size w (wr.alloc (.cells #[.string p, .int .i64 l, .int .i64 e] 146)) := bal hbl _
        have r0 : (wr.alloc (.cells #[.string p, .int .i64 l, .int .i64 e] 146)).cell? ⟨wr.heap.size, 0, none⟩ = some (.string p) := by simp
        have H1 := hidp (fun W => HP.out p W)
        cases hbg : begins s p with
        | false =>
          have S3 := hidp (show askI L s (k + 1) = 0 by rw [S2.out, hbg]; rfl)
          rw [hbg] at H1
          clear hbg
          go_wp2_with fail
          go_quiet ((go_at_call 8; exact Calls.quiet_of_same (H1.out _)))
          go_wp2_with fail
          go_roundg (n - (k + 1))
          case measure => omega
          case rel => exact ⟨k + 1, by omega, by omega, by go_num, by rw [S3.out]; rfl, below_drewN hb2 _⟩
        | true =>
          have S3 := hidp (show askI L s (k + 1) = k + 1 by rw [S2.out, hbg]; rfl)
          rw [hbg] at H1
          clear hbg
          go_wp2_with fail
          go_quiet ((go_at_call 8; exact Calls.quiet_of_same (H1.out _)))
          go_wp2_with fail
          go_roundg (n - (k + 1))
          case measure => omega
          case rel => exact ⟨k + 1, by omega, by omega, by go_num, by rw [S3.out]; go_num, below_drewN hb2 _⟩
      · obtain ⟨j, hj⟩ : ∃ j, askI L s k = j + 1 := ⟨askI L s k - 1, by omega⟩
        have hj' : j < n := by omega
        obtain ⟨_, y0, _, _⟩ := HX.out j hj'
        have p0 := carry_cell ⟨hbs, y0⟩ hbl
        have S2 := hidp (show askI L s (k + 1) = if begins s (rp L k) = true ∧ (rp L j).size < (rp L k).size then k + 1 else j + 1 by
          rw [S1.out, hj]
          show (if begins s (rp L k) = true ∧ (j + 1 = 0 ∨ (rp L j).size < (rp L k).size) then k + 1 else j + 1) = _
          by_cases hh : begins s (rp L k) = true ∧ (rp L j).size < (rp L k).size
          · rw [if_pos hh, if_pos ⟨hh.1, .inr hh.2⟩]
          · rw [if_neg hh, if_neg (fun e => hh ⟨e.1, e.2.resolve_left (by omega)⟩)])
        rw [hj, show (((j + 1 : Nat) : Int) - 1) = (j : Int) by omega]
        clear S1 hj hpos y0 A1
        generalize rp L k = p at *
        generalize rl L k = l at *
        generalize re L k = e at *
        generalize rp L j = pj at *
        have hb2 : Below w.heap.size w (wr.alloc (.cells #[.string p, .int .i64 l, .int .i64 e] 146)) := bal hbl _
        have r0 : (wr.alloc (.cells #[.string p, .int .i64 l, .int .i64 e] 146)).cell? ⟨wr.heap.size, 0, none⟩ = some (.string p) := by simp
        have p1 := ca p0 (.cells #[.string p, .int .i64 l, .int .i64 e] 146)
        have H1 := hidp (fun W => HP.out p W)
        have hj0 : ¬ (j : Int) < 0 := by omega
        cases hbg : begins s p with
        | false =>
          have S3 := hidp (show askI L s (k + 1) = j + 1 by rw [S2.out, hbg, if_neg (fun e => by cases e.1)])
          rw [hbg] at H1
          clear hbg
          go_wp2_with fail
          go_quiet ((go_at_call 8; exact Calls.quiet_of_same (H1.out _)))
          go_wp2_with fail
          go_roundg (n - (k + 1))
          case measure => omega
          case rel => exact ⟨k + 1, by omega, by omega, by go_num, by rw [S3.out]; go_num, below_drewN hb2 _⟩
        | true =>
          rw [hbg] at H1
          by_cases hsz : pj.size < p.size
          · have S3 := hidp (show askI L s (k + 1) = k + 1 by rw [S2.out, if_pos ⟨hbg, hsz⟩])
            have hsz' : (pj.size : Int) < (p.size : Int) := by omega
            clear hbg hsz
            go_wp2_with fail
            go_quiet ((go_at_call 8; exact Calls.quiet_of_same (H1.out _)))
            go_wp2_with fail
            go_roundg (n - (k + 1))
            case measure => omega
            case rel => exact ⟨k + 1, by omega, by omega, by go_num, by rw [S3.out]; go_num, below_drewN hb2 _⟩
          · have S3 := hidp (show askI L s (k + 1) = j + 1 by rw [S2.out, if_neg (fun e => hsz e.2)])
            have hsz' : ¬ (pj.size : Int) < (p.size : Int) := by omega
            clear hbg hsz
            go_wp2_with fail
            go_quiet ((go_at_call 8; exact Calls.quiet_of_same (H1.out _)))
            go_wp2_with fail
            go_roundg (n - (k + 1))
            case measure => omega
            case rel => exact ⟨k + 1, by omega, by omega, by go_num, by rw [S3.out]; go_num, below_drewN hb2 _⟩
    · obtain rfl : k = n := by omega
      rcases Nat.eq_zero_or_pos (askI L s k) with h0 | hpos
      · have T1 := hidp (show askL L s = 0 by rw [RL.out, if_pos h0])
        have T2 := hidp (show askE L s = 4 by rw [RE.out, if_pos h0])
        rw [h0]
        clear h0
        go_wp2_with fail
        go_ret2
        exact ⟨by rw [T1.out, T2.out]; rfl, hbl⟩
      · obtain ⟨j, hj⟩ : ∃ j, askI L s k = j + 1 := ⟨askI L s k - 1, by omega⟩
        have hj' : j < k := by omega
        have T1 := hidp (show askL L s = rl L j by rw [RL.out, if_neg (by omega), hj]; rfl)
        have T2 := hidp (show askE L s = 0 by rw [RE.out, if_neg (by omega)])
        obtain rfl : a = some ⟨b, o, none⟩ := hz'.resolve_left (fun e => by have := e.out; omega)
        obtain ⟨hbs, x0, x1, x2⟩ := HX.out j hj'
        have q1 := carry_cell ⟨hbs, x1⟩ hbl
        rw [hj, show (((j + 1 : Nat) : Int) - 1) = (j : Int) by omega]
        have hj0 : ¬ (j : Int) < 0 := by omega
        clear hj hpos A1 x0 x1 x2
        generalize rl L j = l at *
        go_wp2_with fail
        go_ret2
        exact ⟨by rw [T1.out, T2.out]; rfl, hbl⟩
end Go.Proofs.YtgodgfnfaiiohaaGreatDoor

/- gate.Count, few.Most, board.Ask, state.Read, few.Put, pond.Put at whatever comes, with their errors. -/
namespace Go.Proofs.YtgodgfnfaiiohaaGreatDoor
open Go.ChangeShapes Go.WideShapes Go.ChangeAt Go.RowKit
set_option maxRecDepth 20000
set_option linter.unusedVariables false
def qcoE (n t : Int) : Int := if 0 ≤ n ∧ n ≤ 1000000000000 ∧ 0 ≤ t ∧ t < 72057594037927936 then (if 72057594037927936 - t ≤ ((72057594037927936 * n.toNat / 18446744073709551616 : Nat) : Int) then 2 else if 4611686018427387904 < ((72057594037927936 * n.toNat / (72057594037927936 - t).toNat : Nat) : Int) then 2 else 0) else 1
def qcoV (n t : Int) : Int := if qcoE n t = 0 then ((72057594037927936 * n.toNat / (72057594037927936 - t).toNat : Nat) : Int) else 0
set_option maxHeartbeats 2000000 in
theorem count_x (n t : Int) (w : World) :
    Calls Tryz.prog 57 #[.int .i64 n, .int .i64 t] w fun e w' => e = .returned (.tuple #[.int .i64 (qcoV n t), .int .i64 (qcoE n t)]) ∧ Below w.heap.size w w' := by
  obtain ⟨E, hE⟩ : ∃ E, E = qcoE n t := ⟨_, rfl⟩
  obtain ⟨V, hV⟩ : ∃ V, V = qcoV n t := ⟨_, rfl⟩
  rw [← hE, ← hV]
  by_cases hb : 0 ≤ n ∧ n ≤ 1000000000000 ∧ 0 ≤ t ∧ t < 72057594037927936
  · obtain ⟨k, rfl⟩ := Int.eq_ofNat_of_zero_le hb.1
    obtain ⟨y, hy⟩ := Int.eq_ofNat_of_zero_le (show 0 ≤ 72057594037927936 - t by omega)
    have hy1 : 1 ≤ y := by omega
    have e1 : qcoE (k : Int) t = if (y : Int) ≤ ((72057594037927936 * k / 18446744073709551616 : Nat) : Int) then 2 else if 4611686018427387904 < ((72057594037927936 * k / y : Nat) : Int) then 2 else 0 := by
      unfold qcoE; rw [if_pos hb, hy]; rfl
    have e2 : qcoV (k : Int) t = if qcoE (k : Int) t = 0 then ((72057594037927936 * k / y : Nat) : Int) else 0 := by
      unfold qcoV; rw [hy]; rfl
    rw [e1] at hE
    rw [e2, e1] at hV
    clear e1 e2
    have t1 := hb.2.2.1
    have t2 := hb.2.2.2
    have hk1 : (k : Int) ≤ 1000000000000 := hb.2.1
    have hk : k ≤ 1000000000000 := by omega
    have hy2 : y ≤ 72057594037927936 := by omega
    have CM := hidp (fun W => Tryz.bits_Mul64 72057594037927936 k (by omega) (by omega) W)
    have CD := hidp (fun (hlt : 72057594037927936 * k / 18446744073709551616 < y) W => div_c (72057594037927936 * k / 18446744073709551616) (72057594037927936 * k % 18446744073709551616) y (by omega) (by omega) hlt (Nat.mod_lt _ (by omega)) W)
    rw [hl k] at CD
    have hH : 72057594037927936 * k / 18446744073709551616 < 18446744073709551616 := by omega
    clear hb
    generalize 72057594037927936 * k / 18446744073709551616 = H at *
    generalize 72057594037927936 * k % 18446744073709551616 = L at *
    generalize 72057594037927936 * k / y = q at *
    generalize 72057594037927936 * k % y = r at *
    by_cases hg : (y : Int) ≤ (H : Int)
    · rw [if_pos hg] at hE
      rw [if_pos hg, if_neg (by decide)] at hV
      subst hE hV
      clear CD
      go_enter Tryz.func57, Tryz.ntmps57
      go_wp2_with (go_at_call 91; go_in)
      refine (CM.out _).mono ?_; rintro e w' ⟨rfl, rfl⟩
      go_wp2_with fail
      go_ret2
      exact ⟨rfl, Below.refl _ _⟩
    · rw [if_neg hg] at hE
      rw [if_neg hg] at hV
      have CD2 := hidp (CD.out (by omega))
      clear CD
      by_cases hq : (4611686018427387904 : Int) < (q : Int)
      · rw [if_pos hq] at hE
        rw [if_pos hq, if_neg (by decide)] at hV
        subst hE hV
        go_enter Tryz.func57, Tryz.ntmps57
        go_wp2_with (go_at_call 91; go_in)
        refine (CM.out _).mono ?_; rintro e w' ⟨rfl, rfl⟩
        go_wp2_with fail
        refine (CD2.out _).mono ?_; rintro e w' ⟨rfl, k, rfl⟩
        go_wp2_with fail
        go_ret2
        exact ⟨rfl, below_drewN (Below.refl _ _) _⟩
      · rw [if_neg hq] at hE
        rw [if_neg hq, if_pos rfl] at hV
        have HV := hidp hV
        have HE := hidp hE
        clear hV hE
        go_enter Tryz.func57, Tryz.ntmps57
        go_wp2_with (go_at_call 91; go_in)
        refine (CM.out _).mono ?_; rintro e w' ⟨rfl, rfl⟩
        go_wp2_with fail
        refine (CD2.out _).mono ?_; rintro e w' ⟨rfl, k, rfl⟩
        go_wp2_with fail
        go_ret2
        exact ⟨ret_tup_ii HV.out.symm HE.out.symm, below_drewN (Below.refl _ _) _⟩
  · have e1 : E = 1 := by rw [hE]; unfold qcoE; rw [if_neg hb]
    have e2 : V = 0 := by rw [hV]; unfold qcoV; rw [if_neg (by rw [← hE, e1]; decide)]
    subst e1 e2
    clear hE hV
    by_cases h1 : n < 0
    · clear hb
      go_enter Tryz.func57, Tryz.ntmps57
      go_wp2_with (go_at_call 91; go_in)
      go_ret2
      exact ⟨rfl, Below.refl _ _⟩
    · by_cases h2 : 1000000000000 < n
      · clear hb
        go_enter Tryz.func57, Tryz.ntmps57
        go_wp2_with (go_at_call 91; go_in)
        go_ret2
        exact ⟨rfl, Below.refl _ _⟩
      · by_cases h3 : t < 0
        · clear hb
          go_enter Tryz.func57, Tryz.ntmps57
          go_wp2_with (go_at_call 91; go_in)
          go_ret2
          exact ⟨rfl, Below.refl _ _⟩
        · have h4 := decide_eq_false (show ¬ t < 72057594037927936 by omega)
          clear hb
          go_enter Tryz.func57, Tryz.ntmps57
          go_wp2_with (go_at_call 91; go_in)
          go_ret2
          exact ⟨rfl, Below.refl _ _⟩
def qmoR (xs : List Int) (n : Nat) : Int × Bool := if n ≤ 40 then mostR xs else (0, false)
def qmoE (n : Nat) : Int := if n ≤ 40 then 0 else 2
theorem most_x (a : Option Addr) (n c : Nat) (xs : List Int) (w : World) (h : IntsAt w a n c xs) :
    Calls Tryz.prog 44 #[.slice a n c] w fun e w' => e = .returned (.tuple #[.int .i64 (qmoR xs n).1, .bool (qmoR xs n).2, .int .i64 (qmoE n)]) ∧ w = w' := by
  unfold qmoR qmoE
  by_cases hn : n ≤ 40
  · rw [if_pos hn, if_pos hn]
    exact most_c a n c xs w h hn
  · rw [if_neg hn, if_neg hn]
    have h40 : (40 : Int) < (n : Int) := by omega
    clear h hn
    go_enter Tryz.func44, Tryz.ntmps44
    go_wp2_with fail
    go_ret3
    exact ⟨rfl, rfl⟩
def qasE (L : List Rl) (s : ByteArray) : Int := if s.size ≤ 200 then askE L s else 2
def qasV (L : List Rl) (s : ByteArray) : Int := if s.size ≤ 200 then askL L s else 0
theorem dask_x (a : Option Addr) (n c : Nat) (L : List Rl) (s : ByteArray) (w : World) (h : RulesAt w a n c L) (ho : BdOk L) :
    Calls Tryz.prog 121 #[.slice a n c, .string s] w fun e w' => e = .returned (.tuple #[.int .i64 (qasV L s), .int .i64 (qasE L s)]) ∧ Below w.heap.size w w' := by
  unfold qasV qasE
  by_cases hs : s.size ≤ 200
  · rw [if_pos hs, if_pos hs]
    exact ask_c a n c L s w h ho hs
  · rw [if_neg hs, if_neg hs]
    have CK := hidp (bdcheck_c a n c L w h ho)
    have h200 : (200 : Int) < (s.size : Int) := by omega
    clear h ho hs
    go_enter Tryz.func121, Tryz.ntmps121
    go_wp2_with fail
    refine CK.out.mono ?_
    rintro e w' ⟨rfl, hb0⟩
    go_wp2_with fail
    go_ret2
    exact ⟨rfl, hb0⟩
set_option maxHeartbeats 4000000 in
theorem read_x (s : ByteArray) (m : Int) (w : World) (hm : w.cell? ⟨0, 0, none⟩ = some (.int .i64 m)) :
    Calls Tryz.prog 59 #[.string s] w fun e w' => ((rE s = 0 ∧ ∃ a c, e = .returned (.tuple #[.slice a (rL s).length c, .int .i64 0]) ∧ PairsAt w' a (rL s).length c (rL s)) ∨ (rE s ≠ 0 ∧ e = .returned (.tuple #[.slice none 0 0, .int .i64 (rE s)]))) ∧ Below w.heap.size w w' := by
  by_cases h200 : 200 < s.size
  · have h2 := hidp (show rE s = 2 by unfold rE; rw [if_pos h200])
    have h200' : (200 : Int) < (s.size : Int) := by omega
    go_enter Tryz.func59, Tryz.ntmps59
    go_wp2_with fail
    go_ret2
    exact ⟨.inr ⟨by rw [h2.out]; decide, by rw [h2.out]; rfl⟩, Below.refl _ _⟩
  have h200' : ¬ (200 : Int) < (s.size : Int) := by omega
  by_cases h0 : s.size = 0
  · have h2 := hidp (show rE s = 0 by unfold rE; rw [if_neg h200, if_pos h0])
    have h3 := hidp (show rL s = [] by unfold rL; rw [if_pos h0])
    obtain ⟨e0, e1⟩ := eq_empty1 s h0
    go_enter Tryz.func59, Tryz.ntmps59
    go_wp2_with fail
    go_ret2
    exact ⟨.inl ⟨h2.out, none, 0, by rw [h3.out]; rfl, by rw [h3.out]; exact ⟨rfl, Nat.le_refl _, by omega, fun h => by simp at h, fun p hp => by simp at hp⟩⟩, Below.refl _ _⟩
  obtain ⟨e0, e1⟩ := eq_empty0 s h0
  have RE := hidp (show rE s = if (pcs s).all rdOk = true then chkE (rL s) else 3 by unfold rE; rw [if_neg h200, if_neg h0])
  have RL := hidp (show rL s = (pcs s).map rdP by unfold rL; rw [if_neg h0])
  have SP := hidp (sp_c s m w (by omega) hm)
  have PZ := hidp (fun (x : List UInt8) hx => Nat.le_trans (pcs_size s x hx) (show s.size ≤ 200 by omega))
  have LB := hidp (fun p hp => (rdP_size s p hp))
  have NB : (pcs s).length ≤ 201 := by
    rw [pcs_len]
    have := List.count_le_length (a := 44) (l := s.data.toList)
    rw [Array.length_toList] at this
    show _ + 1 ≤ _
    have e : s.data.size = s.size := rfl
    omega
  have ms : s.size ≤ 200 := by omega
  generalize hP : pcs s = P at *
  obtain ⟨N, hN⟩ : ∃ N, N = P.length := ⟨_, rfl⟩
  have HN := hidp hN
  rw [← hN] at SP NB
  have PT := hidp (fun k (hk : k < N) => pc_take P k (by omega))
  have PL := hidp (fun k (hk : k < N) => PZ.out (pc P k) (List.mem_of_getElem? (pc_get P k (by omega))))
  have AL := hidp (fun (h : ∀ k, k < N → rdOk (pc P k) = true) => all_of (P := P) (fun k hk => h k (by omega)))
  have AN := hidp (fun (h : P.all rdOk = true) k (hk : k < N) => all_at h k (by omega))
  have TN := hidp (show P.take N = P by rw [hN, List.take_length])
  clear hN hP h0 h200 PZ
  go_enter Tryz.func59, Tryz.ntmps59
  go_wp2_with fail
  refine SP.out.mono ?_
  rintro e w2 ⟨rfl, hb2, hcell⟩
  have HC := hidp hcell
  have hm2 := ck hb2 hm
  clear hcell SP
  go_wp2_with fail
  go_loopg [4, 19] N (fun gg v i wr => ∃ k : Nat, k ≤ N ∧ N - k ≤ gg ∧ i = .int .i64 k ∧ Hid (wr.ownsRow w2.heap.size 128 2 v k (psV ((P.take k).map rdP))) ∧ Hid (∀ j, j < k → rdOk (pc P j) = true) ∧ Below w2.heap.size w2 wr)
  case atStart => exact ⟨0, by omega, by omega, rfl, hidp (World.ownsRow_nil _ _ _ _), hidp (fun j hj => by omega), Below.refl _ _⟩
  case round =>
    obtain ⟨k, hk, hgg, rfl, hv, hok, hbl⟩ := hrel
    by_cases hlt : k < N
    · have q0 := ck hbl (HC.out k hlt)
      have hmr := ck hbl hm2
      have CC := hidp (fun W h => ct_c (pc P k) m W (PL.out k hlt) h)
      have T1 := hidp (PT.out k hlt)
      have ANk := hidp (fun h => AN.out h k hlt)
      have OK2 := hidp (fun (h : rdOk (pc P k) = true) j (hj : j < k + 1) => show rdOk (pc P j) = true from by
        rcases Nat.lt_or_ge j k with h1 | h1
        · exact hok.out j h1
        · obtain rfl : j = k := by omega
          exact h)
      clear HC PT PL hok
      generalize hx : mkB (pc P k) = x at *
      clear hx
      generalize pc P k = l at *
      go_wp2_with fail
      refine (CC.out _ hmr).mono ?_
      rintro e w5 ⟨rfl, nq, hw5⟩
      have hv5 : Hid (w5.ownsRow w2.heap.size 128 2 u4 k (psV ((P.take k).map rdP))) := hidp (by rw [hw5]; exact hv.out)
      have hb5 : Below w2.heap.size w2 w5 := by rw [hw5]; exact below_drewN hbl nq
      clear hw5 hv hbl CC hmr q0
      cases hrd : rdOk l with
      | false =>
        have h3 := hidp (show rE s = 3 by
          rw [RE.out, if_neg]
          intro h
          have := ANk.out h
          rw [hrd] at this; cases this)
        have B5 := bstep hb2 hb5
        clear hrd OK2 ANk hv5
        go_wp2_with fail
        go_ret2
        exact ⟨.inr ⟨by rw [h3.out]; decide, by rw [h3.out]; rfl⟩, B5⟩
      | true =>
        have OK3 := hidp (OK2.out hrd)
        have hP1 := hidp (show rdP l = ((rdP l).1, (rdP l).2) from rfl)
        clear hrd OK2 ANk
        generalize (rdP l).1 = x1 at *
        generalize (rdP l).2 = x2 at *
        have hv6 := hv5.out
        go_wp2_with (at_builtin; refine wpList_append_new rfl (.tmp 31) (.tmp 35) 98 rfl w2.heap.size 128 _ 2 32 info_pair rfl (by decide) Tryz.underlying98 _ k _ rfl hv5.out rfl (one_twoS _ _) rfl rfl (by omega) (by decide) hb5.size ?_; intro v0 x0 nv g0 d0; have bl0 := append_step hv5.out hb5 (Nat.le_refl _) g0; clear g0 d0)
        have NV := hidp nv
        clear nv hv6
        go_roundg (N - (k + 1))
        case measure => omega
        case rel => exact ⟨k + 1, by omega, by omega, by go_num, hidp (by rw [T1.out, List.map_append, psV_append, show psV (List.map rdP [l]) = [Value.string x1, Value.string x2] from by show psV [rdP l] = _; rw [hP1.out]; rfl]; exact NV.out), OK3, bl0⟩
    · obtain rfl : k = N := by omega
      have hv2 := hv.out
      rw [TN.out, ← RL.out] at hv2
      have hlen := hidp (show k = (rL s).length by rw [RL.out, List.length_map]; exact HN.out)
      have hsz : ∀ p ∈ rL s, p.1.size ≤ 9223372036854775807 ∧ p.2.size ≤ 9223372036854775807 := fun p hp => by
        rw [RL.out] at hp
        have := LB.out p hp
        omega
      have hall := AL.out hok.out
      have RE2 := hidp (show rE s = chkE (rL s) by rw [RE.out, if_pos hall])
      clear RE RL LB AL AN PT PL TN HN hok hv HC hall
      obtain ⟨L, hL⟩ : ∃ L, L = rL s := ⟨_, rfl⟩
      rw [← hL] at hv2 hlen hsz RE2
      have HL := hidp hL
      clear hL
      obtain ⟨av, cv, rfl, hP⟩ := owns_pairs hv2 hsz
      have CK := hidp (stcheck_c av k cv L wr hP)
      have HP := hidp hP
      have B3 := bstep hb2 hbl
      clear hv2 hP hsz hbl hb2
      go_wp2_with fail
      refine CK.out.mono ?_
      rintro e w6 ⟨rfl, hb6⟩
      have B6 := bstep B3 hb6
      have HP6 := hidp (HP.out.below hb6)
      clear CK HP hb6 B3
      by_cases hc : chkE L = 0
      · have hc2 := hidp hc
        rw [hc]
        have RE3 := hidp (RE2.out.trans hc)
        clear hc RE2
        go_wp2_with fail
        go_ret2
        exact ⟨.inl ⟨RE3.out, av, cv, by rw [← HL.out, ← hlen.out]; rfl, by rw [← HL.out, ← hlen.out]; exact HP6.out⟩, B6⟩
      · have hx : (chkE L != 0) = true := by simpa using hc
        have RE3 := hidp (show rE s ≠ 0 by rw [RE2.out]; exact hc)
        have RE4 := RE2
        have hc2 := hidp hc
        clear hc RE2
        generalize chkE L = x at *
        go_wp2_with fail
        go_ret2
        exact ⟨.inr ⟨RE3.out, by rw [RE4.out]; rfl⟩, B6⟩
theorem qres_at3 {W W' : World} {P : Nat} (h0 : W.cell? ⟨P, 0, none⟩ = some (.int .i64 0)) (h1 : W.cell? ⟨P, 1, none⟩ = some (.int .i64 0)) (h2 : W.cell? ⟨P, 2, none⟩ = some (.slice none 0 0)) (z : ∀ o, W.frozen? ⟨P, o, none⟩ = false) (hB : Below W.heap.size W W') :
    W'.cell? ⟨P, 0, none⟩ = some (.int .i64 0) ∧ W'.cell? ⟨P, 1, none⟩ = some (.int .i64 0) ∧ W'.cell? ⟨P, 2, none⟩ = some (.slice none 0 0) ∧ ∀ o, W'.frozen? ⟨P, o, none⟩ = false :=
  ⟨ck hB h0, ck hB h1, ck hB h2, fun o => (hB.frozen (p := ⟨P, o, none⟩) (ltc h0)).trans (z o)⟩
set_option maxHeartbeats 4000000 in
theorem fput_no3 (K lo : Int) (a : Option Addr) (n c : Nat) (L : List (Int × Int)) (k x : Int) (w : World) (h : CntAt w a n c L) (hE : FewOkZ K lo L) (hx : x < 1 ∨ 1000000000000 < x) :
    Calls Tryz.prog 115 #[fewV K lo a n c, .int .i64 k, .int .i64 x] w fun e w' => e = .returned (.tuple #[fewV 0 0 none 0 0, .int .i64 1]) ∧ Below w.heap.size w w' := by
  have CK := hidp (fun W (hB : Below w.heap.size w W) => fcheck_g K lo a n c L W (h.below hB))
  have HE := hidp hE
  clear h hE
  unfold fewV at *
  by_cases hx1 : x < 1
  · clear hx
    go_enter Tryz.func115, Tryz.ntmps115
    go_wp2_with fail
    refine (CK.out _ (bal (bal (Below.refl _ _) _) _)).mono ?_
    rintro e wa ⟨er, rfl, hB, hi⟩
    obtain rfl : er = 0 := hi.2 HE.out
    have hb2 : Below w.heap.size w wa := bstep (bal (bal (Below.refl _ _) _) _) hB
    obtain ⟨x0, x1, x2, z⟩ := qres_at3 (P := w.heap.size + 1) (by go_simp) (by go_simp) (by go_simp) (fun o => by go_simp) hB
    have z0 := z 0
    have z1 := z 1
    have z2 := z 2
    clear CK hB z hi
    go_wp2_with fail
    obtain ⟨t0, t1, t2⟩ := res3 (.int .i64 0) (.int .i64 0) (.slice none 0 0) x0 x1 x2
    exact bodyPost_ret (v := .tuple #[.agg #[.int .i64 0, .int .i64 0, .slice none 0 0], .int .i64 1]) (by simp [results, Tryz.results115, go_sem, t0, t1, t2]) rfl ⟨rfl, below_set3 hb2 _ (Nat.le_succ _) _ _ _⟩
  · have hx2 := hx.resolve_left hx1
    clear hx
    go_enter Tryz.func115, Tryz.ntmps115
    go_wp2_with fail
    refine (CK.out _ (bal (bal (Below.refl _ _) _) _)).mono ?_
    rintro e wa ⟨er, rfl, hB, hi⟩
    obtain rfl : er = 0 := hi.2 HE.out
    have hb2 : Below w.heap.size w wa := bstep (bal (bal (Below.refl _ _) _) _) hB
    obtain ⟨x0, x1, x2, z⟩ := qres_at3 (P := w.heap.size + 1) (by go_simp) (by go_simp) (by go_simp) (fun o => by go_simp) hB
    have z0 := z 0
    have z1 := z 1
    have z2 := z 2
    clear CK hB z hi
    go_wp2_with fail
    obtain ⟨t0, t1, t2⟩ := res3 (.int .i64 0) (.int .i64 0) (.slice none 0 0) x0 x1 x2
    exact bodyPost_ret (v := .tuple #[.agg #[.int .i64 0, .int .i64 0, .slice none 0 0], .int .i64 1]) (by simp [results, Tryz.results115, go_sem, t0, t1, t2]) rfl ⟨rfl, below_set3 hb2 _ (Nat.le_succ _) _ _ _⟩
def qpoE (S d : Int) : Int := if S = 1000000000000 then 2 else if d < 0 ∨ S < d then 1 else 0
set_option maxHeartbeats 4000000 in
theorem pput_bad (K S x d : Int) (a : Option Addr) (n c : Nat) (w : World) (hK0 : 1 ≤ K) (hK1 : K ≤ 16) (hS0 : 0 ≤ S) (hS1 : S ≤ 1000000000000) (hn : min K S = (n : Int)) (hE : qpoE S d ≠ 0) :
    Calls Tryz.prog 109 #[.agg #[.int .i64 K, .int .i64 S, .slice a n c], .int .i64 x, .int .i64 d] w fun e w' => e = .returned (.tuple #[.agg #[.int .i64 0, .int .i64 0, .slice none 0 0], .int .i64 (qpoE S d)]) ∧ Below w.heap.size w w' := by
  have CK := hidp (pcheck_c K S a n c)
  have HN := hidp hn
  obtain ⟨E, hE2⟩ : ∃ E, E = qpoE S d := ⟨_, rfl⟩
  rw [← hE2] at hE ⊢
  unfold qpoE at hE2
  have b1 : Below w.heap.size w ((w.alloc (.cells #[.int .i64 K, .int .i64 S, .slice a n c] 39)).alloc (.cells #[.int .i64 0, .int .i64 0, .slice none 0 0] 39)) := bal (bal (Below.refl _ _) _) _
  by_cases h1 : S = 1000000000000
  · rw [if_pos h1] at hE2
    subst hE2 h1
    clear hn hE
    go_enter Tryz.func109, Tryz.ntmps109
    go_wp2_with fail
    refine (CK.out _ hK0 hK1 (by omega) (by omega) HN.out).mono ?_
    rintro e wa ⟨rfl, hB⟩
    have hb2 : Below w.heap.size w wa := bstep b1 hB
    obtain ⟨x0, x1, x2, z⟩ := qres_at3 (P := w.heap.size + 1) (by go_simp) (by go_simp) (by go_simp) (fun o => by go_simp) hB
    have z0 := z 0
    have z1 := z 1
    have z2 := z 2
    have y1 := ck hB (show ((w.alloc (.cells #[.int .i64 K, .int .i64 1000000000000, .slice a n c] 39)).alloc (.cells #[.int .i64 0, .int .i64 0, .slice none 0 0] 39)).cell? ⟨w.heap.size, 1, none⟩ = some (.int .i64 1000000000000) by go_simp)
    clear CK hB z
    go_wp2_with fail
    obtain ⟨t0, t1, t2⟩ := res3 (.int .i64 0) (.int .i64 0) (.slice none 0 0) x0 x1 x2
    exact bodyPost_ret (v := .tuple #[.agg #[.int .i64 0, .int .i64 0, .slice none 0 0], .int .i64 2]) (by simp [results, Tryz.results109, go_sem, t0, t1, t2]) rfl ⟨rfl, below_set3 hb2 _ (Nat.le_succ _) _ _ _⟩
  · rw [if_neg h1] at hE2
    have hSne : (S == 1000000000000) = false := by rw [beq_eq_false_iff_ne]; exact h1
    by_cases h2 : d < 0
    · rw [if_pos (.inl h2)] at hE2
      subst hE2
      clear hn hE
      go_enter Tryz.func109, Tryz.ntmps109
      go_wp2_with fail
      refine (CK.out _ hK0 hK1 (by omega) (by omega) HN.out).mono ?_
      rintro e wa ⟨rfl, hB⟩
      have hb2 : Below w.heap.size w wa := bstep b1 hB
      obtain ⟨x0, x1, x2, z⟩ := qres_at3 (P := w.heap.size + 1) (by go_simp) (by go_simp) (by go_simp) (fun o => by go_simp) hB
      have z0 := z 0
      have z1 := z 1
      have z2 := z 2
      have y1 := ck hB (show ((w.alloc (.cells #[.int .i64 K, .int .i64 S, .slice a n c] 39)).alloc (.cells #[.int .i64 0, .int .i64 0, .slice none 0 0] 39)).cell? ⟨w.heap.size, 1, none⟩ = some (.int .i64 S) by go_simp)
      clear CK hB z
      go_wp2_with fail
      obtain ⟨t0, t1, t2⟩ := res3 (.int .i64 0) (.int .i64 0) (.slice none 0 0) x0 x1 x2
      exact bodyPost_ret (v := .tuple #[.agg #[.int .i64 0, .int .i64 0, .slice none 0 0], .int .i64 1]) (by simp [results, Tryz.results109, go_sem, t0, t1, t2]) rfl ⟨rfl, below_set3 hb2 _ (Nat.le_succ _) _ _ _⟩
    · have h3 : S < d := Classical.byContradiction fun hh => hE (by rw [hE2, if_neg (fun e => e.elim h2 hh)])
      rw [if_pos (.inr h3)] at hE2
      subst hE2
      clear hn hE
      go_enter Tryz.func109, Tryz.ntmps109
      go_wp2_with fail
      refine (CK.out _ hK0 hK1 (by omega) (by omega) HN.out).mono ?_
      rintro e wa ⟨rfl, hB⟩
      have hb2 : Below w.heap.size w wa := bstep b1 hB
      obtain ⟨x0, x1, x2, z⟩ := qres_at3 (P := w.heap.size + 1) (by go_simp) (by go_simp) (by go_simp) (fun o => by go_simp) hB
      have z0 := z 0
      have z1 := z 1
      have z2 := z 2
      have y1 := ck hB (show ((w.alloc (.cells #[.int .i64 K, .int .i64 S, .slice a n c] 39)).alloc (.cells #[.int .i64 0, .int .i64 0, .slice none 0 0] 39)).cell? ⟨w.heap.size, 1, none⟩ = some (.int .i64 S) by go_simp)
      clear CK hB z
      go_wp2_with fail
      obtain ⟨t0, t1, t2⟩ := res3 (.int .i64 0) (.int .i64 0) (.slice none 0 0) x0 x1 x2
      exact bodyPost_ret (v := .tuple #[.agg #[.int .i64 0, .int .i64 0, .slice none 0 0], .int .i64 1]) (by simp [results, Tryz.results109, go_sem, t0, t1, t2]) rfl ⟨rfl, below_set3 hb2 _ (Nat.le_succ _) _ _ _⟩
end Go.Proofs.YtgodgfnfaiiohaaGreatDoor
