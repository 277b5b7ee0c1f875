/- Contract of state.Write. -/
import Derived.Test.YtdfghgeccannnaaDoorState
import Derived.Test.YtdfghgeccannnaaDoorWordsMath
import Derived.Test.YtdfghgeccannnaaDoorShelf
namespace Go.Proofs.YtdfghgeccannnaaDoor
open Go.ChangeShapes Go.WideShapes Go.ChangeAt Go.RowKit Go.Maps
set_option maxRecDepth 20000
def wE (L : List (ByteArray × ByteArray)) : Int := if chkE L = 0 then (if 200 < (txt L).size then 2 else 0) else chkE L
def wT (L : List (ByteArray × ByteArray)) : ByteArray := if wE L = 0 then txt L else ⟨#[]⟩
theorem wd_code (p : ByteArray × ByteArray) : p.1 ++ ⟨#[61]⟩ ++ p.2 = wd p := by
  apply ByteArray.ext
  apply Array.ext'
  unfold wd wdL
  simp [ByteArray.data_append]
theorem info_str : (Tryd.prog.info? 9).map (fun i => (i.zero, i.size, i.bytes)) = some (some (.string ⟨#[]⟩), 1, 16) := by kernel_rfl
theorem one_str (s : ByteArray) : ∀ u ∈ [Value.string s], u.oneCell' = true := by
  intro u hu
  rw [List.mem_singleton.1 hu]; rfl
theorem lens_le (B : Nat) : ∀ L : List (ByteArray × ByteArray), (∀ p ∈ L, p.1.size ≤ B ∧ p.2.size ≤ B) → Lib.lens (L.map wdL) ≤ L.length * (2 * B + 1)
  | [], _ => by simp [Lib.lens]
  | p :: l, h => by
    have ih := lens_le B l (fun q hq => h q (List.mem_cons_of_mem _ hq))
    have hp := h p (List.mem_cons_self ..)
    have e : (wdL p).length = p.1.size + 1 + p.2.size := by
      unfold wdL
      rw [List.length_append, List.length_cons, Array.length_toList, Array.length_toList]
      show p.1.size + (p.2.size + 1) = _
      omega
    have e2 : Lib.lens ((p :: l).map wdL) = (wdL p).length + Lib.lens (l.map wdL) := by simp [Lib.lens]
    rw [e2, List.length_cons, Nat.add_mul, e]
    omega
theorem txt_len (L : List (ByteArray × ByteArray)) (hn : L.length ≤ 40) (h : ∀ p ∈ L, p.1.size ≤ 2097152 ∧ p.2.size ≤ 2097152) : (Lib.join (L.map wdL) [44]).length ≤ 140737488355328 := by
  cases L with
  | nil => simp [Lib.join_nil]
  | cons p l =>
    have h1 := lens_le 2097152 (p :: l) h
    rw [List.map_cons, Lib.join_length, ← List.map_cons (f := wdL)]
    have h2 : (p :: l).length * (2 * 2097152 + 1) ≤ 40 * (2 * 2097152 + 1) := Nat.mul_le_mul hn (Nat.le_refl _)
    have h3 : ([44] : List UInt8).length * (l.map wdL).length ≤ 40 := by
      rw [List.length_map]
      simp at hn ⊢
      omega
    omega
theorem words_data (L : List (ByteArray × ByteArray)) : (L.map wd).map (fun x => x.data.toList) = L.map wdL := by
  rw [List.map_map]
  exact List.map_congr_left (fun p _ => rfl)
/-- strings.Join at an own slice of texts. -/
theorem joinS_c (S : List ByteArray) (k : Nat) (v : Value) (B : Nat) (w : World) (hl : S.length = k) (h : w.ownsRow B 9 1 v k (S.map Value.string)) (ht : (Lib.join (S.map (·.data.toList)) [44]).length ≤ 140737488355328) (hk : k ≤ 1000) :
    Calls Tryd.prog 41 #[v, .string ⟨#[44]⟩] w fun e w' => e = .returned (.string ⟨(Lib.join (S.map (·.data.toList)) [44]).toArray⟩) ∧ Below w.heap.size w w' := by
  subst hl
  obtain ⟨a, cap, rfl, h1, h2, h3⟩ := owns_cells h
  cases S with
  | nil =>
    refine (Tryd.strings_Join_none a cap ⟨#[44]⟩ w).mono ?_
    rintro e w' ⟨rfl, rfl⟩
    exact ⟨rfl, Below.refl _ _⟩
  | cons x l =>
    obtain ⟨b, off, rfl, hb, hc⟩ := h3 (by simp)
    exact Tryd.strings_Join b off cap (x :: l) ⟨#[44]⟩ w (fun j y hy => hc j _ (by rw [List.getElem?_map, hy]; rfl)) hb (by omega) h1 ht
set_option maxHeartbeats 4000000 in
theorem write_c (a : Option Addr) (n c : Nat) (L : List (ByteArray × ByteArray)) (w : World) (h : PairsAt w a n c L) (hB : ∀ p ∈ L, p.1.size ≤ 2097152 ∧ p.2.size ≤ 2097152) :
    Calls Tryd.prog 11 #[.slice a n c] w fun e w' => e = .returned (.tuple #[.string (wT L), .int .i64 (wE L)]) ∧ Below w.heap.size w w' := by
  have mm := h.max
  have ee := h.le
  have LN := hidp h.len
  have CK := hidp (stcheck_c a n c L w h)
  by_cases h0 : chkE L = 0
  case neg =>
    have e1 := hidp (show wE L = chkE L by unfold wE; rw [if_neg h0])
    have e2 := hidp (show wT L = ⟨#[]⟩ by unfold wT; rw [e1.out, if_neg h0])
    rw [e1.out, e2.out]
    have hx : (chkE L != 0) = true := by simpa using h0
    generalize chkE L = x at *
    clear h0 h hB
    go_enter Tryd.func11, Tryd.ntmps11
    go_wp2_with fail
    refine CK.out.mono ?_
    rintro e w1 ⟨rfl, hb1⟩
    go_wp2_with fail
    go_ret2
    exact ⟨rfl, hb1⟩
  case pos =>
    have hn : n ≤ 40 := by
      have := h0
      unfold chkE at this
      by_cases h40 : 40 < L.length
      · rw [if_pos h40] at this; cases this
      · rw [← LN.out]; omega
    have TL := hidp (txt_len L (by rw [LN.out]; exact hn) hB)
    rw [h0] at CK
    have WE := hidp (show wE L = if 200 < (txt L).size then 2 else 0 by unfold wE; rw [if_pos h0])
    obtain ⟨b, o, hz, hx⟩ := h.split
    have hz' : Hid (n = 0) ∨ a = some ⟨b, o, none⟩ := hz.imp_left hidp
    have HX := hidp hx
    have SZ := hidp (fun k (hk : k < n) => hB _ (pmem L k (by rw [LN.out]; exact hk)))
    have TK := hidp (fun k (hk : k < n) => ptake L k (by rw [LN.out]; exact hk))
    have TN := hidp (show L.take n = L by rw [← LN.out, List.take_length])
    clear h hB hz hx h0
    go_enter Tryd.func11, Tryd.ntmps11
    go_wp2_with fail
    refine CK.out.mono ?_
    rintro e w1 ⟨rfl, hb1⟩
    clear CK
    go_wp2_with fail
    go_loopg [5, 16] n (fun gg v i wr => ∃ k : Nat, k ≤ n ∧ n - k ≤ gg ∧ i = .int .i64 k ∧ wr.ownsRow w.heap.size 9 1 v k (((L.take k).map wd).map Value.string) ∧ Below w.heap.size w wr)
    case atStart => exact ⟨0, by omega, by omega, rfl, World.ownsRow_nil _ _ _ _, hb1⟩
    case round =>
      clear hb1
      obtain ⟨k, hk, hgg, rfl, hv, hbl⟩ := hrel
      by_cases hlt : k < n
      · obtain rfl : a = some ⟨b, o, none⟩ := hz'.resolve_left (fun e => by have := e.out; omega)
        obtain ⟨hbs, x0, x1⟩ := HX.out k hlt
        have q0 := carry_cell ⟨hbs, x0⟩ hbl
        have q1 := carry_cell ⟨hbs, x1⟩ hbl
        have T1 := hidp (TK.out k hlt)
        have W1 := hidp (wd_code (pk L k, pv L k))
        obtain ⟨z1, z2⟩ := SZ.out k hlt
        clear x0 x1
        generalize pk L k = s at *
        generalize pv L k = t at *
        go_upto_region 8 with fail
        have hv2 := hv.alloc (.cells #[.string s, .string t] 32)
        have hb2 := bal hbl (.cells #[.string s, .string t] 32)
        have r0 : (wr.alloc (.cells #[.string s, .string t] 32)).cell? ⟨wr.heap.size, 0, none⟩ = some (.string s) := by simp
        have r1 : (wr.alloc (.cells #[.string s, .string t] 32)).cell? ⟨wr.heap.size, 1, none⟩ = some (.string t) := by simp
        generalize wr.alloc (.cells #[.string s, .string t] 32) = w4 at *
        clear hv hbl q0 q1
        go_wp2_with (at_builtin; refine wpList_append_new rfl (.tmp 20) (.tmp 27) 73 rfl w.heap.size 9 _ 1 16 info_str rfl (by decide) Tryd.underlying73 _ k _ rfl hv2 rfl (one_str _) rfl rfl (by omega) (by decide) hb2.size ?_; intro v0 x0 nv g0 d0; have bl0 := append_step hv2 hb2 (Nat.le_refl _) g0; clear g0 d0 hv2 hb2)
        have NV := hidp nv
        clear nv
        go_roundg (n - (k + 1))
        case measure => omega
        case rel => exact ⟨k + 1, by omega, by omega, by go_num, by rw [T1.out, List.map_append, List.map_append]; have := NV.out; rw [show s ++ ⟨#[61]⟩ ++ t = wd (s, t) from W1.out] at this; exact this, bl0⟩
      · obtain rfl : k = n := by omega
        obtain ⟨S, hS⟩ : ∃ S, S = L.map wd := ⟨_, rfl⟩
        rw [TN.out, ← hS] at hv
        have HS := hidp hS
        have hl : S.length = k := by have := hv.1; simpa using this
        clear hS
        have JC := hidp (fun v (hvv : wr.ownsRow w.heap.size 9 1 v k (S.map Value.string)) => joinS_c S k v w.heap.size wr hl hvv (by rw [HS.out, words_data]; exact TL.out) (by omega))
        have OS := hidp hv
        have JJ := hidp (JC.out _ hv)
        have JT := hidp (show (⟨(Lib.join (S.map (fun x => x.data.toList)) [44]).toArray⟩ : ByteArray) = txt L by rw [HS.out, words_data]; rfl)
        rw [show (fun x : ByteArray => x.data.toList) = (·.data.toList) from rfl] at JT
        rw [JT.out] at JJ
        clear JC OS hv JT
        go_wp2_with fail
        refine JJ.out.mono ?_
        rintro e w5 ⟨rfl, hb5⟩
        have B5 := bstep hbl hb5
        clear JJ hb5 hbl
        by_cases h200 : 200 < (txt L).size
        · have h2 := hidp (show wE L = 2 by rw [WE.out, if_pos h200])
          have h3 := hidp (show wT L = ⟨#[]⟩ by unfold wT; rw [h2.out]; rfl)
          have h200' : (200 : Int) < ((txt L).size : Int) := by omega
          generalize txt L = T at *
          go_wp2_with fail
          go_ret2
          exact ⟨by rw [h3.out, h2.out]; rfl, B5⟩
        · have h2 := hidp (show wE L = 0 by rw [WE.out, if_neg h200])
          have h3 := hidp (show wT L = txt L by unfold wT; rw [if_pos h2.out])
          have h200' : ¬ (200 : Int) < ((txt L).size : Int) := by omega
          generalize txt L = T at *
          go_wp2_with fail
          go_ret2
          exact ⟨by rw [h3.out, h2.out]; rfl, B5⟩
end Go.Proofs.YtdfghgeccannnaaDoor
