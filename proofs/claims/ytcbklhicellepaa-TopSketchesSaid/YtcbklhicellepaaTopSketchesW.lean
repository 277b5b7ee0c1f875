/- The walk of TopSketches: the law returns true at all inputs, and no old memory changes. -/
import Derived.Test.YtcbklhicellepaaSkM
import Derived.Test.YtcbklhicellepaaMixOf
import Derived.Test.YtcbklhicellepaaBegunM
import Derived.Deep.LoopGhost
import Derived.Deep.DeepCutAuto
import Derived.Laws.EntriesVeiled
namespace Go.Proofs.Ytcbklhicellepaa.topSketches
open Go.ChangeShapes Go.WideShapes Go.ChangeAt Go.RowKit
open Go.Proofs.Ytcbklhicellepaa
set_option maxRecDepth 20000
/-- Where a slice lies that begins T places later. -/
def dropA (a : Option Addr) (T cap : Nat) : Option Addr := if cap = T then a else a.map (·.add T)
theorem IntsAt.drop {w : World} {a : Option Addr} {n c : Nat} {xs : List Int} (h : IntsAt w a n c xs) (T : Nat) (hT : T ≤ n) : IntsAt w (dropA a T c) (n - T) (c - T) (xs.drop T) := by
  have hl := h.len
  have hle := h.le
  have hm := h.max
  refine ⟨by rw [List.length_drop]; omega, by omega, by omega, fun hne => ?_, fun x hx => h.bd x (List.mem_of_mem_drop hx)⟩
  have hlt : T < n := by
    rcases Nat.lt_or_ge T n with h | h
    · exact h
    · rw [List.drop_of_length_le (by omega)] at hne
      exact absurd rfl hne
  have h1 : xs.map (Value.int .i64) ≠ [] := by
    intro e
    rw [List.map_eq_nil_iff] at e
    rw [e] at hl
    simp at hl
    omega
  obtain ⟨b, off, ha, hb, hc⟩ := h.cells h1
  unfold dropA
  rw [if_neg (by omega), ha]
  refine ⟨b, off + T, by simp [addr_add], hb, fun i u hu => ?_⟩
  rw [Nat.add_assoc]
  refine hc (T + i) u ?_
  rw [← hu, List.getElem?_map, List.getElem?_map, List.getElem?_drop]
theorem run_drop (a : Option Addr) (n c T : Nat) (hT : T ≤ n) (W : World) : (Instr.slice 24 (.slice a n c) (some (.int .i64 (T : Int))) none none).run Try.prog W = .ok (.slice (dropA a T c) (n - T) (c - T)) W := by
  have hu : Try.prog.underlying 24 = some (.slice (Try.prog.elem 24)) := by kernel_rfl
  rw [run_slice_l (P := Try.prog) (w := W) 24 a n c hu .i64 (T : Int) (by omega) (by omega), show Try.prog.elem 24 = 3 from by kernel_rfl, Try.sizeOf3]
  simp [Result.andThen, sliced, dropA]
theorem run_cutS (s : ByteArray) (k : Nat) (hk : k ≤ s.size) (W : World) : (Instr.slice 9 (.string s) none (some (.int .i64 (k : Int))) none).run Try.prog W = .ok (.string (s.extract 0 k)) W := by
  rw [run_slice_string_h W 9 s Try.underlying9 .i64 (k : Int) (by omega) (by omega)]
  simp
/-- The first 200 bytes. -/
def cut200 (s : ByteArray) : ByteArray := s.extract 0 (min s.size 200)
theorem cut200_le (s : ByteArray) : (cut200 s).size ≤ 200 := by
  unfold cut200
  rw [ByteArray.size_extract]; omega
set_option linter.unusedVariables false
set_option maxHeartbeats 16000000 in
theorem core (K : ByteArray → Int) (B : List Int → List Int) (F : List Int → List Bool) (T : List Int → Nat → Nat → Int) (G : List Int → List Int) (C : List Int → Int × List (Int × Int)) (J : List Int → List Int → Int × List (Int × Int)) (nT : List Int → Int → Int) (nC nO : List Int → List Int → Int → Int)
    (hK : ∀ s W, s.size ≤ 200 → Calls Try.prog 5 #[.string s] W fun e w' => e = .returned (.tuple #[.int .i64 (K s), .int .i64 0]) ∧ W = w')
    (hKb : ∀ s, 0 ≤ K s ∧ K s < 72057594037927936)
    (hfill : ∀ n (xs : List Int), n ≤ 60 → xs.length = n → KeyOk xs → ∀ al cl PB w, IntsAt w al n cl xs → w.cell? ⟨PB, 0, none⟩ = some (.func (.func 7) #[] #[]) →
      Calls Try.prog 10 #[.slice al n cl, .pointer (some ⟨PB, 0, none⟩)] w fun e w' => ∃ ab nb cb af cf at' ct ar cr ac nc cc, e = .returned (.tuple #[allV ab nb cb af cf at' ct ar cr (C xs).1 ac nc cc, .bool true]) ∧ SkAt w' ab nb cb af cf at' ct ar cr ac nc cc (B xs) (F xs) (T xs) (G xs) (C xs).2 ∧ Below w.heap.size w w')
    (hjb : ∀ Y Z, KeyOk Y → KeyOk Z → ∀ W a a2 n c n2 c2, IntsAt W a n c (B Y) → IntsAt W a2 n2 c2 (B Z) →
      Calls Try.prog 16 #[.agg #[.int .i64 5, .slice a n c], .agg #[.int .i64 5, .slice a2 n2 c2]] W fun e w' => ∃ g n' c', e = .returned (.tuple #[.agg #[.int .i64 5, .slice g n' c'], .int .i64 0]) ∧ IntsAt w' g n' c' (B (Z ++ Y)) ∧ Below W.heap.size W w')
    (hjf : ∀ Y Z W a a2 c c2, BoolsAt W a 100 c (F Y) → BoolsAt W a2 100 c2 (F Z) →
      Calls Try.prog 17 #[.agg #[.int .i64 100, .int .i64 3, .slice a 100 c], .agg #[.int .i64 100, .int .i64 3, .slice a2 100 c2]] W fun e w' => ∃ g c', e = .returned (.tuple #[.agg #[.int .i64 100, .int .i64 3, .slice g 100 c'], .int .i64 0]) ∧ BoolsAt w' g 100 c' (F (Z ++ Y)) ∧ Below W.heap.size W w')
    (hjt : ∀ Y Z, (Z ++ Y).length ≤ 1000 → ∀ W a a2 c c2, RowsAt W a 2 c (tabL (T Y) 7 2) → RowsAt W a2 2 c2 (tabL (T Z) 7 2) →
      Calls Try.prog 18 #[.agg #[.int .i64 7, .slice a 2 c], .agg #[.int .i64 7, .slice a2 2 c2]] W fun e w' => ∃ g c', e = .returned (.tuple #[.agg #[.int .i64 7, .slice g 2 c'], .int .i64 0]) ∧ RowsAt w' g 2 c' (tabL (T (Z ++ Y)) 7 2) ∧ Below W.heap.size W w')
    (hjr : ∀ Y Z, KeyOk Y → KeyOk Z → ∀ W a a2 c c2, IntsAt W a 4 c (G Y) → IntsAt W a2 4 c2 (G Z) →
      Calls Try.prog 19 #[.slice a 4 c, .slice a2 4 c2] W fun e w' => ∃ g c', e = .returned (.tuple #[.slice g 4 c', .int .i64 0]) ∧ IntsAt w' g 4 c' (G (Z ++ Y)) ∧ Below W.heap.size W w')
    (hjc : ∀ Y Z, (Z ++ Y).length ≤ 1000 → ∀ W a a2 n c n2 c2, CntAt W a n c (C Y).2 → CntAt W a2 n2 c2 (C Z).2 →
      Calls Try.prog 20 #[.agg #[.int .i64 4, .int .i64 (C Y).1, .slice a n c], .agg #[.int .i64 4, .int .i64 (C Z).1, .slice a2 n2 c2]] W fun e w' => ∃ g n' c', e = .returned (.tuple #[.agg #[.int .i64 4, .int .i64 (J Y Z).1, .slice g n' c'], .int .i64 0]) ∧ CntAt w' g n' c' (J Y Z).2 ∧ Below W.heap.size W w')
    (hsb : ∀ X W a a2 n c n2 c2, IntsAt W a n c (B X) → IntsAt W a2 n2 c2 (B X) →
      Calls Try.prog 21 #[.agg #[.int .i64 5, .slice a n c], .agg #[.int .i64 5, .slice a2 n2 c2]] W fun e w' => e = .returned (.bool true) ∧ Below W.heap.size W w')
    (hsf : ∀ X W a a2 c c2, BoolsAt W a 100 c (F X) → BoolsAt W a2 100 c2 (F X) →
      Calls Try.prog 22 #[.agg #[.int .i64 100, .int .i64 3, .slice a 100 c], .agg #[.int .i64 100, .int .i64 3, .slice a2 100 c2]] W fun e w' => e = .returned (.bool true) ∧ Below W.heap.size W w')
    (hst : ∀ X W a a2 c c2, RowsAt W a 2 c (tabL (T X) 7 2) → RowsAt W a2 2 c2 (tabL (T X) 7 2) →
      Calls Try.prog 23 #[.agg #[.int .i64 7, .slice a 2 c], .agg #[.int .i64 7, .slice a2 2 c2]] W fun e w' => e = .returned (.bool true) ∧ Below W.heap.size W w')
    (hsr : ∀ X W a a2 c c2, IntsAt W a 4 c (G X) → IntsAt W a2 4 c2 (G X) →
      Calls Try.prog 24 #[.slice a 4 c, .slice a2 4 c2] W fun e w' => e = .returned (.bool true) ∧ Below W.heap.size W w')
    (hat : ∀ X, X.length ≤ 1000 → ∀ x W a c, RowsAt W a 2 c (tabL (T X) 7 2) →
      Calls Try.prog 25 #[.agg #[.int .i64 7, .slice a 2 c], .int .i64 x] W fun e w' => e = .returned (.tuple #[.int .i64 (nT X x), .int .i64 0]) ∧ Below W.heap.size W w')
    (haj : ∀ Y Z, (Z ++ Y).length ≤ 1000 → ∀ x W a n c, CntAt W a n c (J Y Z).2 →
      Calls Try.prog 26 #[.agg #[.int .i64 4, .int .i64 (J Y Z).1, .slice a n c], .int .i64 x] W fun e w' => e = .returned (.tuple #[.int .i64 (nC Y Z x), .int .i64 (nC Y Z x + (J Y Z).1), .int .i64 0]) ∧ Below W.heap.size W w')
    (hao : ∀ Y Z, (Z ++ Y).length ≤ 1000 → ∀ x W a n c, CntAt W a n c (C (Z ++ Y)).2 →
      Calls Try.prog 26 #[.agg #[.int .i64 4, .int .i64 (C (Z ++ Y)).1, .slice a n c], .int .i64 x] W fun e w' => e = .returned (.tuple #[.int .i64 (nO Y Z x), .int .i64 (nO Y Z x + (C (Z ++ Y)).1), .int .i64 0]) ∧ Below W.heap.size W w')
    (haf : ∀ X x, x ∈ X → ∀ W a c, BoolsAt W a 100 c (F X) →
      Calls Try.prog 27 #[.agg #[.int .i64 100, .int .i64 3, .slice a 100 c], .int .i64 x] W fun e w' => e = .returned (.tuple #[.bool true, .int .i64 0]) ∧ Below W.heap.size W w')
    (hle : ∀ Y Z x, (Z ++ Y).length ≤ 1000 → nC Y Z x ≤ nT (Z ++ Y) x ∧ nO Y Z x ≤ nT (Z ++ Y) x ∧ nO Y Z x ≤ nC Y Z x + (J Y Z).1 ∧ nC Y Z x ≤ nO Y Z x + (C (Z ++ Y)).1)
    (a0 : Option Addr) (len0 cap0 : Nat) (S : List ByteArray) (a1 : Int) (w : World) (w0 : StrsAt w a0 len0 cap0 S) (w1 : (Lit.int .i64 a1).wf = true) :
    Calls Try.prog 3 #[.slice a0 len0 cap0, .int .i64 a1] w fun e w' => e = .returned (.bool true) ∧ Below w.heap.size w w' := by
  have HK := hidp hK
  have HKB := hidp hKb
  have FILL := hidp hfill
  have JB := hidp hjb
  have JF := hidp hjf
  have JT := hidp hjt
  have JR := hidp hjr
  have JC := hidp hjc
  have SB := hidp hsb
  have SF := hidp hsf
  have ST := hidp hst
  have SR := hidp hsr
  have AT := hidp hat
  have AJ := hidp haj
  have AO := hidp hao
  have AF := hidp haf
  have LE := hidp hle
  have W1 := hidp w1
  have mm := w0.max
  have ee := w0.le
  have SZ := hidp w0.sz
  obtain ⟨N, hN⟩ : ∃ N : Nat, N = min len0 60 := ⟨_, rfl⟩
  have hmin : min (len0 : Int) 60 = (N : Int) := by omega
  have hN1 : N ≤ 60 := by omega
  have hN2 : N ≤ len0 := by omega
  obtain ⟨b, o, hz, hx⟩ := w0.split
  have hz' : Hid (len0 = 0) ∨ a0 = some ⟨b, o, none⟩ := hz.imp_left hidp
  have HX := hidp hx
  obtain ⟨kf, hkf⟩ : ∃ kf : Nat → Int, ∀ i, kf i = K (cut200 (gs S i)) := ⟨_, fun _ => rfl⟩
  have KF := hidp hkf
  have BG := hidp begun_c
  clear hK hKb hfill hjb hjf hjt hjr hjc hsb hsf hst hsr hat haj hao haf hle w0 w1 hz hx hkf hN
  go_enter Try.func3, Try.ntmps3
  go_wp2_with fail
  refine (BG.out _).mono ?_
  rintro e wa ⟨rfl, hwa⟩
  have HXA := hidp (fun k (hk : k < len0) => carry_cell (HX.out k hk) hwa)
  have hsa := hwa.size
  clear HX BG
  go_wp2_with fail
  go_loopg [5, 48] N (fun gg v i wr => ∃ k : Nat, k ≤ N ∧ N - k ≤ gg ∧ i = .int .i64 k ∧ wr.ownsRow wa.heap.size 3 1 v k ((tab kf k).map (Value.int .i64)) ∧ Below wa.heap.size wa wr)
  case atStart => exact ⟨0, by omega, by omega, rfl, World.ownsRow_nil _ _ _ _, Below.refl _ _⟩
  case round =>
    obtain ⟨k, hk, hgg, rfl, hv, hbl⟩ := hrel
    by_cases hlt : k < N
    · obtain rfl : a0 = some ⟨b, o, none⟩ := hz'.resolve_left (fun e => by have := e.out; omega)
      have q0 := ck hbl (HXA.out k (by omega))
      obtain ⟨s, hs⟩ : ∃ s, s = gs S k := ⟨_, rfl⟩
      obtain ⟨t, ht⟩ : ∃ t : Nat, t = min s.size 200 := ⟨_, rfl⟩
      have hsz : s.size ≤ 9223372036854775807 := by rw [hs]; exact SZ.out k
      have hmt : min (s.size : Int) 200 = (t : Int) := by omega
      have CS := run_cutS s t (by omega)
      have HKS := hidp (fun W => HK.out (cut200 s) W (cut200_le s))
      rw [show cut200 s = s.extract 0 t from by unfold cut200; rw [ht]] at HKS
      have KFK : Hid (kf k = K (s.extract 0 t)) := hidp (by rw [KF.out, ← hs, ht]; rfl)
      rw [← hs] at q0
      generalize s.extract 0 t = s2 at *
      have TS := hidp (tab_snoc kf k)
      rw [KFK.out] at TS
      generalize K s2 = ks at *
      have HS := hidp hs
      have HT := hidp ht
      clear hs ht KFK
      go_wp2_with fail
      refine (HKS.out _).mono ?_
      rintro e w' ⟨rfl, rfl⟩
      go_wp2_with (at_builtin; refine wpList_append_new rfl (.tmp 63) (.tmp 65) 24 rfl wa.heap.size 3 _ 1 8 info_int rfl (by decide) Try.underlying24 _ k _ rfl hv rfl (one_int _ _) rfl rfl (by omega) (by decide) hbl.size ?_; intro v0 x0 nv g0 d0; have bl0 := append_step hv hbl (Nat.le_refl _) g0; clear g0 d0 hv hbl)
      have NV := hidp nv
      clear nv
      go_roundg (N - (k + 1))
      case measure => omega
      case rel => exact ⟨k + 1, by omega, by omega, by go_num, by rw [TS.out, List.map_append]; exact NV.out, bl0⟩
    · obtain rfl : k = N := by omega
      obtain ⟨X, hX⟩ : ∃ X, X = tab kf k := ⟨_, rfl⟩
      have hXl : X.length = k := by rw [hX, tab_len]
      have hXk : KeyOk X := fun x hx => by
        rw [hX] at hx
        obtain ⟨i, _, rfl⟩ := tab_mem _ _ _ hx
        rw [KF.out]; exact HKB.out _
      rw [← hX] at hv
      obtain ⟨ak, ck', rfl, hI⟩ := owns_ints hv (fun x hx => by have := hXk x hx; omega)
      have HI := hidp hI
      have B1 := bstep hwa hbl
      have XK := hidp hXk
      have XL := hidp hXl
      have il := hI.le
      have im := hI.max
      have WI := hidp (fun W => within_c a1 ((k : Int) + 1) (by omega) (by omega) W)
      have ww := And.intro (wi_lo a1 ((k : Int) + 1) (by omega)) (wi_hi a1 ((k : Int) + 1) (by omega))
      obtain ⟨ct, hct⟩ : ∃ ct : Nat, (ct : Int) = wi a1 ((k : Int) + 1) := ⟨(wi a1 ((k : Int) + 1)).toNat, by omega⟩
      rw [← hct] at WI ww
      have hck : ct ≤ k := by omega
      clear hv hbl hI hX hXk hXl hct ww KF HKB HXA SZ W1
      obtain ⟨Z, hZ⟩ : ∃ Z, Z = X.take ct := ⟨_, rfl⟩
      obtain ⟨Y, hY⟩ : ∃ Y, Y = X.drop ct := ⟨_, rfl⟩
      have ZY : Hid (Z ++ Y = X) := hidp (by rw [hZ, hY, List.take_append_drop])
      have ZK : Hid (KeyOk Z) := hidp (by rw [hZ]; exact XK.out.take _)
      have YK : Hid (KeyOk Y) := hidp (by rw [hY]; exact XK.out.drop _)
      have ZL : Hid (Z.length = ct) := hidp (by rw [hZ, List.length_take, XL.out]; omega)
      have YL : Hid (Y.length = k - ct) := hidp (by rw [hY, List.length_drop, XL.out])
      have HIZ := hidp (fun W (h : IntsAt W ak k ck' X) => show IntsAt W ak ct ck' Z from hZ ▸ h.take ct hck)
      have HIY := hidp (fun W (h : IntsAt W ak k ck' X) => show IntsAt W (dropA ak ct ck') (k - ct) (ck' - ct) Y from hY ▸ IntsAt.drop h ct hck)
      have RD := run_drop ak k ck' ct hck
      clear hZ hY
      have FX := hidp (fun PB W (hi : IntsAt W ak k ck' X) hp => FILL.out k X (by omega) XL.out XK.out ak ck' PB W hi hp)
      have FZ := hidp (fun PB W (hi : IntsAt W ak k ck' X) hp => FILL.out ct Z (by omega) ZL.out ZK.out ak ck' PB W (HIZ.out W hi) hp)
      have FY := hidp (fun PB W (hi : IntsAt W ak k ck' X) hp => FILL.out (k - ct) Y (by omega) YL.out YK.out (dropA ak ct ck') (ck' - ct) PB W (HIY.out W hi) hp)
      clear FILL HIZ HIY
      go_wp2_with fail
      refine (WI.out _).mono ?_
      rintro e w' ⟨rfl, rfl⟩
      clear WI
      go_upto_region 14 with fail
      obtain ⟨PB, hPB⟩ : ∃ PB, PB = wr.heap.size := ⟨_, rfl⟩
      have qp : (wr.alloc (.cells #[.func (.func 7) #[] #[]] 44)).cell? ⟨PB, 0, none⟩ = some (.func (.func 7) #[] #[]) := by rw [hPB]; go_simp
      have BL := bal B1 (.cells #[.func (.func 7) #[] #[]] 44)
      have IK := hidp (HI.out.alloc (.cells #[.func (.func 7) #[] #[]] 44))
      generalize wr.alloc (.cells #[.func (.func 7) #[] #[]] 44) = v at *
      rw [← hPB]
      clear hPB HI B1
      go_wp2_with fail
      refine (FX.out PB _ IK.out qp).mono ?_
      rintro e w1 ⟨ab1, nb1, cb1, af1, cf1, at1, ct1, ar1, cr1, ac1, nc1, cc1, rfl, hK, hb⟩
      unfold allV
      obtain ⟨lo1, hlo1⟩ : ∃ lo, lo = (C X).1 := ⟨_, rfl⟩
      rw [← hlo1]
      have LO1 := hidp hlo1
      clear hlo1
      go_upto_region 16 with fail
      have ba := bal hb (.cells #[.int .i64 5, .slice ab1 nb1 cb1, .int .i64 100, .int .i64 3, .slice af1 100 cf1, .int .i64 7, .slice at1 2 ct1, .slice ar1 4 cr1, .int .i64 4, .int .i64 lo1, .slice ac1 nc1 cc1] 41)
      have X1 := hidp (show SkX (w1.alloc (.cells #[.int .i64 5, .slice ab1 nb1 cb1, .int .i64 100, .int .i64 3, .slice af1 100 cf1, .int .i64 7, .slice at1 2 ct1, .slice ar1 4 cr1, .int .i64 4, .int .i64 lo1, .slice ac1 nc1 cc1] 41)) w1.heap.size ab1 nb1 cb1 af1 cf1 at1 ct1 ar1 cr1 lo1 ac1 nc1 cc1 from ⟨by go_simp, by go_simp, by go_simp, by go_simp, by go_simp, by go_simp, by go_simp, by go_simp, by go_simp, by go_simp, by go_simp, fun o => by simp⟩)
      have K1 := hidp (hK.below (bal (Below.refl _ _) (.cells #[.int .i64 5, .slice ab1 nb1 cb1, .int .i64 100, .int .i64 3, .slice af1 100 cf1, .int .i64 7, .slice at1 2 ct1, .slice ar1 4 cr1, .int .i64 4, .int .i64 lo1, .slice ac1 nc1 cc1] 41)))
      replace IK := hidp (IK.out.below ba)
      replace qp := ck ba qp
      replace BL := bstep BL ba
      obtain ⟨P1, hP1⟩ : ∃ P, P = w1.heap.size := ⟨_, rfl⟩
      rw [← hP1] at X1 ⊢
      clear ba hb hK hP1 FX
      generalize (w1.alloc (.cells #[.int .i64 5, .slice ab1 nb1 cb1, .int .i64 100, .int .i64 3, .slice af1 100 cf1, .int .i64 7, .slice at1 2 ct1, .slice ar1 4 cr1, .int .i64 4, .int .i64 lo1, .slice ac1 nc1 cc1] 41)) = u1 at *
      go_wp2_with fail
      refine (FZ.out PB _ IK.out qp).mono ?_
      rintro e w2 ⟨ab2, nb2, cb2, af2, cf2, at2, ct2, ar2, cr2, ac2, nc2, cc2, rfl, hK, hb⟩
      unfold allV
      obtain ⟨lo2, hlo2⟩ : ∃ lo, lo = (C Z).1 := ⟨_, rfl⟩
      rw [← hlo2]
      have LO2 := hidp hlo2
      clear hlo2
      go_upto_region 17 with fail
      have ba := bal hb (.cells #[.int .i64 5, .slice ab2 nb2 cb2, .int .i64 100, .int .i64 3, .slice af2 100 cf2, .int .i64 7, .slice at2 2 ct2, .slice ar2 4 cr2, .int .i64 4, .int .i64 lo2, .slice ac2 nc2 cc2] 41)
      have X2 := hidp (show SkX (w2.alloc (.cells #[.int .i64 5, .slice ab2 nb2 cb2, .int .i64 100, .int .i64 3, .slice af2 100 cf2, .int .i64 7, .slice at2 2 ct2, .slice ar2 4 cr2, .int .i64 4, .int .i64 lo2, .slice ac2 nc2 cc2] 41)) w2.heap.size ab2 nb2 cb2 af2 cf2 at2 ct2 ar2 cr2 lo2 ac2 nc2 cc2 from ⟨by go_simp, by go_simp, by go_simp, by go_simp, by go_simp, by go_simp, by go_simp, by go_simp, by go_simp, by go_simp, by go_simp, fun o => by simp⟩)
      have K2 := hidp (hK.below (bal (Below.refl _ _) (.cells #[.int .i64 5, .slice ab2 nb2 cb2, .int .i64 100, .int .i64 3, .slice af2 100 cf2, .int .i64 7, .slice at2 2 ct2, .slice ar2 4 cr2, .int .i64 4, .int .i64 lo2, .slice ac2 nc2 cc2] 41)))
      replace X1 := hidp (X1.out.below ba)
      replace K1 := hidp (K1.out.below ba)
      replace IK := hidp (IK.out.below ba)
      replace qp := ck ba qp
      replace BL := bstep BL ba
      obtain ⟨P2, hP2⟩ : ∃ P, P = w2.heap.size := ⟨_, rfl⟩
      rw [← hP2] at X2 ⊢
      clear ba hb hK hP2 FZ
      generalize (w2.alloc (.cells #[.int .i64 5, .slice ab2 nb2 cb2, .int .i64 100, .int .i64 3, .slice af2 100 cf2, .int .i64 7, .slice at2 2 ct2, .slice ar2 4 cr2, .int .i64 4, .int .i64 lo2, .slice ac2 nc2 cc2] 41)) = u2 at *
      go_wp2_with fail
      refine (FY.out PB _ IK.out qp).mono ?_
      rintro e w3 ⟨ab3, nb3, cb3, af3, cf3, at3, ct3, ar3, cr3, ac3, nc3, cc3, rfl, hK, hb⟩
      unfold allV
      obtain ⟨lo3, hlo3⟩ : ∃ lo, lo = (C Y).1 := ⟨_, rfl⟩
      rw [← hlo3]
      have LO3 := hidp hlo3
      clear hlo3
      go_upto_region 18 with fail
      have ba := bal hb (.cells #[.int .i64 5, .slice ab3 nb3 cb3, .int .i64 100, .int .i64 3, .slice af3 100 cf3, .int .i64 7, .slice at3 2 ct3, .slice ar3 4 cr3, .int .i64 4, .int .i64 lo3, .slice ac3 nc3 cc3] 41)
      have X3 := hidp (show SkX (w3.alloc (.cells #[.int .i64 5, .slice ab3 nb3 cb3, .int .i64 100, .int .i64 3, .slice af3 100 cf3, .int .i64 7, .slice at3 2 ct3, .slice ar3 4 cr3, .int .i64 4, .int .i64 lo3, .slice ac3 nc3 cc3] 41)) w3.heap.size ab3 nb3 cb3 af3 cf3 at3 ct3 ar3 cr3 lo3 ac3 nc3 cc3 from ⟨by go_simp, by go_simp, by go_simp, by go_simp, by go_simp, by go_simp, by go_simp, by go_simp, by go_simp, by go_simp, by go_simp, fun o => by simp⟩)
      have K3 := hidp (hK.below (bal (Below.refl _ _) (.cells #[.int .i64 5, .slice ab3 nb3 cb3, .int .i64 100, .int .i64 3, .slice af3 100 cf3, .int .i64 7, .slice at3 2 ct3, .slice ar3 4 cr3, .int .i64 4, .int .i64 lo3, .slice ac3 nc3 cc3] 41)))
      replace X1 := hidp (X1.out.below ba)
      replace K1 := hidp (K1.out.below ba)
      replace X2 := hidp (X2.out.below ba)
      replace K2 := hidp (K2.out.below ba)
      replace IK := hidp (IK.out.below ba)
      replace qp := ck ba qp
      replace BL := bstep BL ba
      obtain ⟨P3, hP3⟩ : ∃ P, P = w3.heap.size := ⟨_, rfl⟩
      rw [← hP3] at X3 ⊢
      clear ba hb hK hP3 FY
      generalize (w3.alloc (.cells #[.int .i64 5, .slice ab3 nb3 cb3, .int .i64 100, .int .i64 3, .slice af3 100 cf3, .int .i64 7, .slice at3 2 ct3, .slice ar3 4 cr3, .int .i64 4, .int .i64 lo3, .slice ac3 nc3 cc3] 41)) = u3 at *
      have JB1 := hidp (fun W a a2 n c n2 c2 h h2 => JB.out Y Z YK.out ZK.out W a a2 n c n2 c2 h h2)
      have JF1 := hidp (fun W a a2 c c2 h h2 => JF.out Y Z W a a2 c c2 h h2)
      have ZYL : (Z ++ Y).length ≤ 1000 := by rw [ZY.out, XL.out]; omega
      have JT1 := hidp (fun W a a2 c c2 h h2 => JT.out Y Z ZYL W a a2 c c2 h h2)
      have JR1 := hidp (fun W a a2 c c2 h h2 => JR.out Y Z YK.out ZK.out W a a2 c c2 h h2)
      have JC1 := hidp (fun W a a2 n c n2 c2 h h2 => JC.out Y Z ZYL W a a2 n c n2 c2 h h2)
      have AT1 := hidp (fun x W a c h => AT.out (Z ++ Y) ZYL x W a c h)
      have AJ1 := hidp (fun x W a n c h => AJ.out Y Z ZYL x W a n c h)
      have AO1 := hidp (fun x W a n c h => AO.out Y Z ZYL x W a n c h)
      have AF1 := hidp (fun x hx W a c h => AF.out X x hx W a c h)
      have LE1 := hidp (fun x => LE.out Y Z x ZYL)
      rw [ZY.out] at JB1 JF1 JT1 JR1 AT1 AO1 LE1
      have SB1 := hidp (SB.out X)
      have SF1 := hidp (SF.out X)
      have ST1 := hidp (ST.out X)
      have SR1 := hidp (SR.out X)
      rw [← LO3.out, ← LO2.out] at JC1
      rw [← LO1.out] at AO1 LE1
      obtain ⟨lj, hlj⟩ : ∃ lj, lj = (J Y Z).1 := ⟨_, rfl⟩
      rw [← hlj] at JC1 AJ1 LE1
      have LJ := hidp hlj
      clear hlj JB JF JT JR JC SB SF ST SR AT AJ AO AF LE ZYL RD qp
      have p0 := X3.out.c0
      have r0 := X2.out.c0
      have p1 := X3.out.c1
      have r1 := X2.out.c1
      go_wp2_with fail
      refine (JB1.out _ _ _ _ _ _ _ K3.out.b K2.out.b).mono ?_
      rintro e x1 ⟨gb, mb, db, rfl, hI, hb⟩
      clear p0 r0 p1 r1
      go_upto_region 21 with fail
      have ba := bal hb (.cells #[.int .i64 5, .slice gb mb db] 30)
      have z10 : (x1.alloc (.cells #[.int .i64 5, .slice gb mb db] 30)).cell? ⟨x1.heap.size, 0, none⟩ = some (.int .i64 5) := by go_simp
      have z11 : (x1.alloc (.cells #[.int .i64 5, .slice gb mb db] 30)).cell? ⟨x1.heap.size, 1, none⟩ = some (.slice gb mb db) := by go_simp
      have HJB := hidp (hI.below (bal (Below.refl _ _) (.cells #[.int .i64 5, .slice gb mb db] 30)))
      replace X1 := hidp (X1.out.below ba)
      replace X2 := hidp (X2.out.below ba)
      replace X3 := hidp (X3.out.below ba)
      replace K1 := hidp (K1.out.below ba)
      replace K2 := hidp (K2.out.below ba)
      replace K3 := hidp (K3.out.below ba)
      replace IK := hidp (IK.out.below ba)
      replace BL := bstep BL ba
      obtain ⟨Q1, hQ1⟩ : ∃ Q, Q = x1.heap.size := ⟨_, rfl⟩
      rw [← hQ1] at z10 z11 ⊢
      clear ba hb hI hQ1
      generalize (x1.alloc (.cells #[.int .i64 5, .slice gb mb db] 30)) = y1 at *
      have p2 := X3.out.c2
      have r2 := X2.out.c2
      have p3 := X3.out.c3
      have r3 := X2.out.c3
      have p4 := X3.out.c4
      have r4 := X2.out.c4
      go_wp2_with fail
      refine (JF1.out _ _ _ _ _ K3.out.f K2.out.f).mono ?_
      rintro e x2 ⟨gf, df, rfl, hI, hb⟩
      clear p2 r2 p3 r3 p4 r4
      go_upto_region 22 with fail
      have ba := bal hb (.cells #[.int .i64 100, .int .i64 3, .slice gf 100 df] 33)
      have z20 : (x2.alloc (.cells #[.int .i64 100, .int .i64 3, .slice gf 100 df] 33)).cell? ⟨x2.heap.size, 0, none⟩ = some (.int .i64 100) := by go_simp
      have z21 : (x2.alloc (.cells #[.int .i64 100, .int .i64 3, .slice gf 100 df] 33)).cell? ⟨x2.heap.size, 1, none⟩ = some (.int .i64 3) := by go_simp
      have z22 : (x2.alloc (.cells #[.int .i64 100, .int .i64 3, .slice gf 100 df] 33)).cell? ⟨x2.heap.size, 2, none⟩ = some (.slice gf 100 df) := by go_simp
      have HJF := hidp (hI.below (bal (Below.refl _ _) (.cells #[.int .i64 100, .int .i64 3, .slice gf 100 df] 33)))
      replace X1 := hidp (X1.out.below ba)
      replace X2 := hidp (X2.out.below ba)
      replace X3 := hidp (X3.out.below ba)
      replace K1 := hidp (K1.out.below ba)
      replace K2 := hidp (K2.out.below ba)
      replace K3 := hidp (K3.out.below ba)
      replace IK := hidp (IK.out.below ba)
      replace HJB := hidp (HJB.out.below ba)
      replace z10 := ck ba z10
      replace z11 := ck ba z11
      replace BL := bstep BL ba
      obtain ⟨Q2, hQ2⟩ : ∃ Q, Q = x2.heap.size := ⟨_, rfl⟩
      rw [← hQ2] at z20 z21 z22 ⊢
      clear ba hb hI hQ2
      generalize (x2.alloc (.cells #[.int .i64 100, .int .i64 3, .slice gf 100 df] 33)) = y2 at *
      have p5 := X3.out.c5
      have r5 := X2.out.c5
      have p6 := X3.out.c6
      have r6 := X2.out.c6
      go_wp2_with fail
      refine (JT1.out _ _ _ _ _ K3.out.t K2.out.t).mono ?_
      rintro e x3 ⟨gt, dt, rfl, hI, hb⟩
      clear p5 r5 p6 r6
      go_upto_region 23 with fail
      have ba := bal hb (.cells #[.int .i64 7, .slice gt 2 dt] 36)
      have z30 : (x3.alloc (.cells #[.int .i64 7, .slice gt 2 dt] 36)).cell? ⟨x3.heap.size, 0, none⟩ = some (.int .i64 7) := by go_simp
      have z31 : (x3.alloc (.cells #[.int .i64 7, .slice gt 2 dt] 36)).cell? ⟨x3.heap.size, 1, none⟩ = some (.slice gt 2 dt) := by go_simp
      have HJT := hidp (hI.below (bal (Below.refl _ _) (.cells #[.int .i64 7, .slice gt 2 dt] 36)))
      replace X1 := hidp (X1.out.below ba)
      replace X2 := hidp (X2.out.below ba)
      replace X3 := hidp (X3.out.below ba)
      replace K1 := hidp (K1.out.below ba)
      replace K2 := hidp (K2.out.below ba)
      replace K3 := hidp (K3.out.below ba)
      replace IK := hidp (IK.out.below ba)
      replace HJB := hidp (HJB.out.below ba)
      replace HJF := hidp (HJF.out.below ba)
      replace z10 := ck ba z10
      replace z11 := ck ba z11
      replace z20 := ck ba z20
      replace z21 := ck ba z21
      replace z22 := ck ba z22
      replace BL := bstep BL ba
      obtain ⟨Q3, hQ3⟩ : ∃ Q, Q = x3.heap.size := ⟨_, rfl⟩
      rw [← hQ3] at z30 z31 ⊢
      clear ba hb hI hQ3
      generalize (x3.alloc (.cells #[.int .i64 7, .slice gt 2 dt] 36)) = y3 at *
      have p7 := X3.out.c7
      have r7 := X2.out.c7
      go_wp2_with fail
      refine (JR1.out _ _ _ _ _ K3.out.r K2.out.r).mono ?_
      rintro e x4 ⟨gr, dr, rfl, hI, hb⟩
      clear p7 r7
      go_upto_region 24 with fail
      have ba := hb
      have HJR := hidp hI
      replace X1 := hidp (X1.out.below ba)
      replace X2 := hidp (X2.out.below ba)
      replace X3 := hidp (X3.out.below ba)
      replace K1 := hidp (K1.out.below ba)
      replace K2 := hidp (K2.out.below ba)
      replace K3 := hidp (K3.out.below ba)
      replace IK := hidp (IK.out.below ba)
      replace HJB := hidp (HJB.out.below ba)
      replace HJF := hidp (HJF.out.below ba)
      replace HJT := hidp (HJT.out.below ba)
      replace z10 := ck ba z10
      replace z11 := ck ba z11
      replace z20 := ck ba z20
      replace z21 := ck ba z21
      replace z22 := ck ba z22
      replace z30 := ck ba z30
      replace z31 := ck ba z31
      replace BL := bstep BL ba
      clear ba hb hI
      have p8 := X3.out.c8
      have r8 := X2.out.c8
      have p9 := X3.out.c9
      have r9 := X2.out.c9
      have p10 := X3.out.c10
      have r10 := X2.out.c10
      go_wp2_with fail
      refine (JC1.out _ _ _ _ _ _ _ K3.out.c K2.out.c).mono ?_
      rintro e x5 ⟨gc, mc, dc, rfl, hI, hb⟩
      clear p8 r8 p9 r9 p10 r10
      go_upto_region 25 with fail
      have ba := bal hb (.cells #[.int .i64 4, .int .i64 lj, .slice gc mc dc] 39)
      have z50 : (x5.alloc (.cells #[.int .i64 4, .int .i64 lj, .slice gc mc dc] 39)).cell? ⟨x5.heap.size, 0, none⟩ = some (.int .i64 4) := by go_simp
      have z51 : (x5.alloc (.cells #[.int .i64 4, .int .i64 lj, .slice gc mc dc] 39)).cell? ⟨x5.heap.size, 1, none⟩ = some (.int .i64 lj) := by go_simp
      have z52 : (x5.alloc (.cells #[.int .i64 4, .int .i64 lj, .slice gc mc dc] 39)).cell? ⟨x5.heap.size, 2, none⟩ = some (.slice gc mc dc) := by go_simp
      have HJC := hidp (hI.below (bal (Below.refl _ _) (.cells #[.int .i64 4, .int .i64 lj, .slice gc mc dc] 39)))
      replace X1 := hidp (X1.out.below ba)
      replace X2 := hidp (X2.out.below ba)
      replace X3 := hidp (X3.out.below ba)
      replace K1 := hidp (K1.out.below ba)
      replace K2 := hidp (K2.out.below ba)
      replace K3 := hidp (K3.out.below ba)
      replace IK := hidp (IK.out.below ba)
      replace HJB := hidp (HJB.out.below ba)
      replace HJF := hidp (HJF.out.below ba)
      replace HJT := hidp (HJT.out.below ba)
      replace HJR := hidp (HJR.out.below ba)
      replace z10 := ck ba z10
      replace z11 := ck ba z11
      replace z20 := ck ba z20
      replace z21 := ck ba z21
      replace z22 := ck ba z22
      replace z30 := ck ba z30
      replace z31 := ck ba z31
      replace BL := bstep BL ba
      obtain ⟨Q5, hQ5⟩ : ∃ Q, Q = x5.heap.size := ⟨_, rfl⟩
      rw [← hQ5] at z50 z51 z52 ⊢
      clear ba hb hI hQ5
      generalize (x5.alloc (.cells #[.int .i64 4, .int .i64 lj, .slice gc mc dc] 39)) = y5 at *
      clear X2 X3 K2 K3 JB1 JF1 JT1 JR1 JC1
      have o0 := X1.out.c0
      have o1 := X1.out.c1
      go_wp2_with fail
      refine (SB1.out _ _ _ _ _ _ _ HJB.out K1.out.b).mono ?_
      rintro e s1 ⟨rfl, ba⟩
      clear o0 o1
      replace X1 := hidp (X1.out.below ba)
      replace K1 := hidp (K1.out.below ba)
      replace IK := hidp (IK.out.below ba)
      replace HJB := hidp (HJB.out.below ba)
      replace HJF := hidp (HJF.out.below ba)
      replace HJT := hidp (HJT.out.below ba)
      replace HJR := hidp (HJR.out.below ba)
      replace HJC := hidp (HJC.out.below ba)
      replace z10 := ck ba z10
      replace z11 := ck ba z11
      replace z20 := ck ba z20
      replace z21 := ck ba z21
      replace z22 := ck ba z22
      replace z30 := ck ba z30
      replace z31 := ck ba z31
      replace z50 := ck ba z50
      replace z51 := ck ba z51
      replace z52 := ck ba z52
      replace BL := bstep BL ba
      clear ba
      have o2 := X1.out.c2
      have o3 := X1.out.c3
      have o4 := X1.out.c4
      go_wp2_with fail
      refine (SF1.out _ _ _ _ _ HJF.out K1.out.f).mono ?_
      rintro e s2 ⟨rfl, ba⟩
      clear o2 o3 o4
      replace X1 := hidp (X1.out.below ba)
      replace K1 := hidp (K1.out.below ba)
      replace IK := hidp (IK.out.below ba)
      replace HJB := hidp (HJB.out.below ba)
      replace HJF := hidp (HJF.out.below ba)
      replace HJT := hidp (HJT.out.below ba)
      replace HJR := hidp (HJR.out.below ba)
      replace HJC := hidp (HJC.out.below ba)
      replace z10 := ck ba z10
      replace z11 := ck ba z11
      replace z20 := ck ba z20
      replace z21 := ck ba z21
      replace z22 := ck ba z22
      replace z30 := ck ba z30
      replace z31 := ck ba z31
      replace z50 := ck ba z50
      replace z51 := ck ba z51
      replace z52 := ck ba z52
      replace BL := bstep BL ba
      clear ba
      have o5 := X1.out.c5
      have o6 := X1.out.c6
      go_wp2_with fail
      refine (ST1.out _ _ _ _ _ HJT.out K1.out.t).mono ?_
      rintro e s3 ⟨rfl, ba⟩
      clear o5 o6
      replace X1 := hidp (X1.out.below ba)
      replace K1 := hidp (K1.out.below ba)
      replace IK := hidp (IK.out.below ba)
      replace HJB := hidp (HJB.out.below ba)
      replace HJF := hidp (HJF.out.below ba)
      replace HJT := hidp (HJT.out.below ba)
      replace HJR := hidp (HJR.out.below ba)
      replace HJC := hidp (HJC.out.below ba)
      replace z10 := ck ba z10
      replace z11 := ck ba z11
      replace z20 := ck ba z20
      replace z21 := ck ba z21
      replace z22 := ck ba z22
      replace z30 := ck ba z30
      replace z31 := ck ba z31
      replace z50 := ck ba z50
      replace z51 := ck ba z51
      replace z52 := ck ba z52
      replace BL := bstep BL ba
      clear ba
      have o7 := X1.out.c7
      go_wp2_with fail
      refine (SR1.out _ _ _ _ _ HJR.out K1.out.r).mono ?_
      rintro e s4 ⟨rfl, ba⟩
      clear o7
      replace X1 := hidp (X1.out.below ba)
      replace K1 := hidp (K1.out.below ba)
      replace IK := hidp (IK.out.below ba)
      replace HJB := hidp (HJB.out.below ba)
      replace HJF := hidp (HJF.out.below ba)
      replace HJT := hidp (HJT.out.below ba)
      replace HJR := hidp (HJR.out.below ba)
      replace HJC := hidp (HJC.out.below ba)
      replace z10 := ck ba z10
      replace z11 := ck ba z11
      replace z20 := ck ba z20
      replace z21 := ck ba z21
      replace z22 := ck ba z22
      replace z30 := ck ba z30
      replace z31 := ck ba z31
      replace z50 := ck ba z50
      replace z51 := ck ba z51
      replace z52 := ck ba z52
      replace BL := bstep BL ba
      clear ba
      have Y8 := X1.out.c8
      have Y9 := X1.out.c9
      have Y10 := X1.out.c10
      clear X1 SB1 SF1 ST1 SR1 HJB HJR
      obtain ⟨bk, ok, hzk, hxk⟩ := IK.out.split
      have hzk' : Hid (k = 0) ∨ ak = some ⟨bk, ok, none⟩ := hzk.imp_left hidp
      have HXK := hidp hxk
      clear hzk hxk
      go_wp2_with fail
      go_loopg [194] k (fun gg i wr => ∃ j : Nat, j ≤ k ∧ k - j ≤ gg ∧ i = .int .i64 j ∧ Below s4.heap.size s4 wr)
      case atStart => exact ⟨0, by omega, by omega, rfl, Below.refl _ _⟩
      case round =>
        obtain ⟨j, hj, hgj, rfl, hbl⟩ := hrel
        by_cases hlj : j < k
        · obtain rfl : ak = some ⟨bk, ok, none⟩ := hzk'.resolve_left (fun e => by have := e.out; omega)
          have qk := carry_cell (HXK.out j hlj) hbl
          have hmem : gi X j ∈ X := by
            have := XL.out
            unfold gi; rw [List.getD_eq_getElem?_getD, List.getElem?_eq_getElem (by omega)]
            exact List.getElem_mem (by omega)
          have AF2 := hidp (fun W a c h => AF1.out _ hmem W a c h)
          clear hmem
          generalize gi X j = x at *
          have LL := LE1.out x
          have AT2 := hidp (AT1.out x)
          have AJ2 := hidp (AJ1.out x)
          have AO2 := hidp (AO1.out x)
          generalize nT X x = nt at *
          generalize nC Y Z x = nc at *
          generalize nO Y Z x = no at *
          obtain ⟨hc, hhc⟩ : ∃ hc, hc = nc + lj := ⟨_, rfl⟩
          obtain ⟨ho, hho⟩ : ∃ ho, ho = no + lo1 := ⟨_, rfl⟩
          rw [← hhc] at AJ2 LL
          rw [← hho] at AO2 LL
          obtain ⟨l1, l2, l3, l4⟩ := LL
          clear hhc hho
          have cz30 := ck hbl z30
          have cz31 := ck hbl z31
          go_wp2_with fail
          refine (AT2.out _ _ _ (HJT.out.below hbl)).mono ?_
          rintro e mt ⟨rfl, ba⟩
          clear cz30 cz31
          replace hbl := bstep hbl ba
          clear ba
          have cz50 := ck hbl z50
          have cz51 := ck hbl z51
          have cz52 := ck hbl z52
          go_wp2_with fail
          refine (AJ2.out _ _ _ _ (HJC.out.below hbl)).mono ?_
          rintro e mj ⟨rfl, ba⟩
          clear cz50 cz51 cz52
          replace hbl := bstep hbl ba
          clear ba
          have cY8 := ck hbl Y8
          have cY9 := ck hbl Y9
          have cY10 := ck hbl Y10
          go_wp2_with fail
          refine (AO2.out _ _ _ _ (K1.out.c.below hbl)).mono ?_
          rintro e mo ⟨rfl, ba⟩
          clear cY8 cY9 cY10
          replace hbl := bstep hbl ba
          clear ba
          have cz20 := ck hbl z20
          have cz21 := ck hbl z21
          have cz22 := ck hbl z22
          go_wp2_with fail
          refine (AF2.out _ _ _ (HJF.out.below hbl)).mono ?_
          rintro e mf ⟨rfl, ba⟩
          clear cz20 cz21 cz22
          replace hbl := bstep hbl ba
          clear ba
          go_wp2_with fail
          go_roundg (k - (j + 1))
          case measure => omega
          case rel => exact ⟨j + 1, by omega, by omega, by go_num, hbl⟩
        · obtain rfl : j = k := by omega
          have BF := bstep BL hbl
          go_wp2_with fail
          go_ret
          exact ⟨rfl, BF⟩
theorem walk (a0 : Option Addr) (len0 cap0 : Nat) (S : List ByteArray) (a1 : Int) (w : World) (w0 : StrsAt w a0 len0 cap0 S) (w1 : (Lit.int .i64 a1).wf = true) :
    Calls Try.prog 3 #[.slice a0 len0 cap0, .int .i64 a1] w fun e w' => e = .returned (.bool true) ∧ Below w.heap.size w w' :=
  core (fun s => (ofN s : Int)) (botL 5) skFL skT skR skC skJ (fun X x => tmin (skT X) (plc 7 x) 2) (fun Y Z x => occ (skJ Y Z).2 x) (fun Y Z x => occ (skC (Z ++ Y)).2 x)
    (fun s W h => of_c s h W) (fun s => by have := ofN_lt s; omega)
    (fun n xs hn hl hk al cl PB w h hp => fill_c n hn xs hl hk al cl PB w h hp)
    (fun Y Z hY hZ W a a2 n c n2 c2 h h2 => jn_b hY hZ W a a2 n c n2 c2 h h2)
    (fun Y Z W a a2 c c2 h h2 => jn_f Y Z W a a2 c c2 h h2)
    (fun Y Z hl W a a2 c c2 h h2 => jn_t hl W a a2 c c2 h h2)
    (fun Y Z hY hZ W a a2 c c2 h h2 => jn_r hY hZ W a a2 c c2 h h2)
    (fun Y Z hl W a a2 n c n2 c2 h h2 => jn_c hl W a a2 n c n2 c2 h h2)
    (fun X W a a2 n c n2 c2 h h2 => sm_b X W a a2 n c n2 c2 h h2)
    (fun X W a a2 c c2 h h2 => sm_f X W a a2 c c2 h h2)
    (fun X W a a2 c c2 h h2 => sm_t X W a a2 c c2 h h2)
    (fun X W a a2 c c2 h h2 => sm_r X W a a2 c c2 h h2)
    (fun X hl x W a c h => ask_t hl x W a c h)
    (fun Y Z hl x W a n c h => ask_c (skJ Y Z) (skJ_ok Y Z (by rw [List.length_append] at hl ⊢; omega)) x W a n c h)
    (fun Y Z hl x W a n c h => ask_c (skC (Z ++ Y)) (skC_ok _ hl) x W a n c h)
    (fun X x hx W a c h => ask_f x hx W a c h)
    (fun Y Z x hl => by have := sk_ask Y Z x hl; rw [skT_comm Y Z] at this; exact this)
    a0 len0 cap0 S a1 w w0 w1
end Go.Proofs.Ytcbklhicellepaa.topSketches
