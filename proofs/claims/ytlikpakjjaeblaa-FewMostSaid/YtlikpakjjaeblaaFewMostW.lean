/- The walk of FewMost: the law returns true at all inputs, and no old memory changes. -/
import Derived.Test.YtlikpakjjaeblaaFewKit
import Derived.Test.YtlikpakjjaeblaaMost
import Derived.Test.YtlikpakjjaeblaaConcat2
import Derived.Lib.MinMax
namespace Go.Proofs.Ytlikpakjjaeblaa.fewMost
open Go.ChangeShapes Go.WideShapes Go.ChangeAt Go.RowKit
open Go.Proofs.Ytlikpakjjaeblaa
set_option maxRecDepth 20000
theorem most1 : mostR [4, 4, 9] = (4, true) := by decide
/-- The first k, each made one of three. -/
def three (zs : List Int) (k : Nat) : List Int := (zs.take k).map (fun x => wi x 3)
theorem three_snoc (zs : List Int) (k : Nat) (h : k < zs.length) : three zs (k + 1) = three zs k ++ [wi (gi zs k) 3] := by
  unfold three
  rw [gtake zs k h, List.map_append]; rfl
theorem three_len (zs : List Int) (k : Nat) (h : k ≤ zs.length) : (three zs k).length = k := by
  unfold three
  rw [List.length_map, List.length_take]; omega
/-- The first k, each once. -/
def onesK (xs : List Int) (k : Nat) : List (Int × Int) := (xs.take k).map (fun y => (y, (1 : Int)))
theorem onesK_snoc (xs : List Int) (k : Nat) (h : k < xs.length) : onesK xs (k + 1) = onesK xs k ++ [(gi xs k, 1)] := by
  unfold onesK
  rw [gtake xs k h, List.map_append]; rfl
theorem onesK_len (xs : List Int) (k : Nat) (h : k ≤ xs.length) : (onesK xs k).length = k := by
  unfold onesK
  rw [List.length_map, List.length_take]; omega
set_option linter.unusedVariables false
set_option maxHeartbeats 16000000 in
theorem walk (a0 : Option Addr) (n0 c0 : Nat) (zs : List Int) (a1 : Int) (w : World)
    (w0 : IntsAt w a0 n0 c0 zs) (w1 : (Lit.int .i64 a1).wf = true) :
    Calls Try.prog 10 #[.slice a0 n0 c0, .int .i64 a1] w fun e w' => e = .returned (.bool true) ∧ Below w.heap.size w w' := by
  have P1 := hidp (most_c (some ⟨w.heap.size, 0, none⟩) 3 3 [4, 4, 9] (w.alloc (.cells #[.int .i64 4, .int .i64 4, .int .i64 9] 3)) (ints_lit [4, 4, 9] rfl rfl rfl (by simp) (by omega)) (by omega))
  rw [most1] at P1
  obtain ⟨b, o, hz, hx⟩ := w0.split
  have hz' : Hid (n0 = 0) ∨ a0 = some ⟨b, o, none⟩ := hz.imp_left hidp
  have HX := hidp hx
  have mm := w0.max
  have ee := w0.le
  have LN := hidp w0.len
  obtain ⟨N, hN⟩ : ∃ N : Nat, N = min n0 40 := ⟨_, rfl⟩
  have hN1 : N ≤ 40 := by omega
  have hN2 : N ≤ n0 := by omega
  have hmin : min (n0 : Int) 40 = (N : Int) := by omega
  have SN := hidp (fun k (hk : k < N) => three_snoc zs k (by rw [LN.out]; omega))
  have SL := hidp (fun k (hk : k ≤ N) => three_len zs k (by rw [LN.out]; omega))
  have WN := hidp (fun x W => within_c x 3 (by omega) (by omega) W)
  clear hx hz hN w0 w1
  go_enter Try.func10, Try.ntmps10
  go_wp2_with fail
  refine P1.out.mono ?_
  rintro e w' ⟨rfl, rfl⟩
  have hb0 := bal (Below.refl w.heap.size w) (.cells #[.int .i64 4, .int .i64 4, .int .i64 9] 3)
  go_upto_region 5 with fail
  generalize (w.alloc (.cells #[.int .i64 4, .int .i64 4, .int .i64 9] 3)) = wa at *
  clear P1
  go_wp2_with fail
  go_loopg [8, 44] N (fun gg v i wr => ∃ k : Nat, k ≤ N ∧ N - k ≤ gg ∧ i = .int .i64 k ∧ wr.ownsRow wa.heap.size 3 1 v k ((three zs k).map (Value.int .i64)) ∧ Below wa.heap.size wa wr)
  case atStart => exact ⟨0, by omega, by omega, rfl, World.ownsRow_nil _ _ _ _, Below.refl _ _⟩
  case round =>
    obtain ⟨k, hk, hgg, rfl, hv, hbl⟩ := hrel
    by_cases hlt : k < N
    · obtain rfl : a0 = some ⟨b, o, none⟩ := hz'.resolve_left (fun e => by have := e.out; omega)
      have q := carry_cell (HX.out k (by omega)) (bstep hb0 hbl)
      have S := SN.out k hlt
      have S2 := hidp S
      clear S
      have hgs := hbl.size
      generalize gi zs k = x at *
      go_wp2_with (first
        | (go_at_call 14; refine (WN.out x _).mono ?_; rintro e w' ⟨rfl, rfl⟩)
        | (at_builtin; refine wpList_append_new rfl (.tmp 48) (.tmp 51) 22 rfl wa.heap.size 3 _ 1 8 info_int rfl (by decide) Try.underlying22 _ k _ rfl hv rfl (one_int _ _) rfl rfl (by omega) (by decide) hgs ?_; intro v0 x0 nw g0 d0))
      go_roundg (N - (k + 1))
      case measure => omega
      case rel => exact ⟨k + 1, by omega, by omega, by go_num, by rw [S2.out, List.map_append]; exact nw, append_step hv hbl (Nat.le_refl _) g0⟩
    · obtain rfl : k = N := by omega
      have sl := SL.out k (Nat.le_refl _)
      obtain ⟨S, hS⟩ : ∃ S, S = three zs k := ⟨_, rfl⟩
      rw [← hS] at hv sl
      have SB := hidp (show ∀ y ∈ S, -9223372036854775808 ≤ y ∧ y ≤ 9223372036854775807 from by
        rw [hS]
        intro y hy
        obtain ⟨z, _, rfl⟩ := List.mem_map.1 hy
        have := wi_lo z 3 (by omega)
        have := wi_hi z 3 (by omega)
        omega)
      obtain ⟨a, c, rfl, hI⟩ := owns_ints hv SB.out
      have HI := hidp hI
      have im := hI.max
      have ie := hI.le
      have hw1 := bstep hb0 hbl
      have M1 := hidp (fun W (hB : Below wr.heap.size wr W) => most_c a k c S W (hI.below hB) hN1)
      obtain ⟨T, hT⟩ : ∃ T, T = wn a1 ((k : Int) + 1) := ⟨_, rfl⟩
      have tl := wn_lt a1 ((k : Int) + 1) (by omega)
      have WT := hidp (fun W => withinN_c a1 ((k : Int) + 1) (by omega) (by omega) W)
      rw [← hT] at tl WT
      have MT := hidp (most_turn S T)
      have HF := hidp (fun (h : (mostR S).2 = true) => few_half S (mostR S).1 (by
        unfold mostR at h ⊢
        split at h
        · rename_i hh; rw [if_pos hh]; exact hh
        · cases h))
      obtain ⟨⟨mo, is⟩, hm⟩ : ∃ m, m = mostR S := ⟨_, rfl⟩
      rw [← hm] at M1 MT HF
      dsimp only at HF M1
      have hne : (is != is) = false := by cases is <;> rfl
      have hne2 : (mo != mo) = false := by simp
      have hTk : T ≤ k := by omega
      clear hS hT hv hI hbl hb0 hm SN SL WN
      go_wp2_with fail
      refine (WT.out _).mono ?_
      rintro e w' ⟨rfl, rfl⟩
      go_wp2_with fail
      refine (M1.out _ (Below.refl _ _)).mono ?_
      rintro e w' ⟨rfl, rfl⟩
      have RD := run_drop a k c T hTk
      have hTc : T ≤ c := by omega
      have CC0 := concat2_g (dropA a T c) a (k - T) T (c - T) c (S.drop T) (S.take T) wr (wr.alloc (.cells #[.slice (dropA a T c) (k - T) (c - T), .slice a T c] 22)).drew wr.heap.size rfl (HI.out.drop T hTk) (HI.out.take T hTk) (by omega) (Below.refl _ _).drew
      rw [Nat.sub_add_cancel hTk] at CC0
      have CC := hidp CC0
      clear CC0
      have hbc := hidp ((bal (Below.refl wr.heap.size wr) (.cells #[.slice (dropA a T c) (k - T) (c - T), .slice a T c] 22)).drew)
      have M2 := hidp (fun (aj : Option Addr) cj W (h : IntsAt W aj k cj (S.drop T ++ S.take T)) => show Calls Try.prog 32 #[.slice aj k cj] W fun e w' => e = .returned (.tuple #[.int .i64 mo, .bool is, .int .i64 0]) ∧ W = w' from by
        have := most_c aj k cj _ W h (by omega)
        rw [MT.out] at this
        exact this)
      clear M1 WT
      go_wp2_with fail
      go_region_with (first
        | (go_at_call 17; go_loud (refine CC.out.mono ?_; rintro e vj ⟨ja, jc, rfl, hj, hbd⟩; have hbv := bstep hbc.out hbd))
        | (go_at_call 32; go_loud (refine Calls.mono (M2.out ja jc _ hj) ?_; rintro e vp ⟨rfl, rfl⟩)))
      have hw2 := bstep hw1 hbv
      have HI2 := hidp (HI.out.below hbv)
      have ON := hidp (fun j (hj : j < k) => onesK_snoc S j (by omega))
      have OL := hidp (fun j (hj : j ≤ k) => onesK_len S j (by omega))
      have OA := hidp (show onesK S k = S.map (fun y => (y, (1 : Int))) by unfold onesK; rw [← sl, List.take_length])
      have HD := hidp (show ∀ p ∈ onesK S k, 1 ≤ p.2 from by
        rw [OA.out]
        intro p hp
        obtain ⟨y, _, rfl⟩ := List.mem_map.1 hp
        exact Int.le_refl _)
      have HS := hidp (show csum (onesK S k) ≤ 1000000000000 by rw [OA.out, ones_csum]; omega)
      clear hbv hbd hj CC hbc RD M2 hw1
      go_wp2_with fail
      go_loopg [17, 96] k (fun gg v i wx => ∃ j : Nat, j ≤ k ∧ k - j ≤ gg ∧ i = .int .i64 j ∧ wx.ownsRow vj.heap.size 51 2 v j (cntV (onesK S j)) ∧ Below vj.heap.size vj wx)
      case atStart => exact ⟨0, by omega, by omega, rfl, World.ownsRow_nil _ _ _ _, Below.refl _ _⟩
      case round =>
        obtain ⟨j, hj, hgj, rfl, hv, hbl⟩ := hrel
        by_cases hlj : j < k
        · obtain ⟨b2, o2, rfl, hb2, hc2⟩ := HI2.out.addr (by omega)
          have q := carry_cell ⟨hb2, hc2 j hlj⟩ hbl
          have S2 := hidp (ON.out j hlj)
          have hgs := hbl.size
          generalize gi S j = x at *
          clear hc2
          go_wp2_with (at_builtin; refine wpList_append_new rfl (.tmp 100) (.tmp 103) 43 rfl vj.heap.size 51 _ 2 16 info_cnt rfl (by decide) Try.underlying43 _ j _ rfl hv rfl (one_two _ _) rfl rfl (by omega) (by decide) hgs ?_; intro v0 x0 nw g0 d0)
          go_roundg (k - (j + 1))
          case measure => omega
          case rel => exact ⟨j + 1, by omega, by omega, by go_num, by rw [S2.out, cntV_snoc]; exact nw, append_step hv hbl (Nat.le_refl _) g0⟩
        · obtain rfl : j = k := by omega
          obtain ⟨ac, cc, rfl, hC⟩ := owns_cnts hv
          have hw3 := bstep hw2 hbl
          have HC := hidp (heard_c 1 ac j cc (onesK S j) _ hC (by omega) (by omega) HD.out HS.out)
          rw [OA.out] at HC
          clear hC hbl hv HD HS OA ON OL hw2 HI2
          obtain ⟨F, hFd⟩ : ∃ F, F = fewL 1 (S.map (fun y => (y, (1 : Int)))) := ⟨_, rfl⟩
          rw [← hFd] at HC HF
          clear hFd
          unfold fewV at *
          go_wp2_with fail
          refine HC.out.mono ?_
          rintro e v2 ⟨at_, nt, ct, rfl, hO, hb⟩
          obtain ⟨_, _, he, hr⟩ := owns_cnts hO
          cases he
          have hx4 := bal hb (.cells #[.int .i64 1, .int .i64 F.1, .slice at_ nt ct] 45)
          have hw4 := bstep hw3 hx4
          have HT := hidp (hr.below (bal (Below.refl _ _) (.cells #[.int .i64 1, .int .i64 F.1, .slice at_ nt ct] 45)))
          clear hx4 hr hO hb hw3 HC
          cases is with
          | false =>
            go_wp2_with fail
            go_ret
            exact ⟨rfl, hw4⟩
          | true =>
            obtain ⟨nn, hF2⟩ := HF.out rfl
            rw [hF2] at HT
            obtain rfl : nt = 1 := HT.out.len.symm
            obtain ⟨b4, o4, rfl, hb4, hc4⟩ := HT.out.cells (by omega)
            have q := (hc4 0 (by omega)).1
            rw [Nat.zero_mul, Nat.add_zero] at q
            have q1 : (v2.alloc (.cells #[.int .i64 1, .int .i64 F.1, .slice (some ⟨b4, o4, none⟩) 1 ct] 45)).cell? ⟨b4, o4, none⟩ = some (.int .i64 mo) := q
            have t2 : (v2.alloc (.cells #[.int .i64 1, .int .i64 F.1, .slice (some ⟨b4, o4, none⟩) 1 ct] 45)).cell? ⟨v2.heap.size, 2, none⟩ = some (.slice (some ⟨b4, o4, none⟩) 1 ct) := by go_simp
            have lc := HT.out.le
            have lm := HT.out.max
            have hmm : (mo == mo) = true := by simp
            clear hc4 q HT HF hF2 hb4
            go_upto_region 22 with fail
            generalize (v2.alloc (.cells #[.int .i64 1, .int .i64 F.1, .slice (some ⟨b4, o4, none⟩) 1 ct] 45)) = v3 at *
            generalize v2.heap.size = Q at *
            go_wp2_with fail
            go_ret
            exact ⟨rfl, hw4⟩
end Go.Proofs.Ytlikpakjjaeblaa.fewMost
