/- Contract of the function that EstSpreads hands to each. -/
import Derived.Test.YtboacbimmggleaaSprMath
import Derived.Test.YtboacbimmggleaaEach
namespace Go.Proofs.Ytboacbimmggleaa
open Go.ChangeShapes Go.WideShapes Go.ChangeAt Go.RowKit

/-- By one way: the square of how far the estimate is from the sum. -/
def sqr (vs ls ws : List Int) (n : Nat) (R : Int) : Int := (estS vs ls (drawsOf ws n) n - R) * (estS vs ls (drawsOf ws n) n - R)

theorem est1_bd3 (B v l r : Int) (hl : 0 ≤ l ∧ l ≤ 3) (hv : -B ≤ v ∧ v ≤ B) : -(8 * B) ≤ est1 v l r ∧ est1 v l r ≤ 8 * B := by
  unfold est1
  have hc : l = 0 ∨ l = 1 ∨ l = 2 ∨ l = 3 := by omega
  split
  · rcases hc with rfl | rfl | rfl | rfl
    · show -(8 * B) ≤ v * 2 ^ 0 ∧ v * 2 ^ 0 ≤ 8 * B; omega
    · show -(8 * B) ≤ v * 2 ^ 1 ∧ v * 2 ^ 1 ≤ 8 * B; omega
    · show -(8 * B) ≤ v * 2 ^ 2 ∧ v * 2 ^ 2 ≤ 8 * B; omega
    · show -(8 * B) ≤ v * 2 ^ 3 ∧ v * 2 ^ 3 ≤ 8 * B; omega
  · omega
theorem estS_bd3 (B : Int) (vs ls rs : List Int) : ∀ k, (∀ i, i < k → (0 ≤ gi ls i ∧ gi ls i ≤ 3) ∧ -B ≤ gi vs i ∧ gi vs i ≤ B) → -(8 * B * k) ≤ estS vs ls rs k ∧ estS vs ls rs k ≤ 8 * B * k
  | 0, _ => by simp [estS]
  | k + 1, h => by
    have a := estS_bd3 B vs ls rs k (fun i hi => h i (by omega))
    have b := est1_bd3 B (gi vs k) (gi ls k) (gi rs k) (h k (by omega)).1 (h k (by omega)).2
    simp only [estS]
    rw [Int.natCast_add, Int.mul_add]
    simp
    omega
theorem sq_le (x B : Int) (hB : 0 ≤ B) (h : -B ≤ x ∧ x ≤ B) : 0 ≤ x * x ∧ x * x ≤ B * B := by
  have e : x * x = (x.natAbs : Int) * (x.natAbs : Int) := by rw [← Int.natCast_mul, Int.natAbs_mul_self]
  rw [e]
  exact ⟨Int.mul_nonneg (by omega) (by omega), Int.mul_le_mul (by omega) (by omega) (by omega) hB⟩
set_option maxHeartbeats 4000000 in
theorem sprdo_c (aw av al : Option Addr) (n cw cv cl : Nat) (vs ls ws : List Int) (p7 p8 p12 p11 : Nat) (F R : Int) (w : World)
    (hw : IntsAt w aw n cw ws) (hv : IntsAt w av n cv vs) (hl : IntsAt w al n cl ls) (hn : n ≤ 3) (bv : ∀ i, i < n → -1000 ≤ gi vs i ∧ gi vs i ≤ 1000) (bl : ∀ i, i < n → 0 ≤ gi ls i ∧ gi ls i ≤ 3) (bw : ∀ i, i < n → 0 ≤ gi ws i ∧ gi ws i ≤ 7)
    (hR : -4000 ≤ R ∧ R ≤ 4000) (hF : 0 ≤ F ∧ F ≤ 1000000000000000000)
    (c7 : w.cell? ⟨p7, 0, none⟩ = some (.slice av n cv)) (c8 : w.cell? ⟨p8, 0, none⟩ = some (.slice al n cl)) (c12 : w.cell? ⟨p12, 0, none⟩ = some (.int .i64 F)) (c11 : w.cell? ⟨p11, 0, none⟩ = some (.int .i64 R)) (fz : w.frozen? ⟨p12, 0, none⟩ = false) :
    Calls Try.prog 32 #[.slice aw n cw, .pointer (some ⟨p7, 0, none⟩), .pointer (some ⟨p8, 0, none⟩), .pointer (some ⟨p12, 0, none⟩), .pointer (some ⟨p11, 0, none⟩)] w
      fun e w' => e = .returned (.bool true) ∧ ∃ w1, Below w.heap.size w w1 ∧ w' = w1.setCell ⟨p12, 0, none⟩ (.int .i64 (F + sqr vs ls ws n R)) := by
  obtain ⟨b, o, hz, hx⟩ := hw.split
  have hz' : Hid (n = 0) ∨ aw = some ⟨b, o, none⟩ := hz.imp_left hidp
  have HX := hidp hx
  have mm := hw.max
  have ee := hw.le
  have BV := hidp bv
  have BL := hidp bl
  have BW := hidp bw
  have eb := estS_bd3 1000 vs ls (drawsOf ws n) n (fun i hi => by have := bv i hi; have := bl i hi; omega)
  clear hx hz hw bv bl bw
  have h12 := lt_of_cell c12
  go_enter Try.func32, Try.ntmps32
  go_wp2_with fail
  go_loopw [7, 14] (fun v i wr => ∃ k : Nat, k ≤ n ∧ i = .int .i64 k ∧ wr.ownsRow w.heap.size 3 1 v k ((drawsOf ws k).map (Value.int .i64)) ∧ Below w.heap.size w wr) (fun _ i _ => n - (intOf i).toNat)
  case atStart => exact ⟨0, by omega, rfl, World.ownsRow_nil _ _ _ _, Below.refl _ _⟩
  case round =>
    obtain ⟨k, hk, rfl, hd, hbl⟩ := hrel
    by_cases hlt : k < n
    · obtain rfl : aw = some ⟨b, o, none⟩ := hz'.resolve_left (fun e => by have := e.out; omega)
      have q0 := carry_cell (HX.out k hlt) hbl
      have q1 := (BW.out k hlt).1
      have q2 := (BW.out k hlt).2
      go_wp2_with (at_builtin; refine wpList_append_new rfl (.tmp 18) (.tmp 21) 22 rfl w.heap.size 3 _ 1 8 info_int rfl (by decide) Try.underlying22 _ k _ rfl hd rfl (one_int _ _) rfl rfl (by omega) (by decide) hbl.size ?_; intro v0 x0 nv g0 d0; have bl0 := append_step hd hbl (Nat.le_refl _) g0; clear g0 d0 hd hbl)
      go_roundw
      case rel => exact ⟨k + 1, by omega, by go_num, by unfold drawsOf at *; rw [tab_snoc, List.map_append]; exact nv, bl0⟩
      case measure => simp [intOf]; omega
    · obtain rfl : k = n := by omega
      obtain ⟨ad, cd, hde, hI⟩ := owns_ints hd (fun x hx => by
        obtain ⟨i, hi, rfl⟩ := tab_mem _ _ _ hx
        have := BW.out i hi
        omega)
      subst hde
      have C := hidp (sum_ok av al ad k cv cl cd vs ls (drawsOf ws k) wr (hv.below hbl) (hl.below hbl) hI (by omega) (fun i hi => by have := BV.out i hi; omega) (fun i hi => by have := BL.out i hi; omega) (fun i hi => by
        unfold drawsOf; rw [tab_gi _ _ _ hi]; have := BW.out i hi; omega))
      have s7 := ck hbl c7
      have s8 := ck hbl c8
      clear hd hI hv hl
      go_wp2_with fail
      refine C.out.mono ?_
      rintro e wd ⟨rfl, hbd⟩
      have hbz := bstep hbl hbd
      have s11 := ck hbz c11
      have s12 := ck hbz c12
      have f12 := (hbz.frozen (p := ⟨p12, 0, none⟩) h12).trans fz
      have E := hidp (show sqr vs ls ws k R = (estS vs ls (drawsOf ws k) k - R) * (estS vs ls (drawsOf ws k) k - R) from rfl)
      clear C s7 s8 c7 c8 c11 c12
      generalize estS vs ls (drawsOf ws k) k = S at *
      have hS : -24000 ≤ S ∧ S ≤ 24000 := by omega
      have hD : -28000 ≤ S - R ∧ S - R ≤ 28000 := by omega
      have hQ := sq_le (S - R) 28000 (by omega) hD
      have hbf : Below w.heap.size w wd := hbz
      obtain ⟨R1, R2⟩ := hR
      obtain ⟨F1, F2⟩ := hF
      obtain ⟨D1, D2⟩ := hD
      obtain ⟨Q1, Q2⟩ := hQ
      obtain ⟨S1, S2⟩ := hS
      clear eb hbz
      go_wp2_with fail
      go_ret
      exact ⟨rfl, wd, hbf, by rw [E.out]⟩
end Go.Proofs.Ytboacbimmggleaa
