/- Contracts of culkeep.filled and culref.SameBottom. -/
import Derived.Test.YtcbklhicellepaaBase
import Derived.Test.YtcbklhicellepaaBottom
import Derived.Test.YtcbklhicellepaaEqI
import Derived.Test.YtcbklhicellepaaTake
namespace Go.Proofs.Ytcbklhicellepaa
open Go.ChangeShapes Go.WideShapes Go.ChangeAt Go.RowKit
set_option maxRecDepth 20000
theorem drw_bd (x : Int) : 0 ≤ drw x ∧ drw x < 72057594037927936 := ⟨drw_lo x, drw_hi x⟩
theorem BotOk.ofL {K : Nat} (k1 : 1 ≤ K) (k2 : K ≤ 40) (ys : List Int) : BotOk K (botL K (ys.map drw)) :=
  ⟨k1, k2, botL_len _ _, botL_rising _ _, fun x hx => by
    obtain ⟨y, _, rfl⟩ := List.mem_map.1 (botL_mem _ _ _ hx)
    exact drw_bd y⟩
theorem owns_bot {w : World} {B K : Nat} {g : Option Addr} {n c : Nat} {ys : List Int} (h : w.ownsRow B 3 1 (.slice g n c) n ((botL K (ys.map drw)).map (Value.int .i64))) :
    IntsAt w g n c (botL K (ys.map drw)) ∧ ∀ b o, g = some ⟨b, o, none⟩ → B ≤ b := by
  obtain ⟨_, _, e, h2⟩ := owns_ints h (fun y hy => by
    obtain ⟨z, _, rfl⟩ := List.mem_map.1 (botL_mem _ _ _ hy)
    have := drw_bd z
    omega)
  cases e
  exact ⟨h2, fun b o e => (h.lt b (by rw [e]; rfl)).1⟩
/-- What stands while a bottom is filled. -/
structure BotW (W : World) (H K : Nat) (v : Value) : Prop where
  o0 : W.cell? ⟨H + 1, 0, none⟩ = some (.int .i64 (K : Nat))
  o1 : W.cell? ⟨H + 1, 1, none⟩ = some v
  r0 : ∃ u, W.cell? ⟨H, 0, none⟩ = some u
  r1 : ∃ u, W.cell? ⟨H, 1, none⟩ = some u
  fo : ∀ o, W.frozen? ⟨H + 1, o, none⟩ = false
  fr : ∀ o, W.frozen? ⟨H, o, none⟩ = false
theorem BotW.below {W W' : World} {H K : Nat} {v : Value} (h : BotW W H K v) (hb : Below W.heap.size W W') : BotW W' H K v :=
  ⟨ck hb h.o0, ck hb h.o1, h.r0.imp (fun _ e => ck hb e), h.r1.imp (fun _ e => ck hb e), fun o => (hb.frozen (p := ⟨H + 1, o, none⟩) (show H + 1 < _ from ltc h.o0)).trans (h.fo o), fun o => by
    obtain ⟨u, e⟩ := h.r0
    exact (hb.frozen (p := ⟨H, o, none⟩) (show H < _ from ltc e)).trans (h.fr o)⟩
theorem BotW.put {W : World} {H K : Nat} {v : Value} (h : BotW W H K v) (v' : Value) : BotW ((W.setCell ⟨H + 1, 0, none⟩ (.int .i64 (K : Nat))).setCell ⟨H + 1, 1, none⟩ v') H K v' :=
  ⟨(res2 _ _ h.o0 h.o1).1, (res2 _ _ h.o0 h.o1).2, h.r0.imp (fun _ e => coff (coff e (by omega)) (by omega)), h.r1.imp (fun _ e => coff (coff e (by omega)) (by omega)), fun o => frs (frs (h.fo o)), fun o => frs (frs (h.fr o))⟩
set_option maxHeartbeats 2000000 in
/-- Two bottoms of the same values are the same. -/
theorem samebot_c (K : Nat) (a1 a2 : Option Addr) (n1 n2 c1 c2 : Nat) (xs ys : List Int) (w : World) (h1 : IntsAt w a1 n1 c1 xs) (h2 : IntsAt w a2 n2 c2 ys) (he : xs = ys) :
    Calls Try.prog 21 #[botV K a1 n1 c1, botV K a2 n2 c2] w fun e w' => e = .returned (.bool true) ∧ Below w.heap.size w w' := by
  have hb1 : Below w.heap.size w ((w.alloc (.cells #[.int .i64 (K : Nat), .slice a1 n1 c1] 30)).alloc (.cells #[.int .i64 (K : Nat), .slice a2 n2 c2] 30)) := bal (bal (Below.refl _ _) _) _
  have EQ := hidp (equali_c a1 a2 n1 n2 c1 c2 xs ys _ (h1.below hb1) (h2.below hb1))
  have HB := hidp hb1
  clear hb1 h1 h2
  unfold botV
  go_enter Try.func21, Try.ntmps21
  go_wp2_with fail
  refine EQ.out.mono ?_
  rintro e w' ⟨rfl, hb'⟩
  rw [decide_eq_true he]
  have HB2 := hidp (bstep HB.out hb')
  clear hb' EQ HB
  go_wp2_with fail
  go_ret
  exact ⟨rfl, HB2.out⟩
end Go.Proofs.Ytcbklhicellepaa
