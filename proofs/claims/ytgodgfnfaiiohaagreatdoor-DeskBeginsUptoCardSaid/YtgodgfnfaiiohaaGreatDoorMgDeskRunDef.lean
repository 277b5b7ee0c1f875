/- Merged: DeskRdA, DeskRdB, DeskRead, DeskCatch, DeskAns, DeskAnswer, DeskAnswer2, DeskBuild, DeskRunDef. -/
import Derived.Test.YtgodgfnfaiiohaaGreatDoorMgDeskRd
import Derived.Test.YtgodgfnfaiiohaaGreatDoorDeskMap
import Derived.Tactics
import Derived.Tactics2
import Derived.Defers
import Derived.Recover
import Derived.Laws.Pointers
import Derived.Lib.Builder
import Derived.Lib.AppendStr
/- 'read' at each word. -/
namespace Go.Proofs.YtgodgfnfaiiohaaGreatDoor
open Go.ChangeShapes Go.WideShapes Go.ChangeAt Go.RowKit
set_option maxRecDepth 20000
set_option linter.unusedVariables false
set_option maxHeartbeats 4000000 in
theorem rd_hash (P PW : Nat) (L : List ByteArray) (n : Nat) (w : World) (hW : WdAt w PW L n 1) (hT : Tabs w) (h8 : 8 ≤ PW) (hs : ∀ i, (wg L i).size ≤ 65536) :
    Calls Tryz.prog 26 #[.pointer (some ⟨P, 0, none⟩), .string ⟨#[104, 97, 115, 104]⟩, .pointer (some ⟨PW, 0, none⟩)] w (ReadP w P PW L n ((nxS L n 1).bind fun v1 => some (.hash v1, 2))) := by
  have HT := hidp hT
  have HS := hidp hs
  have HW := hidp hW
  have hmf : ∀ (fn : Fn) (first cap : Array Value) (w : World), (Instr.makeFunc fn first cap).run Tryz.prog w = .ok (.func fn first cap) w := fun _ _ _ _ => rfl
  clear hT hs hW
  unfold ReadP
  go_enter Tryz.func26, Tryz.ntmps26
  go_wp2_with fail
  refine (next_x PW L n 1 _ HW.out HS.out).mono ?_
  rintro e w1 ⟨⟨v1, h1, p1, rfl, hW1⟩ | ⟨h1, rfl⟩, hg1⟩
  rotate_left
  · have H1 := hidp h1
    have HG1 := hidp (hg1)
    clear h1 hg1
    go_wp2
    exact ⟨rfl, .inr ⟨by simp [H1.out], rfl⟩, HG1.out⟩
  have H1 := hidp h1
  have HG1 := hidp (hg1)
  have HW1 := hidp hW1
  have HT1 := hidp (HT.out.grown hg1 h8)
  have HP1 := hidp p1
  have HS1 := hidp hg1
  clear h1 hg1 hW1 p1
  go_wp2_with fail
  go_ret
  exact ⟨.inl ⟨.hash v1, 2, _, _, by simp [H1.out], rfl, HW1.out.below (bal (Below.refl _ _) _), hidp (doable_of (fun _ _ => by kernel_rfl) (fun D => rfl) (fun F W D hB hD ho hT => do_hash _ v1 D W hT (ck hB (by go_simp)) HP1.out))⟩, gb_trans HG1.out (gb_of (bal (Below.refl _ _) _) _)⟩
set_option maxHeartbeats 4000000 in
theorem rd_th (P PW : Nat) (L : List ByteArray) (n : Nat) (w : World) (hW : WdAt w PW L n 1) (hT : Tabs w) (h8 : 8 ≤ PW) (hs : ∀ i, (wg L i).size ≤ 65536) :
    Calls Tryz.prog 26 #[.pointer (some ⟨P, 0, none⟩), .string ⟨#[116, 104]⟩, .pointer (some ⟨PW, 0, none⟩)] w (ReadP w P PW L n ((nmS L n 1).bind fun v1 => some (.th v1, 2))) := by
  have HT := hidp hT
  have HS := hidp hs
  have HW := hidp hW
  have hmf : ∀ (fn : Fn) (first cap : Array Value) (w : World), (Instr.makeFunc fn first cap).run Tryz.prog w = .ok (.func fn first cap) w := fun _ _ _ _ => rfl
  clear hT hs hW
  unfold ReadP
  go_enter Tryz.func26, Tryz.ntmps26
  go_wp2_with fail
  refine (num_x PW L n 1 _ HW.out HT.out h8 HS.out).mono ?_
  rintro e w1 ⟨⟨v1, h1, p1, rfl, hW1⟩ | ⟨h1, rfl⟩, hg1⟩
  rotate_left
  · have H1 := hidp h1
    have HG1 := hidp (hg1)
    clear h1 hg1
    go_wp2
    exact ⟨rfl, .inr ⟨by simp [H1.out], rfl⟩, HG1.out⟩
  have H1 := hidp h1
  have HG1 := hidp (hg1)
  have HW1 := hidp hW1
  have HT1 := hidp (HT.out.grown hg1 h8)
  have HP1 := hidp p1
  have HS1 := hidp hg1
  clear h1 hg1 hW1 p1
  go_wp2_with fail
  go_ret
  exact ⟨.inl ⟨.th v1, 2, _, _, by simp [H1.out], rfl, HW1.out.below (bal (Below.refl _ _) _), hidp (doable_of (fun _ _ => by kernel_rfl) (fun D => rfl) (fun F W D hB hD ho hT => do_th _ v1 D W hT (ck hB (by go_simp)) HP1.out))⟩, gb_trans HG1.out (gb_of (bal (Below.refl _ _) _) _)⟩
set_option maxHeartbeats 4000000 in
theorem rd_part (P PW : Nat) (L : List ByteArray) (n : Nat) (w : World) (hW : WdAt w PW L n 1) (hT : Tabs w) (h8 : 8 ≤ PW) (hs : ∀ i, (wg L i).size ≤ 65536) :
    Calls Tryz.prog 26 #[.pointer (some ⟨P, 0, none⟩), .string ⟨#[112, 97, 114, 116]⟩, .pointer (some ⟨PW, 0, none⟩)] w (ReadP w P PW L n ((nmS L n 1).bind fun v1 => (nmS L n 2).bind fun v2 => some (.part v1 v2, 3))) := by
  have HT := hidp hT
  have HS := hidp hs
  have HW := hidp hW
  have hmf : ∀ (fn : Fn) (first cap : Array Value) (w : World), (Instr.makeFunc fn first cap).run Tryz.prog w = .ok (.func fn first cap) w := fun _ _ _ _ => rfl
  clear hT hs hW
  unfold ReadP
  go_enter Tryz.func26, Tryz.ntmps26
  go_wp2_with fail
  refine (num_x PW L n 1 _ HW.out HT.out h8 HS.out).mono ?_
  rintro e w1 ⟨⟨v1, h1, p1, rfl, hW1⟩ | ⟨h1, rfl⟩, hg1⟩
  rotate_left
  · have H1 := hidp h1
    have HG1 := hidp (hg1)
    clear h1 hg1
    go_wp2
    exact ⟨rfl, .inr ⟨by simp [H1.out], rfl⟩, HG1.out⟩
  have H1 := hidp h1
  have HG1 := hidp (hg1)
  have HW1 := hidp hW1
  have HT1 := hidp (HT.out.grown hg1 h8)
  have HP1 := hidp p1
  have HS1 := hidp hg1
  clear h1 hg1 hW1 p1
  go_wp2_with fail
  refine (num_x PW L n 2 _ HW1.out HT1.out h8 HS.out).mono ?_
  rintro e w2 ⟨⟨v2, h2, p2, rfl, hW2⟩ | ⟨h2, rfl⟩, hg2⟩
  rotate_left
  · have H2 := hidp h2
    have HG2 := hidp (gb_trans HG1.out hg2)
    clear h2 hg2
    go_wp2
    exact ⟨rfl, .inr ⟨by simp [H1.out, H2.out], rfl⟩, HG2.out⟩
  have H2 := hidp h2
  have HG2 := hidp (gb_trans HG1.out hg2)
  have HW2 := hidp hW2
  have HT2 := hidp (HT1.out.grown hg2 h8)
  have HP2 := hidp p2
  have HS2 := hidp hg2
  clear h2 hg2 hW2 p2
  go_wp2_with fail
  go_ret
  exact ⟨.inl ⟨.part v1 v2, 3, _, _, by simp [H1.out, H2.out], rfl, HW2.out.below (bal (bal (Below.refl _ _) _) _), hidp (doable_of (fun _ _ => by kernel_rfl) (fun D => rfl) (fun F W D hB hD ho hT => do_part _ v1 _ v2 D W hT (ck hB (by go_simp)) HP1.out (ck hB (by go_simp)) HP2.out))⟩, gb_trans HG2.out (gb_of (bal (bal (Below.refl _ _) _) _) _)⟩
set_option maxHeartbeats 4000000 in
theorem rd_count (P PW : Nat) (L : List ByteArray) (n : Nat) (w : World) (hW : WdAt w PW L n 1) (hT : Tabs w) (h8 : 8 ≤ PW) (hs : ∀ i, (wg L i).size ≤ 65536) :
    Calls Tryz.prog 26 #[.pointer (some ⟨P, 0, none⟩), .string ⟨#[99, 111, 117, 110, 116]⟩, .pointer (some ⟨PW, 0, none⟩)] w (ReadP w P PW L n ((nmS L n 1).bind fun v1 => (nmS L n 2).bind fun v2 => some (.count v1 v2, 3))) := by
  have HT := hidp hT
  have HS := hidp hs
  have HW := hidp hW
  have hmf : ∀ (fn : Fn) (first cap : Array Value) (w : World), (Instr.makeFunc fn first cap).run Tryz.prog w = .ok (.func fn first cap) w := fun _ _ _ _ => rfl
  clear hT hs hW
  unfold ReadP
  go_enter Tryz.func26, Tryz.ntmps26
  go_wp2_with fail
  refine (num_x PW L n 1 _ HW.out HT.out h8 HS.out).mono ?_
  rintro e w1 ⟨⟨v1, h1, p1, rfl, hW1⟩ | ⟨h1, rfl⟩, hg1⟩
  rotate_left
  · have H1 := hidp h1
    have HG1 := hidp (hg1)
    clear h1 hg1
    go_wp2
    exact ⟨rfl, .inr ⟨by simp [H1.out], rfl⟩, HG1.out⟩
  have H1 := hidp h1
  have HG1 := hidp (hg1)
  have HW1 := hidp hW1
  have HT1 := hidp (HT.out.grown hg1 h8)
  have HP1 := hidp p1
  have HS1 := hidp hg1
  clear h1 hg1 hW1 p1
  go_wp2_with fail
  refine (num_x PW L n 2 _ HW1.out HT1.out h8 HS.out).mono ?_
  rintro e w2 ⟨⟨v2, h2, p2, rfl, hW2⟩ | ⟨h2, rfl⟩, hg2⟩
  rotate_left
  · have H2 := hidp h2
    have HG2 := hidp (gb_trans HG1.out hg2)
    clear h2 hg2
    go_wp2
    exact ⟨rfl, .inr ⟨by simp [H1.out, H2.out], rfl⟩, HG2.out⟩
  have H2 := hidp h2
  have HG2 := hidp (gb_trans HG1.out hg2)
  have HW2 := hidp hW2
  have HT2 := hidp (HT1.out.grown hg2 h8)
  have HP2 := hidp p2
  have HS2 := hidp hg2
  clear h2 hg2 hW2 p2
  go_wp2_with fail
  go_ret
  exact ⟨.inl ⟨.count v1 v2, 3, _, _, by simp [H1.out, H2.out], rfl, HW2.out.below (bal (bal (Below.refl _ _) _) _), hidp (doable_of (fun _ _ => by kernel_rfl) (fun D => rfl) (fun F W D hB hD ho hT => do_count _ v1 _ v2 D W hT (ck hB (by go_simp)) HP1.out (ck hB (by go_simp)) HP2.out))⟩, gb_trans HG2.out (gb_of (bal (bal (Below.refl _ _) _) _) _)⟩
set_option maxHeartbeats 4000000 in
theorem rd_mark (P PW : Nat) (L : List ByteArray) (n : Nat) (w : World) (hW : WdAt w PW L n 1) (hT : Tabs w) (h8 : 8 ≤ PW) (hs : ∀ i, (wg L i).size ≤ 65536) :
    Calls Tryz.prog 26 #[.pointer (some ⟨P, 0, none⟩), .string ⟨#[109, 97, 114, 107]⟩, .pointer (some ⟨PW, 0, none⟩)] w (ReadP w P PW L n ((nxS L n 1).bind fun v1 => some (.mark v1, 2))) := by
  have HT := hidp hT
  have HS := hidp hs
  have HW := hidp hW
  have hmf : ∀ (fn : Fn) (first cap : Array Value) (w : World), (Instr.makeFunc fn first cap).run Tryz.prog w = .ok (.func fn first cap) w := fun _ _ _ _ => rfl
  clear hT hs hW
  unfold ReadP
  go_enter Tryz.func26, Tryz.ntmps26
  go_wp2_with fail
  refine (next_x PW L n 1 _ HW.out HS.out).mono ?_
  rintro e w1 ⟨⟨v1, h1, p1, rfl, hW1⟩ | ⟨h1, rfl⟩, hg1⟩
  rotate_left
  · have H1 := hidp h1
    have HG1 := hidp (hg1)
    clear h1 hg1
    go_wp2
    exact ⟨rfl, .inr ⟨by simp [H1.out], rfl⟩, HG1.out⟩
  have H1 := hidp h1
  have HG1 := hidp (hg1)
  have HW1 := hidp hW1
  have HT1 := hidp (HT.out.grown hg1 h8)
  have HP1 := hidp p1
  have HS1 := hidp hg1
  clear h1 hg1 hW1 p1
  go_wp2_with fail
  go_ret
  exact ⟨.inl ⟨.mark v1, 2, _, _, by simp [H1.out], rfl, HW1.out.below (bal (Below.refl _ _) _), hidp (doable_of (fun _ _ => by kernel_rfl) (fun D => rfl) (fun F W D hB hD ho hT => do_mark _ v1 D W hT (ck hB (by go_simp))))⟩, gb_trans HG1.out (gb_of (bal (Below.refl _ _) _) _)⟩
set_option maxHeartbeats 4000000 in
theorem rd_some (P PW : Nat) (L : List ByteArray) (n : Nat) (w : World) (hW : WdAt w PW L n 1) (hT : Tabs w) (h8 : 8 ≤ PW) (hs : ∀ i, (wg L i).size ≤ 65536) :
    Calls Tryz.prog 26 #[.pointer (some ⟨P, 0, none⟩), .string ⟨#[115, 111, 109, 101]⟩, .pointer (some ⟨PW, 0, none⟩)] w (ReadP w P PW L n ((nmS L n 1).bind fun v1 => (nmS L n 2).bind fun v2 => some (.some v1 v2, 3))) := by
  have HT := hidp hT
  have HS := hidp hs
  have HW := hidp hW
  have hmf : ∀ (fn : Fn) (first cap : Array Value) (w : World), (Instr.makeFunc fn first cap).run Tryz.prog w = .ok (.func fn first cap) w := fun _ _ _ _ => rfl
  clear hT hs hW
  unfold ReadP
  go_enter Tryz.func26, Tryz.ntmps26
  go_wp2_with fail
  refine (num_x PW L n 1 _ HW.out HT.out h8 HS.out).mono ?_
  rintro e w1 ⟨⟨v1, h1, p1, rfl, hW1⟩ | ⟨h1, rfl⟩, hg1⟩
  rotate_left
  · have H1 := hidp h1
    have HG1 := hidp (hg1)
    clear h1 hg1
    go_wp2
    exact ⟨rfl, .inr ⟨by simp [H1.out], rfl⟩, HG1.out⟩
  have H1 := hidp h1
  have HG1 := hidp (hg1)
  have HW1 := hidp hW1
  have HT1 := hidp (HT.out.grown hg1 h8)
  have HP1 := hidp p1
  have HS1 := hidp hg1
  clear h1 hg1 hW1 p1
  go_wp2_with fail
  refine (num_x PW L n 2 _ HW1.out HT1.out h8 HS.out).mono ?_
  rintro e w2 ⟨⟨v2, h2, p2, rfl, hW2⟩ | ⟨h2, rfl⟩, hg2⟩
  rotate_left
  · have H2 := hidp h2
    have HG2 := hidp (gb_trans HG1.out hg2)
    clear h2 hg2
    go_wp2
    exact ⟨rfl, .inr ⟨by simp [H1.out, H2.out], rfl⟩, HG2.out⟩
  have H2 := hidp h2
  have HG2 := hidp (gb_trans HG1.out hg2)
  have HW2 := hidp hW2
  have HT2 := hidp (HT1.out.grown hg2 h8)
  have HP2 := hidp p2
  have HS2 := hidp hg2
  clear h2 hg2 hW2 p2
  go_wp2_with fail
  go_ret
  exact ⟨.inl ⟨.some v1 v2, 3, _, _, by simp [H1.out, H2.out], rfl, HW2.out.below (bal (bal (Below.refl _ _) _) _), hidp (doable_of (fun _ _ => by kernel_rfl) (fun D => rfl) (fun F W D hB hD ho hT => do_some _ v1 _ v2 D W hT (ck hB (by go_simp)) HP1.out (ck hB (by go_simp)) HP2.out))⟩, gb_trans HG2.out (gb_of (bal (bal (Below.refl _ _) _) _) _)⟩
set_option maxHeartbeats 4000000 in
theorem rd_order (P PW : Nat) (L : List ByteArray) (n : Nat) (w : World) (hW : WdAt w PW L n 1) (hT : Tabs w) (h8 : 8 ≤ PW) (hs : ∀ i, (wg L i).size ≤ 65536) :
    Calls Tryz.prog 26 #[.pointer (some ⟨P, 0, none⟩), .string ⟨#[111, 114, 100, 101, 114]⟩, .pointer (some ⟨PW, 0, none⟩)] w (ReadP w P PW L n ((nmS L n 1).bind fun v1 => (nmS L n 2).bind fun v2 => some (.order v1 v2, 3))) := by
  have HT := hidp hT
  have HS := hidp hs
  have HW := hidp hW
  have hmf : ∀ (fn : Fn) (first cap : Array Value) (w : World), (Instr.makeFunc fn first cap).run Tryz.prog w = .ok (.func fn first cap) w := fun _ _ _ _ => rfl
  clear hT hs hW
  unfold ReadP
  go_enter Tryz.func26, Tryz.ntmps26
  go_wp2_with fail
  refine (num_x PW L n 1 _ HW.out HT.out h8 HS.out).mono ?_
  rintro e w1 ⟨⟨v1, h1, p1, rfl, hW1⟩ | ⟨h1, rfl⟩, hg1⟩
  rotate_left
  · have H1 := hidp h1
    have HG1 := hidp (hg1)
    clear h1 hg1
    go_wp2
    exact ⟨rfl, .inr ⟨by simp [H1.out], rfl⟩, HG1.out⟩
  have H1 := hidp h1
  have HG1 := hidp (hg1)
  have HW1 := hidp hW1
  have HT1 := hidp (HT.out.grown hg1 h8)
  have HP1 := hidp p1
  have HS1 := hidp hg1
  clear h1 hg1 hW1 p1
  go_wp2_with fail
  refine (num_x PW L n 2 _ HW1.out HT1.out h8 HS.out).mono ?_
  rintro e w2 ⟨⟨v2, h2, p2, rfl, hW2⟩ | ⟨h2, rfl⟩, hg2⟩
  rotate_left
  · have H2 := hidp h2
    have HG2 := hidp (gb_trans HG1.out hg2)
    clear h2 hg2
    go_wp2
    exact ⟨rfl, .inr ⟨by simp [H1.out, H2.out], rfl⟩, HG2.out⟩
  have H2 := hidp h2
  have HG2 := hidp (gb_trans HG1.out hg2)
  have HW2 := hidp hW2
  have HT2 := hidp (HT1.out.grown hg2 h8)
  have HP2 := hidp p2
  have HS2 := hidp hg2
  clear h2 hg2 hW2 p2
  go_wp2_with fail
  go_ret
  exact ⟨.inl ⟨.order v1 v2, 3, _, _, by simp [H1.out, H2.out], rfl, HW2.out.below (bal (bal (Below.refl _ _) _) _), hidp (doable_of (fun _ _ => by kernel_rfl) (fun D => rfl) (fun F W D hB hD ho hT => do_order _ v1 _ v2 D W hT (ck hB (by go_simp)) HP1.out (ck hB (by go_simp)) HP2.out))⟩, gb_trans HG2.out (gb_of (bal (bal (Below.refl _ _) _) _) _)⟩
set_option maxHeartbeats 4000000 in
theorem rd_fair (P PW : Nat) (L : List ByteArray) (n : Nat) (w : World) (hW : WdAt w PW L n 1) (hT : Tabs w) (h8 : 8 ≤ PW) (hs : ∀ i, (wg L i).size ≤ 65536) :
    Calls Tryz.prog 26 #[.pointer (some ⟨P, 0, none⟩), .string ⟨#[102, 97, 105, 114]⟩, .pointer (some ⟨PW, 0, none⟩)] w (ReadP w P PW L n ((nmS L n 1).bind fun v1 => (lsS L n 2).bind fun v2 => some (.fair v1 v2, 3))) := by
  have HT := hidp hT
  have HS := hidp hs
  have HW := hidp hW
  have hmf : ∀ (fn : Fn) (first cap : Array Value) (w : World), (Instr.makeFunc fn first cap).run Tryz.prog w = .ok (.func fn first cap) w := fun _ _ _ _ => rfl
  clear hT hs hW
  unfold ReadP
  go_enter Tryz.func26, Tryz.ntmps26
  go_wp2_with fail
  refine (num_x PW L n 1 _ HW.out HT.out h8 HS.out).mono ?_
  rintro e w1 ⟨⟨v1, h1, p1, rfl, hW1⟩ | ⟨h1, rfl⟩, hg1⟩
  rotate_left
  · have H1 := hidp h1
    have HG1 := hidp (hg1)
    clear h1 hg1
    go_wp2
    exact ⟨rfl, .inr ⟨by simp [H1.out], rfl⟩, HG1.out⟩
  have H1 := hidp h1
  have HG1 := hidp (hg1)
  have HW1 := hidp hW1
  have HT1 := hidp (HT.out.grown hg1 h8)
  have HP1 := hidp p1
  have HS1 := hidp hg1
  clear h1 hg1 hW1 p1
  go_wp2_with fail
  refine (list_x PW L n 2 _ HW1.out HT1.out h8 HS.out).mono ?_
  rintro e w2 ⟨⟨a2, m2, c2, v2, h2, rfl, p2, hW2⟩ | ⟨h2, rfl⟩, hg2⟩
  rotate_left
  · have H2 := hidp h2
    have HG2 := hidp (gb_trans HG1.out hg2)
    clear h2 hg2
    go_wp2
    exact ⟨rfl, .inr ⟨by simp [H1.out, H2.out], rfl⟩, HG2.out⟩
  have H2 := hidp h2
  have HG2 := hidp (gb_trans HG1.out hg2)
  have HW2 := hidp hW2
  have HT2 := hidp (HT1.out.grown hg2 h8)
  have HP2 := hidp p2
  have HS2 := hidp hg2
  clear h2 hg2 hW2 p2
  go_wp2_with fail
  go_ret
  have HI2 := hidp (HP2.out.1)
  exact ⟨.inl ⟨.fair v1 v2, 3, _, _, by simp [H1.out, H2.out], rfl, HW2.out.below (bal (bal (Below.refl _ _) _) _), hidp (doable_of (fun _ _ => by kernel_rfl) (fun D => rfl) (fun F W D hB hD ho hT => do_fair _ v1 _ a2 m2 c2 v2 D W hT (ck hB (by go_simp)) HP1.out (ck hB (by go_simp)) ((HI2.out.below (bal (bal (Below.refl _ _) _) _)).below hB)))⟩, gb_trans HG2.out (gb_of (bal (bal (Below.refl _ _) _) _) _)⟩
set_option maxHeartbeats 4000000 in
theorem rd_level (P PW : Nat) (L : List ByteArray) (n : Nat) (w : World) (hW : WdAt w PW L n 1) (hT : Tabs w) (h8 : 8 ≤ PW) (hs : ∀ i, (wg L i).size ≤ 65536) :
    Calls Tryz.prog 26 #[.pointer (some ⟨P, 0, none⟩), .string ⟨#[108, 101, 118, 101, 108]⟩, .pointer (some ⟨PW, 0, none⟩)] w (ReadP w P PW L n ((nmS L n 1).bind fun v1 => (lsS L n 2).bind fun v2 => some (.level v1 v2, 3))) := by
  have HT := hidp hT
  have HS := hidp hs
  have HW := hidp hW
  have hmf : ∀ (fn : Fn) (first cap : Array Value) (w : World), (Instr.makeFunc fn first cap).run Tryz.prog w = .ok (.func fn first cap) w := fun _ _ _ _ => rfl
  clear hT hs hW
  unfold ReadP
  go_enter Tryz.func26, Tryz.ntmps26
  go_wp2_with fail
  refine (num_x PW L n 1 _ HW.out HT.out h8 HS.out).mono ?_
  rintro e w1 ⟨⟨v1, h1, p1, rfl, hW1⟩ | ⟨h1, rfl⟩, hg1⟩
  rotate_left
  · have H1 := hidp h1
    have HG1 := hidp (hg1)
    clear h1 hg1
    go_wp2
    exact ⟨rfl, .inr ⟨by simp [H1.out], rfl⟩, HG1.out⟩
  have H1 := hidp h1
  have HG1 := hidp (hg1)
  have HW1 := hidp hW1
  have HT1 := hidp (HT.out.grown hg1 h8)
  have HP1 := hidp p1
  have HS1 := hidp hg1
  clear h1 hg1 hW1 p1
  go_wp2_with fail
  refine (list_x PW L n 2 _ HW1.out HT1.out h8 HS.out).mono ?_
  rintro e w2 ⟨⟨a2, m2, c2, v2, h2, rfl, p2, hW2⟩ | ⟨h2, rfl⟩, hg2⟩
  rotate_left
  · have H2 := hidp h2
    have HG2 := hidp (gb_trans HG1.out hg2)
    clear h2 hg2
    go_wp2
    exact ⟨rfl, .inr ⟨by simp [H1.out, H2.out], rfl⟩, HG2.out⟩
  have H2 := hidp h2
  have HG2 := hidp (gb_trans HG1.out hg2)
  have HW2 := hidp hW2
  have HT2 := hidp (HT1.out.grown hg2 h8)
  have HP2 := hidp p2
  have HS2 := hidp hg2
  clear h2 hg2 hW2 p2
  go_wp2_with fail
  go_ret
  have HI2 := hidp (HP2.out.1)
  exact ⟨.inl ⟨.level v1 v2, 3, _, _, by simp [H1.out, H2.out], rfl, HW2.out.below (bal (bal (Below.refl _ _) _) _), hidp (doable_of (fun _ _ => by kernel_rfl) (fun D => rfl) (fun F W D hB hD ho hT => do_level _ v1 _ a2 m2 c2 v2 D W hT (ck hB (by go_simp)) HP1.out (ck hB (by go_simp)) ((HI2.out.below (bal (bal (Below.refl _ _) _) _)).below hB)))⟩, gb_trans HG2.out (gb_of (bal (bal (Below.refl _ _) _) _) _)⟩
set_option maxHeartbeats 4000000 in
theorem rd_pick (P PW : Nat) (L : List ByteArray) (n : Nat) (w : World) (hW : WdAt w PW L n 1) (hT : Tabs w) (h8 : 8 ≤ PW) (hs : ∀ i, (wg L i).size ≤ 65536) :
    Calls Tryz.prog 26 #[.pointer (some ⟨P, 0, none⟩), .string ⟨#[112, 105, 99, 107]⟩, .pointer (some ⟨PW, 0, none⟩)] w (ReadP w P PW L n ((nmS L n 1).bind fun v1 => (lsS L n 2).bind fun v2 => some (.pick v1 v2, 3))) := by
  have HT := hidp hT
  have HS := hidp hs
  have HW := hidp hW
  have hmf : ∀ (fn : Fn) (first cap : Array Value) (w : World), (Instr.makeFunc fn first cap).run Tryz.prog w = .ok (.func fn first cap) w := fun _ _ _ _ => rfl
  clear hT hs hW
  unfold ReadP
  go_enter Tryz.func26, Tryz.ntmps26
  go_wp2_with fail
  refine (num_x PW L n 1 _ HW.out HT.out h8 HS.out).mono ?_
  rintro e w1 ⟨⟨v1, h1, p1, rfl, hW1⟩ | ⟨h1, rfl⟩, hg1⟩
  rotate_left
  · have H1 := hidp h1
    have HG1 := hidp (hg1)
    clear h1 hg1
    go_wp2
    exact ⟨rfl, .inr ⟨by simp [H1.out], rfl⟩, HG1.out⟩
  have H1 := hidp h1
  have HG1 := hidp (hg1)
  have HW1 := hidp hW1
  have HT1 := hidp (HT.out.grown hg1 h8)
  have HP1 := hidp p1
  have HS1 := hidp hg1
  clear h1 hg1 hW1 p1
  go_wp2_with fail
  refine (list_x PW L n 2 _ HW1.out HT1.out h8 HS.out).mono ?_
  rintro e w2 ⟨⟨a2, m2, c2, v2, h2, rfl, p2, hW2⟩ | ⟨h2, rfl⟩, hg2⟩
  rotate_left
  · have H2 := hidp h2
    have HG2 := hidp (gb_trans HG1.out hg2)
    clear h2 hg2
    go_wp2
    exact ⟨rfl, .inr ⟨by simp [H1.out, H2.out], rfl⟩, HG2.out⟩
  have H2 := hidp h2
  have HG2 := hidp (gb_trans HG1.out hg2)
  have HW2 := hidp hW2
  have HT2 := hidp (HT1.out.grown hg2 h8)
  have HP2 := hidp p2
  have HS2 := hidp hg2
  clear h2 hg2 hW2 p2
  go_wp2_with fail
  go_ret
  have HI2 := hidp (HP2.out.1)
  exact ⟨.inl ⟨.pick v1 v2, 3, _, _, by simp [H1.out, H2.out], rfl, HW2.out.below (bal (bal (Below.refl _ _) _) _), hidp (doable_of (fun _ _ => by kernel_rfl) (fun D => rfl) (fun F W D hB hD ho hT => do_pick _ a2 m2 c2 v2 _ v1 D W hT (ck hB (by go_simp)) ((HI2.out.below (bal (bal (Below.refl _ _) _) _)).below hB) (ck hB (by go_simp)) HP1.out))⟩, gb_trans HG2.out (gb_of (bal (bal (Below.refl _ _) _) _) _)⟩
set_option maxHeartbeats 4000000 in
theorem rd_even (P PW : Nat) (L : List ByteArray) (n : Nat) (w : World) (hW : WdAt w PW L n 1) (hT : Tabs w) (h8 : 8 ≤ PW) (hs : ∀ i, (wg L i).size ≤ 65536) :
    Calls Tryz.prog 26 #[.pointer (some ⟨P, 0, none⟩), .string ⟨#[101, 118, 101, 110]⟩, .pointer (some ⟨PW, 0, none⟩)] w (ReadP w P PW L n ((nmS L n 1).bind fun v1 => (nmS L n 2).bind fun v2 => (lsS L n 3).bind fun v3 => some (.even v1 v2 v3, 4))) := by
  have HT := hidp hT
  have HS := hidp hs
  have HW := hidp hW
  have hmf : ∀ (fn : Fn) (first cap : Array Value) (w : World), (Instr.makeFunc fn first cap).run Tryz.prog w = .ok (.func fn first cap) w := fun _ _ _ _ => rfl
  clear hT hs hW
  unfold ReadP
  go_enter Tryz.func26, Tryz.ntmps26
  go_wp2_with fail
  refine (num_x PW L n 1 _ HW.out HT.out h8 HS.out).mono ?_
  rintro e w1 ⟨⟨v1, h1, p1, rfl, hW1⟩ | ⟨h1, rfl⟩, hg1⟩
  rotate_left
  · have H1 := hidp h1
    have HG1 := hidp (hg1)
    clear h1 hg1
    go_wp2
    exact ⟨rfl, .inr ⟨by simp [H1.out], rfl⟩, HG1.out⟩
  have H1 := hidp h1
  have HG1 := hidp (hg1)
  have HW1 := hidp hW1
  have HT1 := hidp (HT.out.grown hg1 h8)
  have HP1 := hidp p1
  have HS1 := hidp hg1
  clear h1 hg1 hW1 p1
  go_wp2_with fail
  refine (num_x PW L n 2 _ HW1.out HT1.out h8 HS.out).mono ?_
  rintro e w2 ⟨⟨v2, h2, p2, rfl, hW2⟩ | ⟨h2, rfl⟩, hg2⟩
  rotate_left
  · have H2 := hidp h2
    have HG2 := hidp (gb_trans HG1.out hg2)
    clear h2 hg2
    go_wp2
    exact ⟨rfl, .inr ⟨by simp [H1.out, H2.out], rfl⟩, HG2.out⟩
  have H2 := hidp h2
  have HG2 := hidp (gb_trans HG1.out hg2)
  have HW2 := hidp hW2
  have HT2 := hidp (HT1.out.grown hg2 h8)
  have HP2 := hidp p2
  have HS2 := hidp hg2
  clear h2 hg2 hW2 p2
  go_wp2_with fail
  refine (list_x PW L n 3 _ HW2.out HT2.out h8 HS.out).mono ?_
  rintro e w3 ⟨⟨a3, m3, c3, v3, h3, rfl, p3, hW3⟩ | ⟨h3, rfl⟩, hg3⟩
  rotate_left
  · have H3 := hidp h3
    have HG3 := hidp (gb_trans HG2.out hg3)
    clear h3 hg3
    go_wp2
    exact ⟨rfl, .inr ⟨by simp [H1.out, H2.out, H3.out], rfl⟩, HG3.out⟩
  have H3 := hidp h3
  have HG3 := hidp (gb_trans HG2.out hg3)
  have HW3 := hidp hW3
  have HT3 := hidp (HT2.out.grown hg3 h8)
  have HP3 := hidp p3
  have HS3 := hidp hg3
  clear h3 hg3 hW3 p3
  go_wp2_with fail
  go_ret
  have HI3 := hidp (HP3.out.1)
  exact ⟨.inl ⟨.even v1 v2 v3, 4, _, _, by simp [H1.out, H2.out, H3.out], rfl, HW3.out.below (bal (bal (bal (Below.refl _ _) _) _) _), hidp (doable_of (fun _ _ => by kernel_rfl) (fun D => rfl) (fun F W D hB hD ho hT => do_even _ a3 m3 c3 v3 _ v1 _ v2 D W hT (ck hB (by go_simp)) ((HI3.out.below (bal (bal (bal (Below.refl _ _) _) _) _)).below hB) (ck hB (by go_simp)) HP1.out (ck hB (by go_simp)) HP2.out))⟩, gb_trans HG3.out (gb_of (bal (bal (bal (Below.refl _ _) _) _) _) _)⟩
set_option maxHeartbeats 4000000 in
theorem rd_est (P PW : Nat) (L : List ByteArray) (n : Nat) (w : World) (hW : WdAt w PW L n 1) (hT : Tabs w) (h8 : 8 ≤ PW) (hs : ∀ i, (wg L i).size ≤ 65536) :
    Calls Tryz.prog 26 #[.pointer (some ⟨P, 0, none⟩), .string ⟨#[101, 115, 116]⟩, .pointer (some ⟨PW, 0, none⟩)] w (ReadP w P PW L n ((lsS L n 1).bind fun v1 => (lsS L n 2).bind fun v2 => (lsS L n 3).bind fun v3 => some (.est v1 v2 v3, 4))) := by
  have HT := hidp hT
  have HS := hidp hs
  have HW := hidp hW
  have hmf : ∀ (fn : Fn) (first cap : Array Value) (w : World), (Instr.makeFunc fn first cap).run Tryz.prog w = .ok (.func fn first cap) w := fun _ _ _ _ => rfl
  clear hT hs hW
  unfold ReadP
  go_enter Tryz.func26, Tryz.ntmps26
  go_wp2_with fail
  refine (list_x PW L n 1 _ HW.out HT.out h8 HS.out).mono ?_
  rintro e w1 ⟨⟨a1, m1, c1, v1, h1, rfl, p1, hW1⟩ | ⟨h1, rfl⟩, hg1⟩
  rotate_left
  · have H1 := hidp h1
    have HG1 := hidp (hg1)
    clear h1 hg1
    go_wp2
    exact ⟨rfl, .inr ⟨by simp [H1.out], rfl⟩, HG1.out⟩
  have H1 := hidp h1
  have HG1 := hidp (hg1)
  have HW1 := hidp hW1
  have HT1 := hidp (HT.out.grown hg1 h8)
  have HP1 := hidp p1
  have HS1 := hidp hg1
  clear h1 hg1 hW1 p1
  go_wp2_with fail
  refine (list_x PW L n 2 _ HW1.out HT1.out h8 HS.out).mono ?_
  rintro e w2 ⟨⟨a2, m2, c2, v2, h2, rfl, p2, hW2⟩ | ⟨h2, rfl⟩, hg2⟩
  rotate_left
  · have H2 := hidp h2
    have HG2 := hidp (gb_trans HG1.out hg2)
    clear h2 hg2
    go_wp2
    exact ⟨rfl, .inr ⟨by simp [H1.out, H2.out], rfl⟩, HG2.out⟩
  have H2 := hidp h2
  have HG2 := hidp (gb_trans HG1.out hg2)
  have HW2 := hidp hW2
  have HT2 := hidp (HT1.out.grown hg2 h8)
  have HP2 := hidp p2
  have HS2 := hidp hg2
  clear h2 hg2 hW2 p2
  go_wp2_with fail
  refine (list_x PW L n 3 _ HW2.out HT2.out h8 HS.out).mono ?_
  rintro e w3 ⟨⟨a3, m3, c3, v3, h3, rfl, p3, hW3⟩ | ⟨h3, rfl⟩, hg3⟩
  rotate_left
  · have H3 := hidp h3
    have HG3 := hidp (gb_trans HG2.out hg3)
    clear h3 hg3
    go_wp2
    exact ⟨rfl, .inr ⟨by simp [H1.out, H2.out, H3.out], rfl⟩, HG3.out⟩
  have H3 := hidp h3
  have HG3 := hidp (gb_trans HG2.out hg3)
  have HW3 := hidp hW3
  have HT3 := hidp (HT2.out.grown hg3 h8)
  have HP3 := hidp p3
  have HS3 := hidp hg3
  clear h3 hg3 hW3 p3
  go_wp2_with fail
  go_ret
  have HI1 := hidp (((HP1.out.1.off HS2.out HP1.out.2).off HS3.out HP1.out.2))
  have HI2 := hidp ((HP2.out.1.off HS3.out HP2.out.2))
  have HI3 := hidp (HP3.out.1)
  exact ⟨.inl ⟨.est v1 v2 v3, 4, _, _, by simp [H1.out, H2.out, H3.out], rfl, HW3.out.below (bal (bal (bal (Below.refl _ _) _) _) _), hidp (doable_of (fun _ _ => by kernel_rfl) (fun D => rfl) (fun F W D hB hD ho hT => do_est _ a1 m1 c1 v1 _ a2 m2 c2 v2 _ a3 m3 c3 v3 D W hT (ck hB (by go_simp)) ((HI1.out.below (bal (bal (bal (Below.refl _ _) _) _) _)).below hB) (ck hB (by go_simp)) ((HI2.out.below (bal (bal (bal (Below.refl _ _) _) _) _)).below hB) (ck hB (by go_simp)) ((HI3.out.below (bal (bal (bal (Below.refl _ _) _) _) _)).below hB)))⟩, gb_trans HG3.out (gb_of (bal (bal (bal (Below.refl _ _) _) _) _) _)⟩
end Go.Proofs.YtgodgfnfaiiohaaGreatDoor

/- 'keep' at each word. -/
namespace Go.Proofs.YtgodgfnfaiiohaaGreatDoor
open Go.ChangeShapes Go.WideShapes Go.ChangeAt Go.RowKit
set_option maxRecDepth 20000
set_option linter.unusedVariables false
set_option maxHeartbeats 4000000 in
theorem rd_pond (P PW : Nat) (L : List ByteArray) (n : Nat) (w : World) (hW : WdAt w PW L n 1) (hT : Tabs w) (h8 : 8 ≤ PW) (hs : ∀ i, (wg L i).size ≤ 65536) (h8P : 8 ≤ P) (hPl : P < w.heap.size) :
    Calls Tryz.prog 78 #[.pointer (some ⟨P, 0, none⟩), .string ⟨#[112, 111, 110, 100]⟩, .pointer (some ⟨PW, 0, none⟩)] w (ReadP w P PW L n ((nmS L n 1).bind fun v1 => (nmS L n 2).bind fun v2 => some (.pond v1 v2, 3))) := by
  have HS := hidp hs
  have hmf : ∀ (fn : Fn) (first cap : Array Value) (w : World), (Instr.makeFunc fn first cap).run Tryz.prog w = .ok (.func fn first cap) w := fun _ _ _ _ => rfl
  have ha : Below w.heap.size w (w.alloc (.cells #[.pointer (some ⟨P, 0, none⟩)] 33)) := bal (Below.refl _ _) _
  have HQ := hidp (show (w.alloc (.cells #[.pointer (some ⟨P, 0, none⟩)] 33)).cell? ⟨w.heap.size, 0, none⟩ = some (.pointer (some ⟨P, 0, none⟩)) by go_simp)
  have HA := hidp ha
  have HW0 := hidp (hW.below ha)
  have HT0 := hidp (hT.on ha)
  have hPW := hW.lt
  have hdl : ¬ P = w.heap.size := by omega
  have hWl : w.heap.size ≠ PW := by omega
  clear hT hs hW ha
  unfold ReadP
  go_enter Tryz.func78, Tryz.ntmps78
  go_wp2_with fail
  refine (num_x PW L n 1 _ HW0.out HT0.out h8 HS.out).mono ?_
  rintro e w1 ⟨⟨v1, h1, p1, rfl, hW1⟩ | ⟨h1, rfl⟩, hg1⟩
  rotate_left
  · have H1 := hidp h1
    have HG1 := hidp (gb_trans (gb_of HA.out (some PW)) (hg1))
    clear h1 hg1
    go_wp2
    exact ⟨rfl, .inr ⟨by simp [H1.out], rfl⟩, HG1.out⟩
  have H1 := hidp h1
  have GA1 := hidp (hg1)
  have HW1 := hidp hW1
  have HT1 := hidp (HT0.out.grown hg1 h8)
  have HP1 := hidp p1
  clear h1 hg1 hW1 p1
  go_wp2_with fail
  refine (num_x PW L n 2 _ HW1.out HT1.out h8 HS.out).mono ?_
  rintro e w2 ⟨⟨v2, h2, p2, rfl, hW2⟩ | ⟨h2, rfl⟩, hg2⟩
  rotate_left
  · have H2 := hidp h2
    have HG2 := hidp (gb_trans (gb_of HA.out (some PW)) (gb_trans GA1.out hg2))
    clear h2 hg2
    go_wp2
    exact ⟨rfl, .inr ⟨by simp [H1.out, H2.out], rfl⟩, HG2.out⟩
  have H2 := hidp h2
  have GA2 := hidp (gb_trans GA1.out hg2)
  have HW2 := hidp hW2
  have HT2 := hidp (HT1.out.grown hg2 h8)
  have HP2 := hidp p2
  clear h2 hg2 hW2 p2
  go_wp2_with fail
  go_ret
  have qd := gb_cell GA2.out HQ.out hWl
  exact ⟨.inl ⟨.pond v1 v2, 3, _, _, by simp [H1.out, H2.out], rfl, HW2.out.below (bal (bal (Below.refl _ _) _) _), hidp (⟨fun _ _ => by kernel_rfl, fun F W D hB hD ho hT => do_pond _ _ _ P v1 v2 D W hT hD ho h8P (ck hB (ca (ca qd _) _)) (ck hB (by go_simp)) (ck hB (by go_simp)) (by have := HP1.out; unfold I64; omega) hdl⟩)⟩, gb_trans (gb_trans (gb_of HA.out (some PW)) GA2.out) (gb_of (bal (bal (Below.refl _ _) _) _) _)⟩
set_option maxHeartbeats 4000000 in
theorem rd_least (P PW : Nat) (L : List ByteArray) (n : Nat) (w : World) (hW : WdAt w PW L n 1) (hT : Tabs w) (h8 : 8 ≤ PW) (hs : ∀ i, (wg L i).size ≤ 65536) (h8P : 8 ≤ P) (hPl : P < w.heap.size) :
    Calls Tryz.prog 78 #[.pointer (some ⟨P, 0, none⟩), .string ⟨#[108, 101, 97, 115, 116]⟩, .pointer (some ⟨PW, 0, none⟩)] w (ReadP w P PW L n ((nmS L n 1).bind fun v1 => some (.least v1, 2))) := by
  have HS := hidp hs
  have hmf : ∀ (fn : Fn) (first cap : Array Value) (w : World), (Instr.makeFunc fn first cap).run Tryz.prog w = .ok (.func fn first cap) w := fun _ _ _ _ => rfl
  have ha : Below w.heap.size w (w.alloc (.cells #[.pointer (some ⟨P, 0, none⟩)] 33)) := bal (Below.refl _ _) _
  have HQ := hidp (show (w.alloc (.cells #[.pointer (some ⟨P, 0, none⟩)] 33)).cell? ⟨w.heap.size, 0, none⟩ = some (.pointer (some ⟨P, 0, none⟩)) by go_simp)
  have HA := hidp ha
  have HW0 := hidp (hW.below ha)
  have HT0 := hidp (hT.on ha)
  have hPW := hW.lt
  have hdl : ¬ P = w.heap.size := by omega
  have hWl : w.heap.size ≠ PW := by omega
  clear hT hs hW ha
  unfold ReadP
  go_enter Tryz.func78, Tryz.ntmps78
  go_wp2_with fail
  refine (num_x PW L n 1 _ HW0.out HT0.out h8 HS.out).mono ?_
  rintro e w1 ⟨⟨v1, h1, p1, rfl, hW1⟩ | ⟨h1, rfl⟩, hg1⟩
  rotate_left
  · have H1 := hidp h1
    have HG1 := hidp (gb_trans (gb_of HA.out (some PW)) (hg1))
    clear h1 hg1
    go_wp2
    exact ⟨rfl, .inr ⟨by simp [H1.out], rfl⟩, HG1.out⟩
  have H1 := hidp h1
  have GA1 := hidp (hg1)
  have HW1 := hidp hW1
  have HT1 := hidp (HT0.out.grown hg1 h8)
  have HP1 := hidp p1
  clear h1 hg1 hW1 p1
  go_wp2_with fail
  go_ret
  have qd := gb_cell GA1.out HQ.out hWl
  exact ⟨.inl ⟨.least v1, 2, _, _, by simp [H1.out], rfl, HW1.out.below (bal (Below.refl _ _) _), hidp (⟨fun _ _ => by kernel_rfl, fun F W D hB hD ho hT => do_least _ _ P v1 D W hT hD ho h8P (ck hB (ca qd _)) (ck hB (by go_simp)) HP1.out.1 hdl⟩)⟩, gb_trans (gb_trans (gb_of HA.out (some PW)) GA1.out) (gb_of (bal (Below.refl _ _) _) _)⟩
set_option maxHeartbeats 4000000 in
theorem rd_many (P PW : Nat) (L : List ByteArray) (n : Nat) (w : World) (hW : WdAt w PW L n 1) (hT : Tabs w) (h8 : 8 ≤ PW) (hs : ∀ i, (wg L i).size ≤ 65536) (h8P : 8 ≤ P) (hPl : P < w.heap.size) :
    Calls Tryz.prog 78 #[.pointer (some ⟨P, 0, none⟩), .string ⟨#[109, 97, 110, 121]⟩, .pointer (some ⟨PW, 0, none⟩)] w (ReadP w P PW L n (some (.many, 1))) := by
  have HS := hidp hs
  have hmf : ∀ (fn : Fn) (first cap : Array Value) (w : World), (Instr.makeFunc fn first cap).run Tryz.prog w = .ok (.func fn first cap) w := fun _ _ _ _ => rfl
  have ha : Below w.heap.size w (w.alloc (.cells #[.pointer (some ⟨P, 0, none⟩)] 33)) := bal (Below.refl _ _) _
  have HQ := hidp (show (w.alloc (.cells #[.pointer (some ⟨P, 0, none⟩)] 33)).cell? ⟨w.heap.size, 0, none⟩ = some (.pointer (some ⟨P, 0, none⟩)) by go_simp)
  have HA := hidp ha
  have HW0 := hidp (hW.below ha)
  have HT0 := hidp (hT.on ha)
  have hPW := hW.lt
  have hdl : ¬ P = w.heap.size := by omega
  have hWl : w.heap.size ≠ PW := by omega
  clear hT hs hW ha
  unfold ReadP
  go_enter Tryz.func78, Tryz.ntmps78
  go_wp2_with fail
  go_ret
  have qd := HQ.out
  exact ⟨.inl ⟨.many, 1, _, _, rfl, rfl, HW0.out.below (Below.refl _ _), hidp (doable_of (fun _ _ => by kernel_rfl) (fun D => rfl) (fun F W D hB hD ho hT => do_many _ P D W hT hD ho (ck hB qd)))⟩, gb_trans (gb_of HA.out (some PW)) (gb_of (Below.refl _ _) _)⟩
set_option maxHeartbeats 4000000 in
theorem rd_few (P PW : Nat) (L : List ByteArray) (n : Nat) (w : World) (hW : WdAt w PW L n 1) (hT : Tabs w) (h8 : 8 ≤ PW) (hs : ∀ i, (wg L i).size ≤ 65536) (h8P : 8 ≤ P) (hPl : P < w.heap.size) :
    Calls Tryz.prog 78 #[.pointer (some ⟨P, 0, none⟩), .string ⟨#[102, 101, 119]⟩, .pointer (some ⟨PW, 0, none⟩)] w (ReadP w P PW L n ((nmS L n 1).bind fun v1 => (nmS L n 2).bind fun v2 => some (.few v1 v2, 3))) := by
  have HS := hidp hs
  have hmf : ∀ (fn : Fn) (first cap : Array Value) (w : World), (Instr.makeFunc fn first cap).run Tryz.prog w = .ok (.func fn first cap) w := fun _ _ _ _ => rfl
  have ha : Below w.heap.size w (w.alloc (.cells #[.pointer (some ⟨P, 0, none⟩)] 33)) := bal (Below.refl _ _) _
  have HQ := hidp (show (w.alloc (.cells #[.pointer (some ⟨P, 0, none⟩)] 33)).cell? ⟨w.heap.size, 0, none⟩ = some (.pointer (some ⟨P, 0, none⟩)) by go_simp)
  have HA := hidp ha
  have HW0 := hidp (hW.below ha)
  have HT0 := hidp (hT.on ha)
  have hPW := hW.lt
  have hdl : ¬ P = w.heap.size := by omega
  have hWl : w.heap.size ≠ PW := by omega
  clear hT hs hW ha
  unfold ReadP
  go_enter Tryz.func78, Tryz.ntmps78
  go_wp2_with fail
  refine (num_x PW L n 1 _ HW0.out HT0.out h8 HS.out).mono ?_
  rintro e w1 ⟨⟨v1, h1, p1, rfl, hW1⟩ | ⟨h1, rfl⟩, hg1⟩
  rotate_left
  · have H1 := hidp h1
    have HG1 := hidp (gb_trans (gb_of HA.out (some PW)) (hg1))
    clear h1 hg1
    go_wp2
    exact ⟨rfl, .inr ⟨by simp [H1.out], rfl⟩, HG1.out⟩
  have H1 := hidp h1
  have GA1 := hidp (hg1)
  have HW1 := hidp hW1
  have HT1 := hidp (HT0.out.grown hg1 h8)
  have HP1 := hidp p1
  clear h1 hg1 hW1 p1
  go_wp2_with fail
  refine (num_x PW L n 2 _ HW1.out HT1.out h8 HS.out).mono ?_
  rintro e w2 ⟨⟨v2, h2, p2, rfl, hW2⟩ | ⟨h2, rfl⟩, hg2⟩
  rotate_left
  · have H2 := hidp h2
    have HG2 := hidp (gb_trans (gb_of HA.out (some PW)) (gb_trans GA1.out hg2))
    clear h2 hg2
    go_wp2
    exact ⟨rfl, .inr ⟨by simp [H1.out, H2.out], rfl⟩, HG2.out⟩
  have H2 := hidp h2
  have GA2 := hidp (gb_trans GA1.out hg2)
  have HW2 := hidp hW2
  have HT2 := hidp (HT1.out.grown hg2 h8)
  have HP2 := hidp p2
  clear h2 hg2 hW2 p2
  go_wp2_with fail
  go_ret
  have qd := gb_cell GA2.out HQ.out hWl
  exact ⟨.inl ⟨.few v1 v2, 3, _, _, by simp [H1.out, H2.out], rfl, HW2.out.below (bal (bal (Below.refl _ _) _) _), hidp (⟨fun _ _ => by kernel_rfl, fun F W D hB hD ho hT => do_few _ _ _ P v1 v2 D W hT hD ho h8P (ck hB (ca (ca qd _) _)) (ck hB (by go_simp)) (ck hB (by go_simp)) hdl⟩)⟩, gb_trans (gb_trans (gb_of HA.out (some PW)) GA2.out) (gb_of (bal (bal (Below.refl _ _) _) _) _)⟩
set_option maxHeartbeats 4000000 in
theorem rd_ask (P PW : Nat) (L : List ByteArray) (n : Nat) (w : World) (hW : WdAt w PW L n 1) (hT : Tabs w) (h8 : 8 ≤ PW) (hs : ∀ i, (wg L i).size ≤ 65536) (h8P : 8 ≤ P) (hPl : P < w.heap.size) :
    Calls Tryz.prog 78 #[.pointer (some ⟨P, 0, none⟩), .string ⟨#[97, 115, 107]⟩, .pointer (some ⟨PW, 0, none⟩)] w (ReadP w P PW L n ((nmS L n 1).bind fun v1 => some (.ask v1, 2))) := by
  have HS := hidp hs
  have hmf : ∀ (fn : Fn) (first cap : Array Value) (w : World), (Instr.makeFunc fn first cap).run Tryz.prog w = .ok (.func fn first cap) w := fun _ _ _ _ => rfl
  have ha : Below w.heap.size w (w.alloc (.cells #[.pointer (some ⟨P, 0, none⟩)] 33)) := bal (Below.refl _ _) _
  have HQ := hidp (show (w.alloc (.cells #[.pointer (some ⟨P, 0, none⟩)] 33)).cell? ⟨w.heap.size, 0, none⟩ = some (.pointer (some ⟨P, 0, none⟩)) by go_simp)
  have HA := hidp ha
  have HW0 := hidp (hW.below ha)
  have HT0 := hidp (hT.on ha)
  have hPW := hW.lt
  have hdl : ¬ P = w.heap.size := by omega
  have hWl : w.heap.size ≠ PW := by omega
  clear hT hs hW ha
  unfold ReadP
  go_enter Tryz.func78, Tryz.ntmps78
  go_wp2_with fail
  refine (num_x PW L n 1 _ HW0.out HT0.out h8 HS.out).mono ?_
  rintro e w1 ⟨⟨v1, h1, p1, rfl, hW1⟩ | ⟨h1, rfl⟩, hg1⟩
  rotate_left
  · have H1 := hidp h1
    have HG1 := hidp (gb_trans (gb_of HA.out (some PW)) (hg1))
    clear h1 hg1
    go_wp2
    exact ⟨rfl, .inr ⟨by simp [H1.out], rfl⟩, HG1.out⟩
  have H1 := hidp h1
  have GA1 := hidp (hg1)
  have HW1 := hidp hW1
  have HT1 := hidp (HT0.out.grown hg1 h8)
  have HP1 := hidp p1
  clear h1 hg1 hW1 p1
  go_wp2_with fail
  go_ret
  have qd := gb_cell GA1.out HQ.out hWl
  exact ⟨.inl ⟨.ask v1, 2, _, _, by simp [H1.out], rfl, HW1.out.below (bal (Below.refl _ _) _), hidp (doable_of (fun _ _ => by kernel_rfl) (fun D => rfl) (fun F W D hB hD ho hT => do_ask _ _ P v1 D W hT hD ho (ck hB (ca qd _)) (ck hB (by go_simp))))⟩, gb_trans (gb_trans (gb_of HA.out (some PW)) GA1.out) (gb_of (bal (Below.refl _ _) _) _)⟩
set_option maxHeartbeats 4000000 in
theorem rd_rule (P PW : Nat) (L : List ByteArray) (n : Nat) (w : World) (hW : WdAt w PW L n 1) (hT : Tabs w) (h8 : 8 ≤ PW) (hs : ∀ i, (wg L i).size ≤ 65536) (h8P : 8 ≤ P) (hPl : P < w.heap.size) :
    Calls Tryz.prog 78 #[.pointer (some ⟨P, 0, none⟩), .string ⟨#[114, 117, 108, 101]⟩, .pointer (some ⟨PW, 0, none⟩)] w (ReadP w P PW L n ((nxS L n 1).bind fun v1 => (nmS L n 2).bind fun v2 => (nmS L n 3).bind fun v3 => some (.rule v1 v2 v3, 4))) := by
  have HS := hidp hs
  have hmf : ∀ (fn : Fn) (first cap : Array Value) (w : World), (Instr.makeFunc fn first cap).run Tryz.prog w = .ok (.func fn first cap) w := fun _ _ _ _ => rfl
  have ha : Below w.heap.size w (w.alloc (.cells #[.pointer (some ⟨P, 0, none⟩)] 33)) := bal (Below.refl _ _) _
  have HQ := hidp (show (w.alloc (.cells #[.pointer (some ⟨P, 0, none⟩)] 33)).cell? ⟨w.heap.size, 0, none⟩ = some (.pointer (some ⟨P, 0, none⟩)) by go_simp)
  have HA := hidp ha
  have HW0 := hidp (hW.below ha)
  have HT0 := hidp (hT.on ha)
  have hPW := hW.lt
  have hdl : ¬ P = w.heap.size := by omega
  have hWl : w.heap.size ≠ PW := by omega
  clear hT hs hW ha
  unfold ReadP
  go_enter Tryz.func78, Tryz.ntmps78
  go_wp2_with fail
  refine (next_x PW L n 1 _ HW0.out HS.out).mono ?_
  rintro e w1 ⟨⟨v1, h1, p1, rfl, hW1⟩ | ⟨h1, rfl⟩, hg1⟩
  rotate_left
  · have H1 := hidp h1
    have HG1 := hidp (gb_trans (gb_of HA.out (some PW)) (hg1))
    clear h1 hg1
    go_wp2
    exact ⟨rfl, .inr ⟨by simp [H1.out], rfl⟩, HG1.out⟩
  have H1 := hidp h1
  have GA1 := hidp (hg1)
  have HW1 := hidp hW1
  have HT1 := hidp (HT0.out.grown hg1 h8)
  have HP1 := hidp p1
  clear h1 hg1 hW1 p1
  go_wp2_with fail
  refine (num_x PW L n 2 _ HW1.out HT1.out h8 HS.out).mono ?_
  rintro e w2 ⟨⟨v2, h2, p2, rfl, hW2⟩ | ⟨h2, rfl⟩, hg2⟩
  rotate_left
  · have H2 := hidp h2
    have HG2 := hidp (gb_trans (gb_of HA.out (some PW)) (gb_trans GA1.out hg2))
    clear h2 hg2
    go_wp2
    exact ⟨rfl, .inr ⟨by simp [H1.out, H2.out], rfl⟩, HG2.out⟩
  have H2 := hidp h2
  have GA2 := hidp (gb_trans GA1.out hg2)
  have HW2 := hidp hW2
  have HT2 := hidp (HT1.out.grown hg2 h8)
  have HP2 := hidp p2
  clear h2 hg2 hW2 p2
  go_wp2_with fail
  refine (num_x PW L n 3 _ HW2.out HT2.out h8 HS.out).mono ?_
  rintro e w3 ⟨⟨v3, h3, p3, rfl, hW3⟩ | ⟨h3, rfl⟩, hg3⟩
  rotate_left
  · have H3 := hidp h3
    have HG3 := hidp (gb_trans (gb_of HA.out (some PW)) (gb_trans GA2.out hg3))
    clear h3 hg3
    go_wp2
    exact ⟨rfl, .inr ⟨by simp [H1.out, H2.out, H3.out], rfl⟩, HG3.out⟩
  have H3 := hidp h3
  have GA3 := hidp (gb_trans GA2.out hg3)
  have HW3 := hidp hW3
  have HT3 := hidp (HT2.out.grown hg3 h8)
  have HP3 := hidp p3
  clear h3 hg3 hW3 p3
  go_wp2_with fail
  go_ret
  have qd := gb_cell GA3.out HQ.out hWl
  exact ⟨.inl ⟨.rule v1 v2 v3, 4, _, _, by simp [H1.out, H2.out, H3.out], rfl, HW3.out.below (bal (Below.refl _ _) _), hidp (⟨fun _ _ => by kernel_rfl, fun F W D hB hD ho hT => do_rule _ _ P v1 v2 v3 D W hT hD ho h8P (ck hB (ca qd _)) (ck hB (by go_simp)) (ck hB (by go_simp)) (ck hB (by go_simp))⟩)⟩, gb_trans (gb_trans (gb_of HA.out (some PW)) GA3.out) (gb_of (bal (Below.refl _ _) _) _)⟩
set_option maxHeartbeats 4000000 in
theorem rd_of (P PW : Nat) (L : List ByteArray) (n : Nat) (w : World) (hW : WdAt w PW L n 1) (hT : Tabs w) (h8 : 8 ≤ PW) (hs : ∀ i, (wg L i).size ≤ 65536) (h8P : 8 ≤ P) (hPl : P < w.heap.size) :
    Calls Tryz.prog 78 #[.pointer (some ⟨P, 0, none⟩), .string ⟨#[111, 102]⟩, .pointer (some ⟨PW, 0, none⟩)] w (ReadP w P PW L n ((nxS L n 1).bind fun v1 => some (.of v1, 2))) := by
  have HS := hidp hs
  have hmf : ∀ (fn : Fn) (first cap : Array Value) (w : World), (Instr.makeFunc fn first cap).run Tryz.prog w = .ok (.func fn first cap) w := fun _ _ _ _ => rfl
  have ha : Below w.heap.size w (w.alloc (.cells #[.pointer (some ⟨P, 0, none⟩)] 33)) := bal (Below.refl _ _) _
  have HQ := hidp (show (w.alloc (.cells #[.pointer (some ⟨P, 0, none⟩)] 33)).cell? ⟨w.heap.size, 0, none⟩ = some (.pointer (some ⟨P, 0, none⟩)) by go_simp)
  have HA := hidp ha
  have HW0 := hidp (hW.below ha)
  have HT0 := hidp (hT.on ha)
  have hPW := hW.lt
  have hdl : ¬ P = w.heap.size := by omega
  have hWl : w.heap.size ≠ PW := by omega
  clear hT hs hW ha
  unfold ReadP
  go_enter Tryz.func78, Tryz.ntmps78
  go_wp2_with fail
  refine (next_x PW L n 1 _ HW0.out HS.out).mono ?_
  rintro e w1 ⟨⟨v1, h1, p1, rfl, hW1⟩ | ⟨h1, rfl⟩, hg1⟩
  rotate_left
  · have H1 := hidp h1
    have HG1 := hidp (gb_trans (gb_of HA.out (some PW)) (hg1))
    clear h1 hg1
    go_wp2
    exact ⟨rfl, .inr ⟨by simp [H1.out], rfl⟩, HG1.out⟩
  have H1 := hidp h1
  have GA1 := hidp (hg1)
  have HW1 := hidp hW1
  have HT1 := hidp (HT0.out.grown hg1 h8)
  have HP1 := hidp p1
  clear h1 hg1 hW1 p1
  go_wp2_with fail
  go_ret
  have qd := gb_cell GA1.out HQ.out hWl
  exact ⟨.inl ⟨.of v1, 2, _, _, by simp [H1.out], rfl, HW1.out.below (bal (Below.refl _ _) _), hidp (doable_of (fun _ _ => by kernel_rfl) (fun D => rfl) (fun F W D hB hD ho hT => do_of _ _ P v1 D W hT hD ho (ck hB (ca qd _)) (ck hB (by go_simp))))⟩, gb_trans (gb_trans (gb_of HA.out (some PW)) GA1.out) (gb_of (bal (Below.refl _ _) _) _)⟩
end Go.Proofs.YtgodgfnfaiiohaaGreatDoor

/- 'read' at whatever word. -/
namespace Go.Proofs.YtgodgfnfaiiohaaGreatDoor
open Go.ChangeShapes Go.WideShapes Go.ChangeAt Go.RowKit
set_option maxRecDepth 20000
set_option linter.unusedVariables false
theorem eqFl {s t : ByteArray} {l : List UInt8} (hl : t.toList = l) (h : ¬ s = t) : (s.toList == l) = false := by rw [← hl]; exact eqF h
/-- What 'keep' makes of a line whose first word is s. -/
def kpF (L : List ByteArray) (n : Nat) (s : ByteArray) : Option (Cmd × Nat) :=
  if s = ⟨#[112, 111, 110, 100]⟩ then ((nmS L n 1).bind fun v1 => (nmS L n 2).bind fun v2 => some (.pond v1 v2, 3)) else
  if s = ⟨#[108, 101, 97, 115, 116]⟩ then ((nmS L n 1).bind fun v1 => some (.least v1, 2)) else
  if s = ⟨#[109, 97, 110, 121]⟩ then (some (.many, 1)) else
  if s = ⟨#[102, 101, 119]⟩ then ((nmS L n 1).bind fun v1 => (nmS L n 2).bind fun v2 => some (.few v1 v2, 3)) else
  if s = ⟨#[97, 115, 107]⟩ then ((nmS L n 1).bind fun v1 => some (.ask v1, 2)) else
  if s = ⟨#[114, 117, 108, 101]⟩ then ((nxS L n 1).bind fun v1 => (nmS L n 2).bind fun v2 => (nmS L n 3).bind fun v3 => some (.rule v1 v2 v3, 4)) else
  if s = ⟨#[111, 102]⟩ then ((nxS L n 1).bind fun v1 => some (.of v1, 2)) else
  none
/-- What 'read' makes of it. -/
def drdF (L : List ByteArray) (n : Nat) (s : ByteArray) : Option (Cmd × Nat) :=
  if s = ⟨#[104, 97, 115, 104]⟩ then ((nxS L n 1).bind fun v1 => some (.hash v1, 2)) else
  if s = ⟨#[116, 104]⟩ then ((nmS L n 1).bind fun v1 => some (.th v1, 2)) else
  if s = ⟨#[112, 97, 114, 116]⟩ then ((nmS L n 1).bind fun v1 => (nmS L n 2).bind fun v2 => some (.part v1 v2, 3)) else
  if s = ⟨#[99, 111, 117, 110, 116]⟩ then ((nmS L n 1).bind fun v1 => (nmS L n 2).bind fun v2 => some (.count v1 v2, 3)) else
  if s = ⟨#[109, 97, 114, 107]⟩ then ((nxS L n 1).bind fun v1 => some (.mark v1, 2)) else
  if s = ⟨#[115, 111, 109, 101]⟩ then ((nmS L n 1).bind fun v1 => (nmS L n 2).bind fun v2 => some (.some v1 v2, 3)) else
  if s = ⟨#[111, 114, 100, 101, 114]⟩ then ((nmS L n 1).bind fun v1 => (nmS L n 2).bind fun v2 => some (.order v1 v2, 3)) else
  if s = ⟨#[102, 97, 105, 114]⟩ then ((nmS L n 1).bind fun v1 => (lsS L n 2).bind fun v2 => some (.fair v1 v2, 3)) else
  if s = ⟨#[108, 101, 118, 101, 108]⟩ then ((nmS L n 1).bind fun v1 => (lsS L n 2).bind fun v2 => some (.level v1 v2, 3)) else
  if s = ⟨#[112, 105, 99, 107]⟩ then ((nmS L n 1).bind fun v1 => (lsS L n 2).bind fun v2 => some (.pick v1 v2, 3)) else
  if s = ⟨#[101, 118, 101, 110]⟩ then ((nmS L n 1).bind fun v1 => (nmS L n 2).bind fun v2 => (lsS L n 3).bind fun v3 => some (.even v1 v2 v3, 4)) else
  if s = ⟨#[101, 115, 116]⟩ then ((lsS L n 1).bind fun v1 => (lsS L n 2).bind fun v2 => (lsS L n 3).bind fun v3 => some (.est v1 v2 v3, 4)) else
  kpF L n s
set_option maxHeartbeats 4000000 in
theorem keep_else (P PW : Nat) (s : ByteArray) (w : World) (k1 : ¬ s = ⟨#[112, 111, 110, 100]⟩) (k2 : ¬ s = ⟨#[108, 101, 97, 115, 116]⟩) (k3 : ¬ s = ⟨#[109, 97, 110, 121]⟩) (k4 : ¬ s = ⟨#[102, 101, 119]⟩) (k5 : ¬ s = ⟨#[97, 115, 107]⟩) (k6 : ¬ s = ⟨#[114, 117, 108, 101]⟩) (k7 : ¬ s = ⟨#[111, 102]⟩) :
    Calls Tryz.prog 78 #[.pointer (some ⟨P, 0, none⟩), .string s, .pointer (some ⟨PW, 0, none⟩)] w fun e w' => e = .panicked [faultV 9] ∧ Below w.heap.size w w' := by
  have BD := hidp (fun W => bad_c 9 W)
  have e1 := eqFl (l := [112, 111, 110, 100]) (by decide +kernel) k1
  have e2 := eqFl (l := [108, 101, 97, 115, 116]) (by decide +kernel) k2
  have e3 := eqFl (l := [109, 97, 110, 121]) (by decide +kernel) k3
  have e4 := eqFl (l := [102, 101, 119]) (by decide +kernel) k4
  have e5 := eqFl (l := [97, 115, 107]) (by decide +kernel) k5
  have e6 := eqFl (l := [114, 117, 108, 101]) (by decide +kernel) k6
  have e7 := eqFl (l := [111, 102]) (by decide +kernel) k7
  clear k1 k2 k3 k4 k5 k6 k7
  go_enter Tryz.func78, Tryz.ntmps78
  go_wp2_with fail
  refine (BD.out _).mono ?_
  rintro e w' ⟨rfl, rfl⟩
  go_wp2
  exact ⟨rfl, rfl, bal (Below.refl _ _) _⟩
theorem keep_x (P PW : Nat) (L : List ByteArray) (n : Nat) (s : ByteArray) (w : World) (hW : WdAt w PW L n 1) (hT : Tabs w) (h8 : 8 ≤ PW) (hs : ∀ i, (wg L i).size ≤ 65536) (h8P : 8 ≤ P) (hPl : P < w.heap.size) :
    Calls Tryz.prog 78 #[.pointer (some ⟨P, 0, none⟩), .string s, .pointer (some ⟨PW, 0, none⟩)] w (ReadP w P PW L n (kpF L n s)) := by
  unfold kpF
  by_cases k1 : s = ⟨#[112, 111, 110, 100]⟩
  · rw [if_pos k1]; subst k1; exact rd_pond P PW L n w hW hT h8 hs h8P hPl
  rw [if_neg k1]
  by_cases k2 : s = ⟨#[108, 101, 97, 115, 116]⟩
  · rw [if_pos k2]; subst k2; exact rd_least P PW L n w hW hT h8 hs h8P hPl
  rw [if_neg k2]
  by_cases k3 : s = ⟨#[109, 97, 110, 121]⟩
  · rw [if_pos k3]; subst k3; exact rd_many P PW L n w hW hT h8 hs h8P hPl
  rw [if_neg k3]
  by_cases k4 : s = ⟨#[102, 101, 119]⟩
  · rw [if_pos k4]; subst k4; exact rd_few P PW L n w hW hT h8 hs h8P hPl
  rw [if_neg k4]
  by_cases k5 : s = ⟨#[97, 115, 107]⟩
  · rw [if_pos k5]; subst k5; exact rd_ask P PW L n w hW hT h8 hs h8P hPl
  rw [if_neg k5]
  by_cases k6 : s = ⟨#[114, 117, 108, 101]⟩
  · rw [if_pos k6]; subst k6; exact rd_rule P PW L n w hW hT h8 hs h8P hPl
  rw [if_neg k6]
  by_cases k7 : s = ⟨#[111, 102]⟩
  · rw [if_pos k7]; subst k7; exact rd_of P PW L n w hW hT h8 hs h8P hPl
  rw [if_neg k7]
  refine (keep_else P PW s w k1 k2 k3 k4 k5 k6 k7).mono ?_
  rintro e w' ⟨rfl, hb⟩
  exact ⟨.inr ⟨rfl, rfl⟩, gb_of hb _⟩
set_option maxHeartbeats 8000000 in
theorem read_else (P PW : Nat) (L : List ByteArray) (n : Nat) (RR : Option (Cmd × Nat)) (s : ByteArray) (w : World) (hK : Calls Tryz.prog 78 #[.pointer (some ⟨P, 0, none⟩), .string s, .pointer (some ⟨PW, 0, none⟩)] w (ReadP w P PW L n RR)) (r1 : ¬ s = ⟨#[104, 97, 115, 104]⟩) (r2 : ¬ s = ⟨#[116, 104]⟩) (r3 : ¬ s = ⟨#[112, 97, 114, 116]⟩) (r4 : ¬ s = ⟨#[99, 111, 117, 110, 116]⟩) (r5 : ¬ s = ⟨#[109, 97, 114, 107]⟩) (r6 : ¬ s = ⟨#[115, 111, 109, 101]⟩) (r7 : ¬ s = ⟨#[111, 114, 100, 101, 114]⟩) (r8 : ¬ s = ⟨#[102, 97, 105, 114]⟩) (r9 : ¬ s = ⟨#[108, 101, 118, 101, 108]⟩) (r10 : ¬ s = ⟨#[112, 105, 99, 107]⟩) (r11 : ¬ s = ⟨#[101, 118, 101, 110]⟩) (r12 : ¬ s = ⟨#[101, 115, 116]⟩) :
    Calls Tryz.prog 26 #[.pointer (some ⟨P, 0, none⟩), .string s, .pointer (some ⟨PW, 0, none⟩)] w (ReadP w P PW L n RR) := by
  have HK := hidp hK
  have e1 := eqFl (l := [104, 97, 115, 104]) (by decide +kernel) r1
  have e2 := eqFl (l := [116, 104]) (by decide +kernel) r2
  have e3 := eqFl (l := [112, 97, 114, 116]) (by decide +kernel) r3
  have e4 := eqFl (l := [99, 111, 117, 110, 116]) (by decide +kernel) r4
  have e5 := eqFl (l := [109, 97, 114, 107]) (by decide +kernel) r5
  have e6 := eqFl (l := [115, 111, 109, 101]) (by decide +kernel) r6
  have e7 := eqFl (l := [111, 114, 100, 101, 114]) (by decide +kernel) r7
  have e8 := eqFl (l := [102, 97, 105, 114]) (by decide +kernel) r8
  have e9 := eqFl (l := [108, 101, 118, 101, 108]) (by decide +kernel) r9
  have e10 := eqFl (l := [112, 105, 99, 107]) (by decide +kernel) r10
  have e11 := eqFl (l := [101, 118, 101, 110]) (by decide +kernel) r11
  have e12 := eqFl (l := [101, 115, 116]) (by decide +kernel) r12
  clear hK r1 r2 r3 r4 r5 r6 r7 r8 r9 r10 r11 r12
  unfold ReadP at *
  go_enter Tryz.func26, Tryz.ntmps26
  go_wp2_with fail
  refine HK.out.mono ?_
  rintro e w' ⟨⟨c, k, g, caps, h1, rfl, hW, hD⟩ | ⟨h1, rfl⟩, hg⟩
  · have H1 := hidp h1
    have HW := hidp hW
    have HG := hidp hg
    clear HK h1 hW hg
    go_wp2_with fail
    go_ret
    exact ⟨.inl ⟨c, k, g, caps, H1.out, rfl, HW.out, hD⟩, HG.out⟩
  · have H1 := hidp h1
    have HG := hidp hg
    clear HK h1 hg
    go_wp2
    exact ⟨rfl, .inr ⟨H1.out, rfl⟩, HG.out⟩
theorem dread_x (P PW : Nat) (L : List ByteArray) (n : Nat) (s : ByteArray) (w : World) (hW : WdAt w PW L n 1) (hT : Tabs w) (h8 : 8 ≤ PW) (hs : ∀ i, (wg L i).size ≤ 65536) (h8P : 8 ≤ P) (hPl : P < w.heap.size) :
    Calls Tryz.prog 26 #[.pointer (some ⟨P, 0, none⟩), .string s, .pointer (some ⟨PW, 0, none⟩)] w (ReadP w P PW L n (drdF L n s)) := by
  unfold drdF
  by_cases r1 : s = ⟨#[104, 97, 115, 104]⟩
  · rw [if_pos r1]; subst r1; exact rd_hash P PW L n w hW hT h8 hs
  rw [if_neg r1]
  by_cases r2 : s = ⟨#[116, 104]⟩
  · rw [if_pos r2]; subst r2; exact rd_th P PW L n w hW hT h8 hs
  rw [if_neg r2]
  by_cases r3 : s = ⟨#[112, 97, 114, 116]⟩
  · rw [if_pos r3]; subst r3; exact rd_part P PW L n w hW hT h8 hs
  rw [if_neg r3]
  by_cases r4 : s = ⟨#[99, 111, 117, 110, 116]⟩
  · rw [if_pos r4]; subst r4; exact rd_count P PW L n w hW hT h8 hs
  rw [if_neg r4]
  by_cases r5 : s = ⟨#[109, 97, 114, 107]⟩
  · rw [if_pos r5]; subst r5; exact rd_mark P PW L n w hW hT h8 hs
  rw [if_neg r5]
  by_cases r6 : s = ⟨#[115, 111, 109, 101]⟩
  · rw [if_pos r6]; subst r6; exact rd_some P PW L n w hW hT h8 hs
  rw [if_neg r6]
  by_cases r7 : s = ⟨#[111, 114, 100, 101, 114]⟩
  · rw [if_pos r7]; subst r7; exact rd_order P PW L n w hW hT h8 hs
  rw [if_neg r7]
  by_cases r8 : s = ⟨#[102, 97, 105, 114]⟩
  · rw [if_pos r8]; subst r8; exact rd_fair P PW L n w hW hT h8 hs
  rw [if_neg r8]
  by_cases r9 : s = ⟨#[108, 101, 118, 101, 108]⟩
  · rw [if_pos r9]; subst r9; exact rd_level P PW L n w hW hT h8 hs
  rw [if_neg r9]
  by_cases r10 : s = ⟨#[112, 105, 99, 107]⟩
  · rw [if_pos r10]; subst r10; exact rd_pick P PW L n w hW hT h8 hs
  rw [if_neg r10]
  by_cases r11 : s = ⟨#[101, 118, 101, 110]⟩
  · rw [if_pos r11]; subst r11; exact rd_even P PW L n w hW hT h8 hs
  rw [if_neg r11]
  by_cases r12 : s = ⟨#[101, 115, 116]⟩
  · rw [if_pos r12]; subst r12; exact rd_est P PW L n w hW hT h8 hs
  rw [if_neg r12]
  exact read_else P PW L n _ s w (keep_x P PW L n s w hW hT h8 hs h8P hPl) r1 r2 r3 r4 r5 r6 r7 r8 r9 r10 r11 r12
end Go.Proofs.YtgodgfnfaiiohaaGreatDoor

/- The deferred closure of desk.answer: a fault becomes an error's text. -/
namespace Go.Proofs.YtgodgfnfaiiohaaGreatDoor
open Go.ChangeShapes Go.WideShapes Go.ChangeAt Go.RowKit
set_option maxRecDepth 20000
set_option linter.unusedVariables false
def errS (e : Int) : ByteArray := ⟨#[101, 114, 114, 111, 114, 32]⟩ ++ itoS e
set_option maxHeartbeats 4000000 in
theorem catch_idle (p : Addr) (w : World) :
    CallsD Tryz.prog 21 #[.pointer (some p)] .returning w fun e u' w' => e = .returned (.tuple #[]) ∧ u' = .returning ∧ w' = w := by
  refine callsD_of_wpS Tryz.func21 rfl fun c₀ cs hu => ?_
  apply wpS_seq
  apply wpS_region
  simp [wpOpsS, go_sem, recoverD, hu, Tryz.ntmps21, Exit.thenS]
  have qN : ∀ W : World, (binOp .neq 50 .nilIface .nilIface).run Tryz.prog W = .ok (.bool false) W := fun W => rfl
  refine wpS_of_wp (a := { tmps := #[.pointer (some p), .nilIface, undef, undef, .nilIface, undef, undef, undef, undef, undef, undef, undef, undef, undef, undef, undef, undef, undef, undef], defers := [] }) ?_
  go_wp2_with fail
  cases c₀
  simp_all [bodyPostS, results, Tryz.results21]
set_option maxHeartbeats 4000000 in
theorem catch_fault (b : Nat) (x : ByteArray) (n : Int) (older : List PanicEntry) (w : World) (hc : w.cell? ⟨b, 0, none⟩ = some (.string x)) (hz : w.frozen? ⟨b, 0, none⟩ = false) (hT : Tabs w) (h0 : -9223372036854775808 ≤ n) (h1 : n ≤ 9223372036854775807) :
    CallsD Tryz.prog 21 #[.pointer (some ⟨b, 0, none⟩)] (.panicking (faultV n :: older)) w fun e u' w' =>
      e = .returned (.tuple #[]) ∧ u' = .panicking ({ faultV n with recovered := true } :: older) ∧ ∃ w1, Below w.heap.size w w1 ∧ w' = w1.setCell ⟨b, 0, none⟩ (.string (errS n)) := by
  refine callsD_of_wpS Tryz.func21 rfl fun c₀ cs hu => ?_
  apply wpS_seq
  apply wpS_region
  simp [wpOpsS, go_sem, recoverD, hu, faultV, Tryz.ntmps21, Exit.thenS]
  refine wpS_of_wp (a := { tmps := #[.pointer (some ⟨b, 0, none⟩), .iface 63 (.agg #[.int .i64 n]), undef, undef, .iface 63 (.agg #[.int .i64 n]), undef, undef, undef, undef, undef, undef, undef, undef, undef, undef, undef, undef, undef, undef], defers := [] }) ?_
  have IT := hidp (fun W (hB : Below w.heap.size w W) => ito_c n W (hT.below (hB.mono hT.size)) h0 h1)
  clear hT
  have hta : ∀ (V : Value) (W : World), (Instr.typeAssert (.iface 63 V) 20 63 true).run Tryz.prog W = .ok (.tuple #[V, .bool true]) W := fun V W => rfl
  have blt := lt_of_cell hc
  have hs1 := itoS_size n h0 h1
  have EN := hidp (show errS n = ⟨#[101, 114, 114, 111, 114, 32]⟩ ++ itoS n from rfl)
  have b1 : Below w.heap.size w (w.alloc (.cells #[.int .i64 n] 63)) := bal (Below.refl _ _) _
  have B1 := hidp b1
  clear b1
  go_wp2_with fail
  refine (IT.out _ B1.out).mono ?_
  rintro e w2 ⟨rfl, hb⟩
  have hb2 := bstep B1.out hb
  have hc2 := ck hb2 hc
  have hz2 := (hb2.frozen (p := ⟨b, 0, none⟩) blt).trans hz
  clear hb IT hc hz
  generalize itoS n = ix at *
  have hs2 : (⟨#[101, 114, 114, 111, 114, 32]⟩ ++ ix : ByteArray).size = 6 + ix.size := by simp [ByteArray.size_append]; rfl
  go_wp2_with fail
  refine ⟨rfl, _, rfl, .tuple #[], ?_, rfl, rfl, w2, hb2, by rw [EN.out]⟩
  simp [results, Tryz.results21]
end Go.Proofs.YtgodgfnfaiiohaaGreatDoor

/- desk.answer: what a line is answered. -/
namespace Go.Proofs.YtgodgfnfaiiohaaGreatDoor
open Go.ChangeShapes Go.WideShapes Go.ChangeAt Go.RowKit
set_option maxRecDepth 20000
set_option linter.unusedVariables false
def ansS : Res → ByteArray
  | .ok s => s
  | .error c => errS c
/-- A block that holds one text alone is none of the desk's. -/
structure OneText (W : World) (R : Nat) (x : ByteArray) : Prop where
  c0 : W.cell? ⟨R, 0, none⟩ = some (.string x)
  c1 : ∀ i, 1 ≤ i → W.cell? ⟨R, i, none⟩ = none
  fz : W.frozen? ⟨R, 0, none⟩ = false
theorem OneText.below {W W' : World} {R : Nat} {x : ByteArray} (h : OneText W R x) (hb : Below W.heap.size W W') : OneText W' R x := by
  have hl : R < W.heap.size := lt_of_cell h.c0
  exact ⟨ck hb h.c0, fun i hi => (hb.cell (p := ⟨R, i, none⟩) hl).trans (h.c1 i hi), (hb.frozen (p := ⟨R, 0, none⟩) hl).trans h.fz⟩
theorem OneText.grown {W W' : World} {R P : Nat} {x : ByteArray} (h : OneText W R x) (hg : W.grownBy W' (some P)) (hne : P ≠ R) : OneText W' R x := by
  have hl : R < W.heap.size := lt_of_cell h.c0
  have hn : (⟨R, 0, none⟩ : Addr).block ≠ P := fun e => hne (by rw [← e])
  refine ⟨gk hg h.c0 (fun e => hne (by cases e; rfl)), fun i hi => (hg.cell_far ⟨R, i, none⟩ hl (fun e => hne (by cases e; rfl))).trans (h.c1 i hi), gf hg h.fz hl (fun e => hne (by cases e; rfl))⟩
theorem one_ne {W : World} {R b off : Nat} {x : ByteArray} {k : IntKind} {y : Int} (h : OneText W R x) (hc : W.cell? ⟨b, off, none⟩ = some (.int k y)) : b ≠ R := by
  rintro rfl
  by_cases h0 : off = 0
  · subst h0; rw [h.c0] at hc; cases hc
  · rw [h.c1 off (by omega)] at hc; cases hc
theorem ints_one_off {W : World} {R : Nat} {x : ByteArray} {v : Value} {a : Option Addr} {n c : Nat} {L : List Int} (h : IntsAt W a n c L) (ho : OneText W R x) : IntsAt (W.setCell ⟨R, 0, none⟩ v) a n c L := by
  refine ⟨h.len, h.le, h.max, fun hn => ?_, h.bd⟩
  obtain ⟨b, off, rfl, hlt, hc⟩ := h.cells hn
  refine ⟨b, off, rfl, by simpa using hlt, fun i u hu => ?_⟩
  have h1 := hc i u hu
  have hi : i < L.length := by have := (List.getElem?_eq_some_iff.1 hu).1; simpa using this
  have : u = .int .i64 (L[i]) := by rw [List.getElem?_map, List.getElem?_eq_getElem hi] at hu; simpa using hu.symm
  rw [this] at h1 ⊢
  exact gb_cell (gb_set W R 0 v) h1 (one_ne ho h1)
theorem cnt_one_off {W : World} {R : Nat} {x : ByteArray} {v : Value} {a : Option Addr} {n c : Nat} {L : List (Int × Int)} (h : CntAt W a n c L) (ho : OneText W R x) : CntAt (W.setCell ⟨R, 0, none⟩ v) a n c L := by
  refine ⟨h.len, h.le, h.max, fun hn => ?_⟩
  obtain ⟨b, off, rfl, hlt, hc⟩ := h.cells hn
  exact ⟨b, off, rfl, by simpa using hlt, fun i hi => ⟨gb_cell (gb_set W R 0 v) (hc i hi).1 (one_ne ho (hc i hi).1), gb_cell (gb_set W R 0 v) (hc i hi).2 (one_ne ho (hc i hi).2)⟩⟩
theorem rules_one_off {W : World} {R : Nat} {x : ByteArray} {v : Value} {a : Option Addr} {n c : Nat} {L : List Rl} (h : RulesAt W a n c L) (ho : OneText W R x) : RulesAt (W.setCell ⟨R, 0, none⟩ v) a n c L := by
  refine ⟨h.len, h.le, h.max, fun hn => ?_⟩
  obtain ⟨b, off, rfl, hlt, hc⟩ := h.cells hn
  have hne : b ≠ R := one_ne ho (hc 0 hn).2.1
  exact ⟨b, off, rfl, by simpa using hlt, fun i hi => ⟨gb_cell (gb_set W R 0 v) (hc i hi).1 hne, gb_cell (gb_set W R 0 v) (hc i hi).2.1 hne, gb_cell (gb_set W R 0 v) (hc i hi).2.2 hne⟩⟩
theorem DeskAt.res {F : Nat → Prop} {W : World} {P R : Nat} {D : DeskSt} {x : ByteArray} {v : Value} (h : DeskAt W P F D) (ho : OneText W R x) (hne : P ≠ R) : DeskAt (W.setCell ⟨R, 0, none⟩ v) P F D := by
  have g := gb_set W R 0 v
  obtain ⟨a2, n2, c2, q2, r2, o2⟩ := h.k2
  obtain ⟨a3, n3, c3, q3, r3, o3⟩ := h.k3
  obtain ⟨a6, n6, c6, q6, r6, o6⟩ := h.k6
  obtain ⟨a8, n8, c8, q8, r8, o8⟩ := h.k8
  exact ⟨h.fP, fun q hq => Nat.lt_of_lt_of_le (h.fl q hq) g.size, gb_cell g h.k0 hne, gb_cell g h.k1 hne, ⟨a2, n2, c2, gb_cell g q2 hne, cnt_one_off r2 ho, o2.size g.size⟩, ⟨a3, n3, c3, gb_cell g q3 hne, rules_one_off r3 ho, o3.size g.size⟩, gb_cell g h.k4 hne, gb_cell g h.k5 hne, ⟨a6, n6, c6, gb_cell g q6 hne, ints_one_off r6 ho, o6.size g.size⟩, gb_cell g h.k7 hne, ⟨a8, n8, c8, gb_cell g q8 hne, ints_one_off r8 ho, o8.size g.size⟩, fun i => gf g (h.fz i) h.lt (fun e => hne (by cases e; rfl))⟩
/-- What a word that names a list's reckoning asks. -/
def lsC (s : ByteArray) : Option (List Int → Cmd) :=
  (fun z => if z = [109, 111, 115, 116] then some Cmd.most else if z = [97, 108, 105, 97, 115] then some Cmd.alias else if z = [99, 111, 109, 98] then some Cmd.comb else if z = [114, 97, 110, 107] then some Cmd.rank else none) s.data.toList
def lineC (L : List ByteArray) (n : Nat) : Option (Cmd × Nat) :=
  match lsC (wg L 0) with
  | some f => (lsS L n 1).bind fun l => some (f l, 2)
  | none => drdF L n (wg L 0)
/-- What a line does. -/
noncomputable def lineR (D : DeskSt) (L : List ByteArray) (n : Nat) : Res × DeskSt :=
  match lineC L n with
  | some (c, k) => if k = n then opF D c else (.error 9, D)
  | none => (.error 9, D)
theorem lists_do (s : ByteArray) : (lsF s = none ∧ lsC s = none) ∨ ∃ g f, lsF s = some g ∧ lsC s = some f ∧ (∀ (args : Array Value) (w : World), (callFunc g args).run Tryz.prog w = .ok (.enter g args) w) ∧ (∀ D l, (opF D (f l)).2 = D) ∧
    ∀ (a : Option Addr) (n c : Nat) (x : List Int) (D : DeskSt) (W : World), Tabs W → IntsAt W a n c x → Calls Tryz.prog g #[.slice a n c] W fun e w' => AnsX (opF D (f x)).1 e ∧ Below W.heap.size W w' := by
  unfold lsF lsC
  simp only
  by_cases h1 : s.data.toList = [109, 111, 115, 116]
  · rw [if_pos h1, if_pos h1]
    exact .inr ⟨_, _, rfl, rfl, fun _ _ => by kernel_rfl, fun _ _ => rfl, fun a n c x D W hT hi => do_most a n c x D W hT hi⟩
  rw [if_neg h1, if_neg h1]
  by_cases h2 : s.data.toList = [97, 108, 105, 97, 115]
  · rw [if_pos h2, if_pos h2]
    exact .inr ⟨_, _, rfl, rfl, fun _ _ => by kernel_rfl, fun _ _ => rfl, fun a n c x D W hT hi => do_alias a n c x D W hT hi⟩
  rw [if_neg h2, if_neg h2]
  by_cases h3 : s.data.toList = [99, 111, 109, 98]
  · rw [if_pos h3, if_pos h3]
    exact .inr ⟨_, _, rfl, rfl, fun _ _ => by kernel_rfl, fun _ _ => rfl, fun a n c x D W hT hi => do_comb a n c x D W hT hi⟩
  rw [if_neg h3, if_neg h3]
  by_cases h4 : s.data.toList = [114, 97, 110, 107]
  · rw [if_pos h4, if_pos h4]
    exact .inr ⟨_, _, rfl, rfl, fun _ _ => by kernel_rfl, fun _ _ => rfl, fun a n c x D W hT hi => do_rank a n c x D W hT hi⟩
  rw [if_neg h4, if_neg h4]
  exact .inl ⟨rfl, rfl⟩
end Go.Proofs.YtgodgfnfaiiohaaGreatDoor

/- desk.answer: the walk. -/
namespace Go.Proofs.YtgodgfnfaiiohaaGreatDoor
open Go.ChangeShapes Go.WideShapes Go.ChangeAt Go.RowKit
set_option maxRecDepth 20000
set_option linter.unusedVariables false
theorem gb_new {w : World} {P R : Nat} (W : World) (hR : w.heap.size ≤ R) (v : Value) (h : w.grownBy W (some P)) : w.grownBy (W.setCell ⟨R, 0, none⟩ v) (some P) :=
  ⟨h.os, h.tape, h.output, by show w.heap.size ≤ (W.setCell ⟨R, 0, none⟩ v).heap.size; simpa using h.size, fun q hq hne => (Below.heap_setCell W ⟨R, 0, none⟩ v q (by show q ≠ R; omega)).trans (h.block q hq hne)⟩
theorem one_block (w : World) (x : Value) (T : TypeId) (ob : Obj) (i : Nat) (hi : 1 ≤ i) : ((w.alloc (.cells #[x] T)).alloc ob).cell? ⟨w.heap.size, i, none⟩ = none := by
  rw [(Below.refl (w.alloc (.cells #[x] T)).heap.size (w.alloc (.cells #[x] T))).alloc (Nat.le_refl _) ob |>.cell (p := ⟨w.heap.size, i, none⟩) (by simp)]
  unfold World.cell?
  rw [heap_alloc_new]
  simp
  omega
set_option maxHeartbeats 4000000 in
theorem answer_read (F : Nat → Prop) (P b o : Nat) (L : List ByteArray) (n c : Nat) (D : DeskSt) (w : World) (hT : Tabs w) (hD : DeskAt w P F D) (ho : StOk D) (hP : 8 ≤ P) (hL : L.length = n) (hn : 1 ≤ n) (hnc : n ≤ c) (hcm : c ≤ 9223372036854775807) (hw : ∀ i, i < n → w.cell? ⟨b, o + i, none⟩ = some (.string (wg L i))) (hs : ∀ i, (wg L i).size ≤ 65536)
    (hf : lsF (wg L 0) = none) (hE : ∀ cm e, (opF D cm).1 = .error e → I64 e) :
    Calls Tryz.prog 13 #[.pointer (some ⟨P, 0, none⟩), .slice (some ⟨b, o, none⟩) n c] w fun e w' => e = .returned (.string (ansS (lineR D L n).1)) ∧ DeskAt w' P F (lineR D L n).2 ∧ w.grownBy w' (some P) := by
  have hmf : ∀ (fn : Fn) (first cap : Array Value) (w : World), (Instr.makeFunc fn first cap).run Tryz.prog w = .ok (.func fn first cap) w := fun _ _ _ _ => rfl
  have c0 : w.cell? ⟨b, o, none⟩ = some (.string (wg L 0)) := hw 0 (by omega)
  have hb : b < w.heap.size := lt_of_cell c0
  have HD := hidp hD
  have HT := hidp hT
  have HO := hidp ho
  have HW := hidp hw
  have HS := hidp hs
  have LS := hidp (fun W => lists_c (wg L 0) (hs 0) W)
  rw [hf] at LS
  simp only [fnV, Option.isSome_none] at LS
  have HF := hidp hf
  have hnI : (0 : Int) < (n : Int) := by omega
  have HE := hidp hE
  have HL := hidp hL
  clear hD hT ho hw hs hf hE hL
  generalize hg0 : wg L 0 = s0 at *
  have HG0 := hidp hg0
  clear hg0
  go_enter_defers Tryz.func13, Tryz.ntmps13
  go_upto_region 3 with fail
  have hb2 : Below w.heap.size w ((w.alloc (.cells #[.string ⟨#[]⟩] 9)).alloc (.cells #[.slice (some ⟨b, o, none⟩) n c, .int .i64 1] 68)) := bal (bal (Below.refl _ _) _) _
  have B2 := hidp hb2
  have x0 : ((w.alloc (.cells #[.string ⟨#[]⟩] 9)).alloc (.cells #[.slice (some ⟨b, o, none⟩) n c, .int .i64 1] 68)).cell? ⟨b, o, none⟩ = some (.string s0) := ck hb2 c0
  have O2 := hidp (show OneText ((w.alloc (.cells #[.string ⟨#[]⟩] 9)).alloc (.cells #[.slice (some ⟨b, o, none⟩) n c, .int .i64 1] 68)) w.heap.size ⟨#[]⟩ from ⟨by go_simp, fun i hi => one_block _ _ _ _ i hi, by go_simp⟩)
  have WD2 := hidp (show WdAt ((w.alloc (.cells #[.string ⟨#[]⟩] 9)).alloc (.cells #[.slice (some ⟨b, o, none⟩) n c, .int .i64 1] 68)) (w.heap.size + 1) L n 1 from ⟨by simp, HL.out, ⟨some ⟨b, o, none⟩, c, by go_simp, hnc, hcm, b, o, .inr rfl, by omega, fun i hi => ck hb2 (HW.out i hi)⟩, by go_simp, hn, fun i => by go_simp⟩)
  have hz2 : ((w.alloc (.cells #[.string ⟨#[]⟩] 9)).alloc (.cells #[.slice (some ⟨b, o, none⟩) n c, .int .i64 1] 68)).heap.size = w.heap.size + 2 := by simp
  clear hb2 c0
  generalize ((w.alloc (.cells #[.string ⟨#[]⟩] 9)).alloc (.cells #[.slice (some ⟨b, o, none⟩) n c, .int .i64 1] 68)) = w2 at *
  go_wp2_with fail
  refine (LS.out _).mono ?_
  rintro e w3 ⟨rfl, hb3⟩
  have B3 := hidp (bstep B2.out hb3)
  have O3 := hidp (O2.out.below hb3)
  have WD3 := hidp (WD2.out.below hb3)
  have x3 := ck hb3 x0
  have T3 := hidp (HT.out.on B3.out)
  have hz3 := hb3.size
  have hPl := HD.out.lt
  have hPR : P ≠ w.heap.size := by omega
  have LC := hidp (show lsC (wg L 0) = none by
    rcases lists_do (wg L 0) with h | ⟨g, f, h1, _⟩
    · exact h.2
    · rw [HG0.out, HF.out] at h1; cases h1)
  clear B2 O2 WD2 x0 hb3 LS
  go_wp2_with fail
  refine (dread_x P (w.heap.size + 1) L n s0 w3 WD3.out T3.out (by omega) HS.out hP (by omega)).mono ?_
  rintro e w4 ⟨⟨cm, k, g, caps, h1, rfl, hW4, hd⟩ | ⟨h1, rfl⟩, hg4⟩
  rotate_left
  · have R1 := hidp (show lineR D L n = (.error 9, D) by unfold lineR lineC; rw [LC.out]; simp only; rw [HG0.out, h1])
    have O4 := O3.out.grown hg4 (by omega)
    have B4 := B3.out.grown hg4 B3.out.size (fun q e => by cases e; omega)
    have T4 := T3.out.grown hg4 (by omega)
    have D4 := HD.out.below B4
    clear h1 hg4
    go_wp2
    refine leaves_cons (f := 21) (args := #[.pointer (some ⟨w.heap.size, 0, none⟩)]) (by simp) (by simp [go_sem]) ?_
    refine (catch_fault w.heap.size ⟨#[]⟩ 9 [] _ O4.c0 O4.fz T4 (by omega) (by omega)).mono ?_
    rintro e u' w'' ⟨rfl, rfl, w9, hb9, rfl⟩
    have cz := ck hb9 O4.c0
    have q9 : (w9.setCell ⟨w.heap.size, 0, none⟩ (.string (errS 9))).cell? ⟨w.heap.size, 0, none⟩ = some (.string (errS 9)) := by go_simp
    have DR := hidp ((D4.below hb9).res (v := .string (errS 9)) (O4.below hb9) hPR)
    have GR := hidp ((fun (hb : Below w4.heap.size w4 w9) => gb_new w9 (Nat.le_refl w.heap.size) (.string (errS 9)) (gb_trans (gb_of B4 (some P)) (gb_of hb _))) hb9)
    simp [Leaves, settle, results, Tryz.results13, go_sem, q9]
    rw [R1.out]
    exact ⟨rfl, DR.out, GR.out⟩
  · have O4 := hidp (O3.out.grown hg4 (by omega))
    have B4 := hidp (B3.out.grown hg4 B3.out.size (fun q e => by cases e; omega))
    have T4 := hidp (T3.out.grown hg4 (by omega))
    have D4 := hidp (HD.out.below B4.out)
    have hz4 := hg4.size
    have eg := hd.out.1
    have DO := hidp hd.out.2
    have LN := hidp (show lineC L n = some (cm, k) by unfold lineC; rw [LC.out]; simp only; rw [HG0.out, h1])
    have W4 := hidp hW4
    have hkn := hW4.le
    clear h1 hg4 hd hW4 B3 O3 T3 WD3 x3 LC
    go_wp2_with fail
    by_cases hk : k = n
    · subst hk
      have R1 := hidp (show lineR D L k = opF D cm by unfold lineR; rw [LN.out]; exact if_pos rfl)
      refine (wend_ok (w.heap.size + 1) L k w4 W4.out).mono ?_
      rintro e w5 ⟨rfl, hb5⟩
      have O5 := hidp (O4.out.below hb5)
      have B5 := hidp (B4.out.trans (hb5.mono (by omega)))
      have T5 := hidp (T4.out.on hb5)
      have DO5 := hidp (DO.out F w5 D hb5 (D4.out.below hb5) HO.out T5.out)
      clear hb5 O4 B4 T4 D4 DO W4 LN
      go_wp2_with fail
      refine DO5.out.mono ?_
      rintro e w6 ⟨hx, hD6, hg6⟩
      have O6 := O5.out.grown hg6 hPR
      have D6 := hidp hD6
      have T6 := T5.out.grown hg6 hP
      have G6 := hidp (gb_trans (gb_of B5.out (some P)) hg6)
      clear O5 B5 T5 DO5 hD6 hg6
      rcases hx with ⟨s, h2, rfl⟩ | ⟨cc, h2, rfl⟩
      · have H2 := hidp h2
        have o60 := O6.c0
        have f60 := O6.fz
        have O7 := hidp O6
        clear h2 O6 T6
        go_wp2
        refine leaves_cons (f := 21) (args := #[.pointer (some ⟨w.heap.size, 0, none⟩)]) (by simp) (by simp [go_sem]) ?_
        refine (catch_idle ⟨w.heap.size, 0, none⟩ _).mono ?_
        rintro e u' w'' ⟨rfl, rfl, rfl⟩
        have q9 : (w6.setCell ⟨w.heap.size, 0, none⟩ (.string s)).cell? ⟨w.heap.size, 0, none⟩ = some (.string s) := by go_simp
        have DR := hidp (D6.out.res (v := .string s) O7.out hPR)
        have GR := hidp (gb_new w6 (Nat.le_refl w.heap.size) (.string s) G6.out)
        simp [Leaves, settle, results, Tryz.results13, go_sem, q9]
        rw [R1.out, H2.out]
        exact ⟨rfl, DR.out, GR.out⟩
      · have H2 := hidp h2
        obtain ⟨i0, i1⟩ := HE.out cm cc h2
        clear h2
        go_wp2
        have RR := hidp (show lineR D L k = (.error cc, (opF D cm).2) by rw [R1.out, ← H2.out])
        refine leaves_cons (f := 21) (args := #[.pointer (some ⟨w.heap.size, 0, none⟩)]) (by simp) (by simp [go_sem]) ?_
        refine (catch_fault w.heap.size ⟨#[]⟩ cc [] _ O6.c0 O6.fz T6 i0 i1).mono ?_
        rintro e u' w'' ⟨rfl, rfl, w9, hb9, rfl⟩
        have cz := ck hb9 O6.c0
        have q9 : (w9.setCell ⟨w.heap.size, 0, none⟩ (.string (errS cc))).cell? ⟨w.heap.size, 0, none⟩ = some (.string (errS cc)) := by go_simp
        have DR := hidp ((D6.out.below hb9).res (v := .string (errS cc)) (O6.below hb9) hPR)
        have GR := hidp (gb_new w9 (Nat.le_refl w.heap.size) (.string (errS cc)) (gb_trans G6.out (gb_of hb9 _)))
        simp [Leaves, settle, results, Tryz.results13, go_sem, q9]
        rw [RR.out]
        exact ⟨rfl, DR.out, GR.out⟩
    · have R1 := hidp (show lineR D L n = (.error 9, D) by unfold lineR; rw [LN.out]; simp only; rw [if_neg hk])
      refine (wend_bad (w.heap.size + 1) L n k w4 W4.out (by omega)).mono ?_
      rintro e w5 ⟨rfl, hb5⟩
      have O5 := O4.out.below hb5
      have B5 := B4.out.trans (hb5.mono (by omega))
      have T5 := T4.out.on hb5
      have D5 := D4.out.below hb5
      clear hb5 O4 B4 T4 D4 DO W4 LN
      go_wp2
      refine leaves_cons (f := 21) (args := #[.pointer (some ⟨w.heap.size, 0, none⟩)]) (by simp) (by simp [go_sem]) ?_
      refine (catch_fault w.heap.size ⟨#[]⟩ 9 [] _ O5.c0 O5.fz T5 (by omega) (by omega)).mono ?_
      rintro e u' w'' ⟨rfl, rfl, w9, hb9, rfl⟩
      have cz := ck hb9 O5.c0
      have q9 : (w9.setCell ⟨w.heap.size, 0, none⟩ (.string (errS 9))).cell? ⟨w.heap.size, 0, none⟩ = some (.string (errS 9)) := by go_simp
      have DR := hidp ((D5.below hb9).res (v := .string (errS 9)) (O5.below hb9) hPR)
      have GR := hidp (gb_new w9 (Nat.le_refl w.heap.size) (.string (errS 9)) (gb_trans (gb_of B5 (some P)) (gb_of hb9 _)))
      simp [Leaves, settle, results, Tryz.results13, go_sem, q9]
      rw [R1.out]
      exact ⟨rfl, DR.out, GR.out⟩
end Go.Proofs.YtgodgfnfaiiohaaGreatDoor

/- desk.answer at words that name a list's reckoning, and at whatever words. -/
namespace Go.Proofs.YtgodgfnfaiiohaaGreatDoor
open Go.ChangeShapes Go.WideShapes Go.ChangeAt Go.RowKit
set_option maxRecDepth 20000
set_option linter.unusedVariables false
set_option maxHeartbeats 4000000 in
theorem answer_list (F : Nat → Prop) (P b o : Nat) (L : List ByteArray) (n c : Nat) (D : DeskSt) (w : World) (hT : Tabs w) (hD : DeskAt w P F D) (ho : StOk D) (hP : 8 ≤ P) (hL : L.length = n) (hn : 1 ≤ n) (hnc : n ≤ c) (hcm : c ≤ 9223372036854775807) (hw : ∀ i, i < n → w.cell? ⟨b, o + i, none⟩ = some (.string (wg L i))) (hs : ∀ i, (wg L i).size ≤ 65536)
    (g : Nat) (f : List Int → Cmd) (hf : lsF (wg L 0) = some g) (hc : lsC (wg L 0) = some f) (eg : ∀ (args : Array Value) (w : World), (callFunc g args).run Tryz.prog w = .ok (.enter g args) w) (h2 : ∀ D l, (opF D (f l)).2 = D) (hdo : ∀ (a : Option Addr) (n c : Nat) (x : List Int) (D : DeskSt) (W : World), Tabs W → IntsAt W a n c x → Calls Tryz.prog g #[.slice a n c] W fun e w' => AnsX (opF D (f x)).1 e ∧ Below W.heap.size W w') (hE : ∀ cm e, (opF D cm).1 = .error e → I64 e) :
    Calls Tryz.prog 13 #[.pointer (some ⟨P, 0, none⟩), .slice (some ⟨b, o, none⟩) n c] w fun e w' => e = .returned (.string (ansS (lineR D L n).1)) ∧ DeskAt w' P F (lineR D L n).2 ∧ w.grownBy w' (some P) := by
  have hmf : ∀ (fn : Fn) (first cap : Array Value) (w : World), (Instr.makeFunc fn first cap).run Tryz.prog w = .ok (.func fn first cap) w := fun _ _ _ _ => rfl
  have c0 : w.cell? ⟨b, o, none⟩ = some (.string (wg L 0)) := hw 0 (by omega)
  have hb : b < w.heap.size := lt_of_cell c0
  have HD := hidp hD
  have HT := hidp hT
  have HO := hidp ho
  have HW := hidp hw
  have HS := hidp hs
  have LS := hidp (fun W => lists_c (wg L 0) (hs 0) W)
  rw [hf] at LS
  simp only [fnV, Option.isSome_some] at LS
  have LC := hidp hc
  have DO := hidp hdo
  have H2 := hidp h2
  clear hc hdo h2
  have HF := hidp hf
  have hnI : (0 : Int) < (n : Int) := by omega
  have HE := hidp hE
  have HL := hidp hL
  clear hD hT ho hw hs hf hE hL
  generalize hg0 : wg L 0 = s0 at *
  have HG0 := hidp hg0
  clear hg0
  go_enter_defers Tryz.func13, Tryz.ntmps13
  go_upto_region 3 with fail
  have hb2 : Below w.heap.size w ((w.alloc (.cells #[.string ⟨#[]⟩] 9)).alloc (.cells #[.slice (some ⟨b, o, none⟩) n c, .int .i64 1] 68)) := bal (bal (Below.refl _ _) _) _
  have B2 := hidp hb2
  have x0 : ((w.alloc (.cells #[.string ⟨#[]⟩] 9)).alloc (.cells #[.slice (some ⟨b, o, none⟩) n c, .int .i64 1] 68)).cell? ⟨b, o, none⟩ = some (.string s0) := ck hb2 c0
  have O2 := hidp (show OneText ((w.alloc (.cells #[.string ⟨#[]⟩] 9)).alloc (.cells #[.slice (some ⟨b, o, none⟩) n c, .int .i64 1] 68)) w.heap.size ⟨#[]⟩ from ⟨by go_simp, fun i hi => one_block _ _ _ _ i hi, by go_simp⟩)
  have WD2 := hidp (show WdAt ((w.alloc (.cells #[.string ⟨#[]⟩] 9)).alloc (.cells #[.slice (some ⟨b, o, none⟩) n c, .int .i64 1] 68)) (w.heap.size + 1) L n 1 from ⟨by simp, HL.out, ⟨some ⟨b, o, none⟩, c, by go_simp, hnc, hcm, b, o, .inr rfl, by omega, fun i hi => ck hb2 (HW.out i hi)⟩, by go_simp, hn, fun i => by go_simp⟩)
  have hz2 : ((w.alloc (.cells #[.string ⟨#[]⟩] 9)).alloc (.cells #[.slice (some ⟨b, o, none⟩) n c, .int .i64 1] 68)).heap.size = w.heap.size + 2 := by simp
  clear hb2 c0
  generalize ((w.alloc (.cells #[.string ⟨#[]⟩] 9)).alloc (.cells #[.slice (some ⟨b, o, none⟩) n c, .int .i64 1] 68)) = w2 at *
  go_wp2_with fail
  refine (LS.out _).mono ?_
  rintro e w3 ⟨rfl, hb3⟩
  have B3 := hidp (bstep B2.out hb3)
  have O3 := hidp (O2.out.below hb3)
  have WD3 := hidp (WD2.out.below hb3)
  have x3 := ck hb3 x0
  have T3 := hidp (HT.out.on B3.out)
  have hz3 := hb3.size
  have hPl := HD.out.lt
  have hPR : P ≠ w.heap.size := by omega
  clear B2 O2 WD2 x0 hb3 LS
  go_wp2_with fail
  refine (list_x (w.heap.size + 1) L n 1 w3 WD3.out T3.out (by omega) HS.out).mono ?_
  rintro e w4 ⟨⟨a, m, c', l, h1, rfl, ⟨hi, ho⟩, hW4⟩ | ⟨h1, rfl⟩, hg4⟩
  rotate_left
  · have R1 := hidp (show lineR D L n = (.error 9, D) by unfold lineR lineC; rw [HG0.out, LC.out]; simp only; rw [h1]; rfl)
    have O4 := O3.out.grown hg4 (by omega)
    have B4 := B3.out.grown hg4 B3.out.size (fun q e => by cases e; omega)
    have T4 := T3.out.grown hg4 (by omega)
    have D4 := HD.out.below B4
    clear h1 hg4
    go_wp2
    refine leaves_cons (f := 21) (args := #[.pointer (some ⟨w.heap.size, 0, none⟩)]) (by simp) (by simp [go_sem]) ?_
    refine (catch_fault w.heap.size ⟨#[]⟩ 9 [] _ O4.c0 O4.fz T4 (by omega) (by omega)).mono ?_
    rintro e u' w'' ⟨rfl, rfl, w9, hb9, rfl⟩
    have cz := ck hb9 O4.c0
    have q9 : (w9.setCell ⟨w.heap.size, 0, none⟩ (.string (errS 9))).cell? ⟨w.heap.size, 0, none⟩ = some (.string (errS 9)) := by go_simp
    have DR := hidp ((D4.below hb9).res (v := .string (errS 9)) (O4.below hb9) hPR)
    have GR := hidp (gb_new w9 (Nat.le_refl w.heap.size) (.string (errS 9)) (gb_trans (gb_of B4 (some P)) (gb_of hb9 _)))
    simp [Leaves, settle, results, Tryz.results13, go_sem, q9]
    rw [R1.out]
    exact ⟨rfl, DR.out, GR.out⟩
  · have O4 := hidp (O3.out.grown hg4 (by omega))
    have B4 := hidp (B3.out.grown hg4 B3.out.size (fun q e => by cases e; omega))
    have T4 := hidp (T3.out.grown hg4 (by omega))
    have D4 := hidp (HD.out.below B4.out)
    have hz4 := hg4.size
    have LN := hidp (show lineC L n = some (f l, 2) by unfold lineC; rw [HG0.out, LC.out]; simp only; rw [h1]; rfl)
    have W4 := hidp hW4
    have HI := hidp hi
    have hkn := hW4.le
    clear h1 hg4 hW4 B3 O3 T3 WD3 x3 LC hi ho
    go_wp2_with fail
    by_cases hk : 2 = n
    · subst hk
      have R1 := hidp (show lineR D L 2 = opF D (f l) by unfold lineR; rw [LN.out]; exact if_pos rfl)
      refine (wend_ok (w.heap.size + 1) L 2 w4 W4.out).mono ?_
      rintro e w5 ⟨rfl, hb5⟩
      have O5 := hidp (O4.out.below hb5)
      have B5 := hidp (B4.out.trans (hb5.mono (by omega)))
      have T5 := hidp (T4.out.on hb5)
      have D5 := hidp (D4.out.below hb5)
      have DO5 := hidp (DO.out a m c' l D w5 T5.out (HI.out.below hb5))
      clear hb5 O4 B4 T4 D4 DO W4 LN HI
      go_wp2_with fail
      refine DO5.out.mono ?_
      rintro e w6 ⟨hx, hb6⟩
      have O6 := O5.out.below hb6
      have D6 := hidp (D5.out.below hb6)
      have T6 := T5.out.on hb6
      have G6 := hidp (gb_of (B5.out.trans (hb6.mono B5.out.size)) (some P))
      clear O5 B5 T5 DO5 D5 hb6
      rcases hx with ⟨s, h2, rfl⟩ | ⟨cc, h2, rfl⟩
      · have RR := hidp (show lineR D L 2 = (.ok s, D) from Prod.ext (by rw [R1.out]; exact h2) (by rw [R1.out]; exact H2.out D l))
        have o60 := O6.c0
        have f60 := O6.fz
        have O7 := hidp O6
        clear h2 O6 T6
        go_wp2
        refine leaves_cons (f := 21) (args := #[.pointer (some ⟨w.heap.size, 0, none⟩)]) (by simp) (by simp [go_sem]) ?_
        refine (catch_idle ⟨w.heap.size, 0, none⟩ _).mono ?_
        rintro e u' w'' ⟨rfl, rfl, rfl⟩
        have q9 : (w6.setCell ⟨w.heap.size, 0, none⟩ (.string s)).cell? ⟨w.heap.size, 0, none⟩ = some (.string s) := by go_simp
        have DR := hidp (D6.out.res (v := .string s) O7.out hPR)
        have GR := hidp (gb_new w6 (Nat.le_refl w.heap.size) (.string s) G6.out)
        simp [Leaves, settle, results, Tryz.results13, go_sem, q9]
        rw [RR.out]
        exact ⟨rfl, DR.out, GR.out⟩
      · obtain ⟨i0, i1⟩ := HE.out (f l) cc h2
        have RR := hidp (show lineR D L 2 = (.error cc, D) from Prod.ext (by rw [R1.out]; exact h2) (by rw [R1.out]; exact H2.out D l))
        clear h2
        go_wp2
        refine leaves_cons (f := 21) (args := #[.pointer (some ⟨w.heap.size, 0, none⟩)]) (by simp) (by simp [go_sem]) ?_
        refine (catch_fault w.heap.size ⟨#[]⟩ cc [] _ O6.c0 O6.fz T6 i0 i1).mono ?_
        rintro e u' w'' ⟨rfl, rfl, w9, hb9, rfl⟩
        have cz := ck hb9 O6.c0
        have q9 : (w9.setCell ⟨w.heap.size, 0, none⟩ (.string (errS cc))).cell? ⟨w.heap.size, 0, none⟩ = some (.string (errS cc)) := by go_simp
        have DR := hidp ((D6.out.below hb9).res (v := .string (errS cc)) (O6.below hb9) hPR)
        have GR := hidp (gb_new w9 (Nat.le_refl w.heap.size) (.string (errS cc)) (gb_trans G6.out (gb_of hb9 _)))
        simp [Leaves, settle, results, Tryz.results13, go_sem, q9]
        rw [RR.out]
        exact ⟨rfl, DR.out, GR.out⟩
    · have R1 := hidp (show lineR D L n = (.error 9, D) by unfold lineR; rw [LN.out]; simp only; rw [if_neg hk])
      refine (wend_bad (w.heap.size + 1) L n 2 w4 W4.out (by omega)).mono ?_
      rintro e w5 ⟨rfl, hb5⟩
      have O5 := O4.out.below hb5
      have B5 := B4.out.trans (hb5.mono (by omega))
      have T5 := T4.out.on hb5
      have D5 := D4.out.below hb5
      clear hb5 O4 B4 T4 D4 DO W4 LN HI
      go_wp2
      refine leaves_cons (f := 21) (args := #[.pointer (some ⟨w.heap.size, 0, none⟩)]) (by simp) (by simp [go_sem]) ?_
      refine (catch_fault w.heap.size ⟨#[]⟩ 9 [] _ O5.c0 O5.fz T5 (by omega) (by omega)).mono ?_
      rintro e u' w'' ⟨rfl, rfl, w9, hb9, rfl⟩
      have cz := ck hb9 O5.c0
      have q9 : (w9.setCell ⟨w.heap.size, 0, none⟩ (.string (errS 9))).cell? ⟨w.heap.size, 0, none⟩ = some (.string (errS 9)) := by go_simp
      have DR := hidp ((D5.below hb9).res (v := .string (errS 9)) (O5.below hb9) hPR)
      have GR := hidp (gb_new w9 (Nat.le_refl w.heap.size) (.string (errS 9)) (gb_trans (gb_of B5 (some P)) (gb_of hb9 _)))
      simp [Leaves, settle, results, Tryz.results13, go_sem, q9]
      rw [R1.out]
      exact ⟨rfl, DR.out, GR.out⟩
/-- A line, answered. -/
theorem answer_c (F : Nat → Prop) (P b o : Nat) (L : List ByteArray) (n c : Nat) (D : DeskSt) (w : World) (hT : Tabs w) (hD : DeskAt w P F D) (ho : StOk D) (hP : 8 ≤ P) (hL : L.length = n) (hn : 1 ≤ n) (hnc : n ≤ c) (hcm : c ≤ 9223372036854775807) (hw : ∀ i, i < n → w.cell? ⟨b, o + i, none⟩ = some (.string (wg L i))) (hs : ∀ i, (wg L i).size ≤ 65536)
    (hE : ∀ cm e, (opF D cm).1 = .error e → I64 e) :
    Calls Tryz.prog 13 #[.pointer (some ⟨P, 0, none⟩), .slice (some ⟨b, o, none⟩) n c] w fun e w' => e = .returned (.string (ansS (lineR D L n).1)) ∧ DeskAt w' P F (lineR D L n).2 ∧ w.grownBy w' (some P) := by
  rcases lists_do (wg L 0) with ⟨h1, h2⟩ | ⟨g, f, h1, h2, h3, h4, h5⟩
  · exact answer_read F P b o L n c D w hT hD ho hP hL hn hnc hcm hw hs h1 hE
  · exact answer_list F P b o L n c D w hT hD ho hP hL hn hnc hcm hw hs g f h1 h2 h3 h4 h5 hE
end Go.Proofs.YtgodgfnfaiiohaaGreatDoor

/- strings.Builder: WriteString, WriteByte, String. -/
namespace Go.Proofs.YtgodgfnfaiiohaaGreatDoor
open Go.ChangeShapes Go.WideShapes Go.ChangeAt Go.RowKit
set_option maxRecDepth 20000
set_option linter.unusedVariables false
theorem info_u8 : (Tryz.prog.info? 5).map (fun i => (i.zero, i.size, i.bytes)) = some (some (.int .u8 0), 1, 1) := by kernel_rfl
theorem size_bd : (Tryz.prog.info? 48).map (·.size) = some 2 := by kernel_rfl
theorem lies_bd : liesAt Tryz.prog Tryz.prog.depth 48 (2 / Tryz.prog.cellsOf 48) 0 48 1 = true := by kernel_rfl
theorem bcc_used (b : Nat) (w : World) (h0 : w.cell? ⟨b, 0, none⟩ = some (.pointer (some ⟨b, 0, none⟩))) :
    Calls Tryz.prog 20 #[.pointer (some ⟨b, 0, none⟩)] w fun e w' => e = .returned (.tuple #[]) ∧ w' = w := by
  obtain ⟨j, hj, _⟩ := Option.map_eq_some_iff.1 size_bd
  have nq : ∀ W : World, (binOp .neq 45 (.pointer (some ⟨b, 0, none⟩)) (.pointer (some ⟨b, 0, none⟩))).run Tryz.prog W = .ok (.bool false) W := fun W => Lib.run_neq_ptr_same W _ Tryz.underlying45 hj
  go_enter Tryz.func20, Tryz.ntmps20
  go_wp2
  go_end0
  exact ⟨rfl, rfl⟩
theorem bcc_fresh (b : Nat) (w : World) (h0 : w.cell? ⟨b, 0, none⟩ = some (.pointer none)) (hsh : w.shape? b = some (48, 2)) (hfz : w.frozen? ⟨b, 0, none⟩ = false) :
    Calls Tryz.prog 20 #[.pointer (some ⟨b, 0, none⟩)] w fun e w' => e = .returned (.tuple #[]) ∧ w' = w.setCell ⟨b, 0, none⟩ (.pointer (some ⟨b, 0, none⟩)) := by
  obtain ⟨j, hj, hjs⟩ := Option.map_eq_some_iff.1 size_bd
  have c1 : (convert 45 77 (.pointer (some ⟨b, 0, none⟩))).run Tryz.prog w = .ok (.pointer (some ⟨b, 0, none⟩)) w := Lib.run_to_unsafe w ⟨b, 0, none⟩ Tryz.underlying45 Tryz.underlying77 hj (by rw [hjs]; decide) hsh (Nat.zero_lt_succ 1)
  have c2 : (convert 77 45 (.pointer (some ⟨b, 0, none⟩))).run Tryz.prog w = .ok (.pointer (some ⟨b, 0, none⟩)) w := Lib.run_from_unsafe w ⟨b, 0, none⟩ Tryz.underlying77 Tryz.underlying45 hj hsh lies_bd
  have c3 : (callFunc 32 #[.pointer (some ⟨b, 0, none⟩)]).run Tryz.prog w = .ok (.value (.pointer (some ⟨b, 0, none⟩))) w := by
    rw [run_callFunc_extern Tryz.func32 (by kernel_rfl) (by kernel_rfl) (by kernel_rfl) (e := Extern.AbiNoEscape.same) (by kernel_rfl)]
    rw [Lib.run_noEscape]
    rfl
  go_enter Tryz.func20, Tryz.ntmps20
  go_wp2
  go_end0
  exact ⟨rfl, rfl⟩
/-- A builder at block b: its bytes are l, they lie in block g. -/
def BldAt (W : World) (b : Nat) (g : Option Nat) (l : List UInt8) : Prop :=
  ∃ p v, (p = .pointer none ∨ p = .pointer (some ⟨b, 0, none⟩)) ∧ W.heap[b]? = some (.cells #[p, v] 48 (0, 0)) ∧ W.ownsRow (b + 1) 5 1 v l.length (Lib.byteCells l) ∧ v.ownBlock = g
/-- All stays but b and g. -/
structure Kp (w w' : World) (b : Nat) (g : Option Nat) : Prop where
  os : w'.os = w.os
  tape : w'.tape = w.tape
  output : w'.output = w.output
  size : w.heap.size ≤ w'.heap.size
  block : ∀ q, q < w.heap.size → q ≠ b → g ≠ some q → w'.heap[q]? = w.heap[q]?
theorem BldAt.lt {W : World} {b : Nat} {g : Option Nat} {l : List UInt8} (h : BldAt W b g l) : b < W.heap.size := by
  obtain ⟨p, v, _, hb, _⟩ := h
  exact (Array.getElem?_eq_some_iff.1 hb).1
theorem bcc_b (b : Nat) (g : Option Nat) (l : List UInt8) (w : World) (h : BldAt w b g l) :
    Calls Tryz.prog 20 #[.pointer (some ⟨b, 0, none⟩)] w fun e w' => e = .returned (.tuple #[]) ∧ (∃ v, w'.heap[b]? = some (.cells #[.pointer (some ⟨b, 0, none⟩), v] 48 (0, 0)) ∧ w'.ownsRow (b + 1) 5 1 v l.length (Lib.byteCells l) ∧ v.ownBlock = g) ∧ w.grownBy w' (some b) := by
  have hlt := h.lt
  obtain ⟨p, v, hp, hb, ho, hg⟩ := h
  have hne : v.ownBlock ≠ some b := fun e => by have := (ho.lt _ e).1; omega
  rcases hp with rfl | rfl
  · have c0 : w.cell? ⟨b, 0, none⟩ = some (.pointer none) := by rw [Lib.cell_of_heap hb]; rfl
    refine (bcc_fresh b w c0 (by simp [World.shape?, hb]) (Lib.frozen_of_heap hb 0)).mono ?_
    rintro e w' ⟨rfl, rfl⟩
    exact ⟨rfl, ⟨v, by simp [World.setCell, Array.getElem?_modify, hb], ownsRow_setCell_other ho hne _, hg⟩, gb_set _ _ _ _⟩
  · have c0 : w.cell? ⟨b, 0, none⟩ = some (.pointer (some ⟨b, 0, none⟩)) := by rw [Lib.cell_of_heap hb]; rfl
    refine (bcc_used b w c0).mono ?_
    rintro e w' ⟨rfl, rfl⟩
    exact ⟨rfl, ⟨v, hb, ho, hg⟩, gb_of (Below.refl _ _) _⟩
theorem kp_of {w w1 w2 : World} {b : Nat} {g : Option Nat} {v : Value} (h1 : w.grownBy w1 (some b)) (h2 : w1.grownBy w2 g) : Kp w (w2.setCell ⟨b, 1, none⟩ v) b g :=
  ⟨h2.os.trans h1.os, h2.tape.trans h1.tape, h2.output.trans h1.output, by simpa using Nat.le_trans h1.size h2.size, fun q hq hne hg => (Below.heap_setCell w2 ⟨b, 1, none⟩ v q (by show q ≠ b; exact hne)).trans ((h2.block q (Nat.lt_of_lt_of_le hq h1.size) (Ne.symm hg)).trans (h1.block q hq (fun e => hne (Option.some.inj e))))⟩
theorem bld_put {w1 w2 : World} {b : Nat} {v v' : Value} {l : List UInt8} (hlt : b < w1.heap.size) (hbk : w1.heap[b]? = some (.cells #[.pointer (some ⟨b, 0, none⟩), v] 48 (0, 0))) (hgrow : w1.grownBy w2 v.ownBlock) (hne : v.ownBlock ≠ some b) (ho : w2.ownsRow (b + 1) 5 1 v' l.length (Lib.byteCells l)) : BldAt (w2.setCell ⟨b, 1, none⟩ v') b v'.ownBlock l := by
  have hb2 : w2.heap[b]? = some (.cells #[.pointer (some ⟨b, 0, none⟩), v] 48 (0, 0)) := by
    rw [hgrow.block b hlt (fun e => hne e.symm)]
    exact hbk
  have hne' : v'.ownBlock ≠ some b := fun e => by have := (ho.lt _ e).1; omega
  exact ⟨_, v', .inr rfl, by simp [World.setCell, Array.getElem?_modify, hb2], ownsRow_setCell_other ho hne' _, rfl⟩
theorem byteCells_app (l m : List UInt8) : Lib.byteCells (l ++ m) = Lib.byteCells l ++ Lib.byteCells m := by simp [Lib.byteCells]
theorem append_string_block {P : Program} (w : World) (base : Nat) (t u ty e : TypeId) (i : TypeInfo) (ht : P.underlying t = some (.slice e)) (hu : P.underlying u = some .string) (hi : P.info? e = some i) (hz : i.zero = some (.int .u8 0)) (hsize : i.size = 1) (hby : i.bytes = 1)
    (v : Value) (n : Nat) (xs : List Value) (hown : w.ownsRow base e 1 v n xs) (s : ByteArray) (hbytes : n + s.size ≤ 140737488355328) (v' : Value) (w' : World) (hr : (Builtin.append_ #[t, u] ty #[v, .string s]).run P w = .ok v' w') : v'.ownBlock = v.ownBlock ∨ v'.ownBlock = some w.heap.size := by
  have hxl : xs.length = n := by simpa using hown.1
  rcases hown.2 with ⟨rfl, rfl⟩ | ⟨g, cap, cur, rfl, hbg, hg, hnc, hcm, hcs, htake⟩
  · by_cases hm : s.size = 0
    · have hf := Lib.run_firstCells_string (P := P) w 1 s
      rw [hm] at hf
      simp [Builtin.append_, run_underlying ht, run_underlying hu, sizeOf, typeInfo, hi, hsize, Builtin.lenOf, hm, hf] at hr
      left; rw [← hr.1]
    · have h2 := run_append_nil_string (P := P) w t u ty e i (.int .u8 0) ht hu hi hz s (by omega) (by omega) (by rw [hby]; omega)
      rw [h2] at hr
      right; cases hr; rfl
  · by_cases hroom : n + s.size ≤ cap
    · have hcs' : cur.size = cap := by simpa using hcs
      have h2 := Lib.run_append_room_string (P := P) w t u ty e i ht hu hi hsize g n cap cur hg s hroom (by omega)
      rw [h2] at hr
      left; cases hr; rfl
    · have holds : ∀ j u, xs[j]? = some u → w.cell? ((⟨g, 0, none⟩ : Addr).add j) = some u := hown.cells (g := g) rfl
      have h2 := Lib.run_append_grow_string (P := P) w t u ty e i (.int .u8 0) ht hu hi hz ⟨g, 0, none⟩ n cap xs (by rw [hsize]; simpa using hxl) holds s (by omega) (by omega) (by rw [hby]; exact growslice_fits (by omega) (by omega))
      rw [h2] at hr
      right; cases hr; rfl
theorem wpList_append_string2 {P : Program} {w : World} {ops : Array Oper} {rest : List Oper} {o : Oper} {a : Act} {Q : Exit → Act → World → Prop} (hgd : o.guard = none) (sl x : Operand) (t u : TypeId)
    (ho : o.op = .call { callee := .builtin .append, args := #[sl, x], argTypes := #[t, u] })
    (base : Nat) (e : TypeId) (i : TypeInfo) (ht : P.underlying t = some (.slice e)) (hu : P.underlying u = some .string) (hi : P.info? e = some i) (hz : i.zero = some (.int .u8 0))
    (hsize : i.size = 1) (hby : i.bytes = 1)
    (v : Value) (n : Nat) (xs : List Value) (hs : a.eval sl = v) (hown : w.ownsRow base e 1 v n xs) (s : ByteArray) (hx : a.eval x = .string s)
    (hbytes : n + s.size ≤ 140737488355328) (hbase : base ≤ w.heap.size)
    (h : ∀ v' w', w'.ownsRow base e 1 v' (n + s.size) (xs ++ Lib.strCells s) → w.grownBy w' v.ownBlock → (v'.ownBlock = v.ownBlock ∨ v'.ownBlock = some w.heap.size) → wpList P ops Q rest (a.put o.dst v') w') : wpList P ops Q (o :: rest) a w := by
  refine wpList_plain hgd fun K hK => ?_
  obtain ⟨v', w', hr, h2, h3, h4⟩ := Lib.run_append_own_string (P := P) w base t u o.type e i ht hu hi hz hsize hby v n xs hown s (by unfold maxLen; omega) hbytes hbase
  have h5 := append_string_block (P := P) w base t u o.type e i ht hu hi hz hsize hby v n xs hown s hbytes v' w' hr
  unfold Oper.wp execOp
  simp only [ho, resolve, invoke, builtin, Sem.run_bind, Sem.run_pure, Result.andThen_ok, List.map_toArray, List.map_cons, List.map_nil, hs, hx, hr]
  exact hK _ _ (h v' w' h2 h3 h5)
set_option maxHeartbeats 2000000 in
theorem bws_c (b : Nat) (g : Option Nat) (l : List UInt8) (s : ByteArray) (w : World) (h : BldAt w b g l) (hlen : l.length + s.size ≤ 140737488355328) :
    Calls Tryz.prog 12 #[.pointer (some ⟨b, 0, none⟩), .string s] w fun e w' => e = .returned (.tuple #[.int .i64 s.size, .nilIface]) ∧ Kp w w' b g ∧ ∃ g', BldAt w' b g' (l ++ s.data.toList) ∧ (g' = g ∨ ∃ k, g' = some k ∧ w.heap.size ≤ k) := by
  obtain ⟨i0, hi, hz0, hz1, hz2⟩ := info_parts info_u8
  have CC := hidp (bcc_b b g l w h)
  have hlt0 := h.lt
  clear h
  go_enter Tryz.func12, Tryz.ntmps12
  go_wp2_with fail
  refine CC.out.mono ?_
  rintro e w1 ⟨rfl, ⟨v, hbk, hown, rfl⟩, hg1⟩
  have hlt : b < w1.heap.size := (Array.getElem?_eq_some_iff.1 hbk).1
  have hne : v.ownBlock ≠ some b := fun e => by have := (hown.lt _ e).1; omega
  have c0 : w1.cell? ⟨b, 0, none⟩ = some (.pointer (some ⟨b, 0, none⟩)) := by rw [Lib.cell_of_heap hbk]; rfl
  have c1 : w1.cell? ⟨b, 1, none⟩ = some v := by rw [Lib.cell_of_heap hbk]; rfl
  go_wp2_with (at_builtin; refine wpList_append_string2 rfl _ _ 46 9 rfl (b + 1) 5 i0 Tryz.underlying46 Tryz.underlying9 hi hz0 hz1 hz2 _ _ _ rfl hown s rfl hlen hlt ?_)
  intro v' w2 hown' hgrow hg2
  have hb2 : w2.heap[b]? = some (.cells #[.pointer (some ⟨b, 0, none⟩), v] 48 (0, 0)) := by
    rw [hgrow.block b hlt (fun e => hne e.symm)]
    exact hbk
  have d0 : w2.cell? ⟨b, 0, none⟩ = some (.pointer (some ⟨b, 0, none⟩)) := by rw [Lib.cell_of_heap hb2]; rfl
  have d1 : w2.cell? ⟨b, 1, none⟩ = some v := by rw [Lib.cell_of_heap hb2]; rfl
  have f1 : w2.frozen? ⟨b, 1, none⟩ = false := Lib.frozen_of_heap hb2 1
  have KP := hidp (kp_of (v := v') hg1 hgrow)
  have BP := hidp (bld_put (l := l ++ s.data.toList) hlt hbk hgrow hne (by
    have e1 : (l ++ s.data.toList).length = l.length + s.size := by rw [List.length_append, Array.length_toList]; rfl
    rw [e1, byteCells_app]
    exact hown'))
  obtain ⟨ao, n', cap, rfl⟩ : ∃ ao n' cap, v' = .slice ao n' cap := by
    rcases hown'.2 with ⟨hv, _⟩ | ⟨g, cap, cur, hv, _⟩
    · exact ⟨_, _, _, hv⟩
    · exact ⟨_, _, _, hv⟩
  have GG := hidp (show (Value.slice ao n' cap).ownBlock = v.ownBlock ∨ ∃ k, (Value.slice ao n' cap).ownBlock = some k ∧ w.heap.size ≤ k from hg2.imp_right (fun e => ⟨_, e, hg1.size⟩))
  clear hown hown' hgrow hg2 hb2 hbk
  go_wp2
  go_ret2
  exact ⟨rfl, KP.out, _, BP.out, GG.out⟩
set_option maxHeartbeats 2000000 in
theorem bwb_c (b : Nat) (g : Option Nat) (l : List UInt8) (c : UInt8) (w : World) (h : BldAt w b g l) (hlen : l.length < 1000000000) :
    Calls Tryz.prog 14 #[.pointer (some ⟨b, 0, none⟩), .int .u8 c.toNat] w fun e w' => e = .returned .nilIface ∧ Kp w w' b g ∧ ∃ g', BldAt w' b g' (l ++ [c]) ∧ (g' = g ∨ ∃ k, g' = some k ∧ w.heap.size ≤ k) := by
  obtain ⟨i0, hi, hz0, hz1, hz2⟩ := info_parts info_u8
  have CC := hidp (bcc_b b g l w h)
  have hlt0 := h.lt
  clear h
  generalize hcc : (c.toNat : Int) = cc at *
  have HCC := hidp hcc
  clear hcc
  go_enter Tryz.func14, Tryz.ntmps14
  go_wp2_with fail
  refine CC.out.mono ?_
  rintro e w1 ⟨rfl, ⟨v, hbk, hown, rfl⟩, hg1⟩
  have hlt : b < w1.heap.size := (Array.getElem?_eq_some_iff.1 hbk).1
  have hne : v.ownBlock ≠ some b := fun e => by have := (hown.lt _ e).1; omega
  have c0 : w1.cell? ⟨b, 0, none⟩ = some (.pointer (some ⟨b, 0, none⟩)) := by rw [Lib.cell_of_heap hbk]; rfl
  have c1 : w1.cell? ⟨b, 1, none⟩ = some v := by rw [Lib.cell_of_heap hbk]; rfl
  go_wp2_with (at_builtin; refine wpList_append_new rfl (.tmp 11) (.tmp 13) 46 rfl (b + 1) 5 _ 1 1 info_u8 rfl (by decide) Tryz.underlying46 _ l.length _ rfl hown rfl (one_int _ _) rfl rfl (by omega) (by decide) hlt ?_)
  intro v' w2 hown' hgrow hg2
  have hb2 : w2.heap[b]? = some (.cells #[.pointer (some ⟨b, 0, none⟩), v] 48 (0, 0)) := by
    rw [hgrow.block b hlt (fun e => hne e.symm)]
    exact hbk
  have d0 : w2.cell? ⟨b, 0, none⟩ = some (.pointer (some ⟨b, 0, none⟩)) := by rw [Lib.cell_of_heap hb2]; rfl
  have d1 : w2.cell? ⟨b, 1, none⟩ = some v := by rw [Lib.cell_of_heap hb2]; rfl
  have f1 : w2.frozen? ⟨b, 1, none⟩ = false := Lib.frozen_of_heap hb2 1
  have KP := hidp (kp_of (v := v') hg1 hgrow)
  have BP := hidp (bld_put (l := l ++ [c]) hlt hbk hgrow hne (by
    have e1 : (l ++ [c]).length = l.length + 1 := by rw [List.length_append]; rfl
    have e2 : Lib.byteCells [c] = [.int .u8 cc] := by rw [← HCC.out]; rfl
    rw [e1, byteCells_app, e2]
    exact hown'))
  obtain ⟨ao, n', cap, rfl⟩ : ∃ ao n' cap, v' = .slice ao n' cap := by
    rcases hown'.2 with ⟨hv, _⟩ | ⟨g, cap, cur, hv, _⟩
    · exact ⟨_, _, _, hv⟩
    · exact ⟨_, _, _, hv⟩
  have GG := hidp (show (Value.slice ao n' cap).ownBlock = v.ownBlock ∨ ∃ k, (Value.slice ao n' cap).ownBlock = some k ∧ w.heap.size ≤ k from hg2.imp_right (fun ⟨k, e, hk⟩ => ⟨k, e, Nat.le_trans hg1.size hk⟩))
  clear hown hown' hgrow hg2 hb2 hbk
  go_wp2
  go_ret
  exact ⟨rfl, KP.out, _, BP.out, GG.out⟩
theorem bst_c (b : Nat) (g : Option Nat) (l : List UInt8) (w : World) (h : BldAt w b g l) :
    Calls Tryz.prog 15 #[.pointer (some ⟨b, 0, none⟩)] w fun e w' => e = .returned (.string ⟨l.toArray⟩) ∧ Below b w w' := by
  have hlt := h.lt
  obtain ⟨p, v, hp, hb, ho, hg⟩ := h
  have hne : v.ownBlock ≠ some b := fun e => by have := (ho.lt _ e).1; omega
  refine Tryz.Builder_String_any b b l w ?_ (by omega)
  have hl : (Lib.byteCells l).length = l.length := Lib.byteCells_length l
  rcases hp with rfl | rfl
  · exact .inl ⟨Nat.le_refl _, v, hb, by rw [hl]; exact owns_mono ho (Nat.le_succ _), hne⟩
  · exact .inr ⟨Nat.le_refl _, v, hb, by rw [hl]; exact owns_mono ho (Nat.le_succ _), hne⟩
end Go.Proofs.YtgodgfnfaiiohaaGreatDoor

/- What desk.Run answers, as a function. -/
namespace Go.Proofs.YtgodgfnfaiiohaaGreatDoor
open Go.ChangeShapes Go.WideShapes Go.ChangeAt Go.RowKit
set_option maxRecDepth 20000
set_option linter.unusedVariables false
/-- The words of a line. -/
def wordsOf (x : ByteArray) : List ByteArray := (spB 32 x).filter (fun w => decide (¬ w.size = 0))
/-- The lines of a script. -/
def linesOf (s : ByteArray) : List ByteArray := if (wg (spB 10 s) ((spB 10 s).length - 1)).size = 0 then (spB 10 s).take ((spB 10 s).length - 1) else spB 10 s
def hash1 : ByteArray := ⟨#[35]⟩
/-- One line more. -/
noncomputable def stepF (q : DeskSt × List UInt8) (x : ByteArray) : DeskSt × List UInt8 :=
  if (wordsOf x).length = 0 ∨ wg (wordsOf x) 0 = hash1 then q
  else ((lineR q.1 (wordsOf x) (wordsOf x).length).2, q.2 ++ (ansS (lineR q.1 (wordsOf x) (wordsOf x).length).1).data.toList ++ [10])
def desk0 : DeskSt := ⟨0, [], [], 0, [], []⟩
noncomputable def runQ (l : List ByteArray) : DeskSt × List UInt8 := l.foldl stepF (desk0, [])
noncomputable def runO (s : ByteArray) : List UInt8 :=
  if 65536 < s.size ∨ 200 < (linesOf s).length then [101, 114, 114, 111, 114, 32, 50, 10] else (runQ (linesOf s)).2
theorem runQ_snoc (l : List ByteArray) (x : ByteArray) : runQ (l ++ [x]) = stepF (runQ l) x := by unfold runQ; rw [List.foldl_append]; rfl
theorem runQ_take (l : List ByteArray) (k : Nat) (h : k < l.length) : runQ (l.take (k + 1)) = stepF (runQ (l.take k)) (wg l k) := by rw [wg_take l k h, runQ_snoc]
/-- What may be asked. -/
def CmdOk : Cmd → Prop
  | .pond x _ => I64 x
  | .least n => 0 ≤ n
  | .most l => ∀ x ∈ l, I64 x
  | _ => True
/-- What is known of each answer. -/
def OpsOk : Prop := (∀ D c e, (opF D c).1 = .error e → I64 e) ∧ ∀ D c, StOk D → CmdOk c → StOk (opF D c).2 ∧ ∀ s, (opF D c).1 = .ok s → s.size ≤ 100000
theorem nmS_bd {L : List ByteArray} {n k : Nat} {v : Int} (h : nmS L n k = some v) : 0 ≤ v ∧ v ≤ 9223372036854775807 := by
  unfold nmS at h
  split at h
  · exact nmb_bd h
  · cases h
theorem lsS_i64 {L : List ByteArray} {n k : Nat} {l : List Int} (h : lsS L n k = some l) : ∀ x ∈ l, I64 x := by
  unfold lsS at h
  split at h
  · unfold lstN at h
    split at h
    · rename_i ha
      simp only [Option.some.injEq] at h
      subst h
      intro x hx
      obtain ⟨s, hs, rfl⟩ := List.mem_map.1 hx
      have h1 := List.all_eq_true.1 ha s hs
      obtain ⟨v, hv⟩ := Option.isSome_iff_exists.1 h1
      unfold nmv
      rw [hv]
      have := nmb_bd hv
      show I64 v
      unfold I64; omega
    · cases h
  · cases h
theorem kpF_ok {L : List ByteArray} {n k : Nat} {s : ByteArray} {c : Cmd} (h : kpF L n s = some (c, k)) : CmdOk c := by
  unfold kpF at h
  by_cases e1 : s = ⟨#[112, 111, 110, 100]⟩
  · rw [if_pos e1] at h
    simp only [Option.bind_eq_some_iff] at h
    obtain ⟨v1, h1, v2, h2, h⟩ := h
    simp only [Option.some.injEq, Prod.mk.injEq] at h
    obtain ⟨rfl, _⟩ := h
    have := nmS_bd h1
    show I64 v1
    unfold I64; omega
  rw [if_neg e1] at h
  by_cases e2 : s = ⟨#[108, 101, 97, 115, 116]⟩
  · rw [if_pos e2] at h
    simp only [Option.bind_eq_some_iff] at h
    obtain ⟨v1, h1, h⟩ := h
    simp only [Option.some.injEq, Prod.mk.injEq] at h
    obtain ⟨rfl, _⟩ := h
    exact (nmS_bd h1).1
  rw [if_neg e2] at h
  by_cases e3 : s = ⟨#[109, 97, 110, 121]⟩
  · rw [if_pos e3] at h
    simp only [Option.some.injEq, Prod.mk.injEq] at h
    obtain ⟨rfl, _⟩ := h
    exact trivial
  rw [if_neg e3] at h
  by_cases e4 : s = ⟨#[102, 101, 119]⟩
  · rw [if_pos e4] at h
    simp only [Option.bind_eq_some_iff] at h
    obtain ⟨v1, h1, v2, h2, h⟩ := h
    simp only [Option.some.injEq, Prod.mk.injEq] at h
    obtain ⟨rfl, _⟩ := h
    exact trivial
  rw [if_neg e4] at h
  by_cases e5 : s = ⟨#[97, 115, 107]⟩
  · rw [if_pos e5] at h
    simp only [Option.bind_eq_some_iff] at h
    obtain ⟨v1, h1, h⟩ := h
    simp only [Option.some.injEq, Prod.mk.injEq] at h
    obtain ⟨rfl, _⟩ := h
    exact trivial
  rw [if_neg e5] at h
  by_cases e6 : s = ⟨#[114, 117, 108, 101]⟩
  · rw [if_pos e6] at h
    simp only [Option.bind_eq_some_iff] at h
    obtain ⟨v1, h1, v2, h2, v3, h3, h⟩ := h
    simp only [Option.some.injEq, Prod.mk.injEq] at h
    obtain ⟨rfl, _⟩ := h
    exact trivial
  rw [if_neg e6] at h
  by_cases e7 : s = ⟨#[111, 102]⟩
  · rw [if_pos e7] at h
    simp only [Option.bind_eq_some_iff] at h
    obtain ⟨v1, h1, h⟩ := h
    simp only [Option.some.injEq, Prod.mk.injEq] at h
    obtain ⟨rfl, _⟩ := h
    exact trivial
  rw [if_neg e7] at h
  cases h
theorem drdF_ok {L : List ByteArray} {n k : Nat} {s : ByteArray} {c : Cmd} (h : drdF L n s = some (c, k)) : CmdOk c := by
  unfold drdF at h
  by_cases e1 : s = ⟨#[104, 97, 115, 104]⟩
  · rw [if_pos e1] at h
    simp only [Option.bind_eq_some_iff] at h
    obtain ⟨v1, h1, h⟩ := h
    simp only [Option.some.injEq, Prod.mk.injEq] at h
    obtain ⟨rfl, _⟩ := h
    exact trivial
  rw [if_neg e1] at h
  by_cases e2 : s = ⟨#[116, 104]⟩
  · rw [if_pos e2] at h
    simp only [Option.bind_eq_some_iff] at h
    obtain ⟨v1, h1, h⟩ := h
    simp only [Option.some.injEq, Prod.mk.injEq] at h
    obtain ⟨rfl, _⟩ := h
    exact trivial
  rw [if_neg e2] at h
  by_cases e3 : s = ⟨#[112, 97, 114, 116]⟩
  · rw [if_pos e3] at h
    simp only [Option.bind_eq_some_iff] at h
    obtain ⟨v1, h1, v2, h2, h⟩ := h
    simp only [Option.some.injEq, Prod.mk.injEq] at h
    obtain ⟨rfl, _⟩ := h
    exact trivial
  rw [if_neg e3] at h
  by_cases e4 : s = ⟨#[99, 111, 117, 110, 116]⟩
  · rw [if_pos e4] at h
    simp only [Option.bind_eq_some_iff] at h
    obtain ⟨v1, h1, v2, h2, h⟩ := h
    simp only [Option.some.injEq, Prod.mk.injEq] at h
    obtain ⟨rfl, _⟩ := h
    exact trivial
  rw [if_neg e4] at h
  by_cases e5 : s = ⟨#[109, 97, 114, 107]⟩
  · rw [if_pos e5] at h
    simp only [Option.bind_eq_some_iff] at h
    obtain ⟨v1, h1, h⟩ := h
    simp only [Option.some.injEq, Prod.mk.injEq] at h
    obtain ⟨rfl, _⟩ := h
    exact trivial
  rw [if_neg e5] at h
  by_cases e6 : s = ⟨#[115, 111, 109, 101]⟩
  · rw [if_pos e6] at h
    simp only [Option.bind_eq_some_iff] at h
    obtain ⟨v1, h1, v2, h2, h⟩ := h
    simp only [Option.some.injEq, Prod.mk.injEq] at h
    obtain ⟨rfl, _⟩ := h
    exact trivial
  rw [if_neg e6] at h
  by_cases e7 : s = ⟨#[111, 114, 100, 101, 114]⟩
  · rw [if_pos e7] at h
    simp only [Option.bind_eq_some_iff] at h
    obtain ⟨v1, h1, v2, h2, h⟩ := h
    simp only [Option.some.injEq, Prod.mk.injEq] at h
    obtain ⟨rfl, _⟩ := h
    exact trivial
  rw [if_neg e7] at h
  by_cases e8 : s = ⟨#[102, 97, 105, 114]⟩
  · rw [if_pos e8] at h
    simp only [Option.bind_eq_some_iff] at h
    obtain ⟨v1, h1, v2, h2, h⟩ := h
    simp only [Option.some.injEq, Prod.mk.injEq] at h
    obtain ⟨rfl, _⟩ := h
    exact trivial
  rw [if_neg e8] at h
  by_cases e9 : s = ⟨#[108, 101, 118, 101, 108]⟩
  · rw [if_pos e9] at h
    simp only [Option.bind_eq_some_iff] at h
    obtain ⟨v1, h1, v2, h2, h⟩ := h
    simp only [Option.some.injEq, Prod.mk.injEq] at h
    obtain ⟨rfl, _⟩ := h
    exact trivial
  rw [if_neg e9] at h
  by_cases e10 : s = ⟨#[112, 105, 99, 107]⟩
  · rw [if_pos e10] at h
    simp only [Option.bind_eq_some_iff] at h
    obtain ⟨v1, h1, v2, h2, h⟩ := h
    simp only [Option.some.injEq, Prod.mk.injEq] at h
    obtain ⟨rfl, _⟩ := h
    exact trivial
  rw [if_neg e10] at h
  by_cases e11 : s = ⟨#[101, 118, 101, 110]⟩
  · rw [if_pos e11] at h
    simp only [Option.bind_eq_some_iff] at h
    obtain ⟨v1, h1, v2, h2, v3, h3, h⟩ := h
    simp only [Option.some.injEq, Prod.mk.injEq] at h
    obtain ⟨rfl, _⟩ := h
    exact trivial
  rw [if_neg e11] at h
  by_cases e12 : s = ⟨#[101, 115, 116]⟩
  · rw [if_pos e12] at h
    simp only [Option.bind_eq_some_iff] at h
    obtain ⟨v1, h1, v2, h2, v3, h3, h⟩ := h
    simp only [Option.some.injEq, Prod.mk.injEq] at h
    obtain ⟨rfl, _⟩ := h
    exact trivial
  rw [if_neg e12] at h
  exact kpF_ok h
theorem lineC_ok {L : List ByteArray} {n k : Nat} {c : Cmd} (h : lineC L n = some (c, k)) : CmdOk c := by
  unfold lineC at h
  rcases lists_do (wg L 0) with ⟨_, h2⟩ | ⟨g, f, _, h2, _⟩
  · rw [h2] at h
    exact drdF_ok h
  · rw [h2] at h
    simp only [Option.bind_eq_some_iff] at h
    obtain ⟨v1, e1, h⟩ := h
    simp only [Option.some.injEq, Prod.mk.injEq] at h
    unfold lsC at h2
    simp only at h2
    repeat' split at h2
    all_goals first
      | (cases h2; rw [← h.1]; exact fun x hx => lsS_i64 e1 x hx)
      | (cases h2; rw [← h.1]; exact trivial)
      | cases h2
theorem errS_size (e : Int) (h : I64 e) : (errS e).size ≤ 27 := by
  unfold errS
  rw [ByteArray.size_append]
  have := itoS_size e h.1 h.2
  have e6 : (⟨#[101, 114, 114, 111, 114, 32]⟩ : ByteArray).size = 6 := rfl
  omega
theorem lineR_ok (hO : OpsOk) (D : DeskSt) (L : List ByteArray) (n : Nat) (hD : StOk D) : StOk (lineR D L n).2 ∧ (ansS (lineR D L n).1).size ≤ 100000 := by
  have e9 : (errS 9).size ≤ 100000 := Nat.le_trans (errS_size 9 (by unfold I64; omega)) (by omega)
  unfold lineR
  cases hc : lineC L n with
  | none => exact ⟨hD, e9⟩
  | some q =>
    obtain ⟨c, k⟩ := q
    simp only
    by_cases hk : k = n
    · rw [if_pos hk]
      obtain ⟨h1, h2⟩ := hO.2 D c hD (lineC_ok hc)
      refine ⟨h1, ?_⟩
      cases hr : (opF D c).1 with
      | ok s => exact h2 s hr
      | error e => exact Nat.le_trans (errS_size e (hO.1 D c e hr)) (by omega)
    · rw [if_neg hk]
      exact ⟨hD, e9⟩
theorem desk0_ok : StOk desk0 :=
  ⟨⟨by omega, by omega, by decide, by decide, by decide, List.Pairwise.nil, fun p hp => by simp [desk0] at hp, fun p hp => by simp [desk0] at hp⟩, ⟨List.Pairwise.nil, by decide, fun r hr => by simp [desk0] at hr⟩, by decide, by decide, by decide, fun x hx => by simp [desk0] at hx, ⟨by omega, by omega, by decide, List.Pairwise.nil, fun x hx => by simp [desk0] at hx⟩⟩
theorem runQ_ok (hO : OpsOk) (l : List ByteArray) : ∀ k, k ≤ l.length → StOk (runQ (l.take k)).1 ∧ (runQ (l.take k)).2.length ≤ 100001 * k
  | 0, _ => ⟨desk0_ok, by simp [runQ]⟩
  | k + 1, h => by
    obtain ⟨h1, h2⟩ := runQ_ok hO l k (by omega)
    rw [runQ_take l k (by omega)]
    unfold stepF
    split
    · exact ⟨h1, by omega⟩
    · obtain ⟨g1, g2⟩ := lineR_ok hO (runQ (l.take k)).1 (wordsOf (wg l k)) (wordsOf (wg l k)).length h1
      refine ⟨g1, ?_⟩
      simp only [List.length_append, List.length_cons, List.length_nil, Array.length_toList]
      have : (ansS (lineR (runQ (l.take k)).1 (wordsOf (wg l k)) (wordsOf (wg l k)).length).1).data.size ≤ 100000 := g2
      omega
end Go.Proofs.YtgodgfnfaiiohaaGreatDoor
