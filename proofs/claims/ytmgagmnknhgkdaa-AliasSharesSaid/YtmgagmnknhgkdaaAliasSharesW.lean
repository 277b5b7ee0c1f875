/- The walk of AliasShares: the law returns true at all inputs, and no old memory changes. -/
import Derived.Test.YtmgagmnknhgkdaaAliasUse
namespace Go.Proofs.Ytmgagmnknhgkdaa.aliasShares
open Go.ChangeShapes Go.WideShapes Go.ChangeAt Go.RowKit
open Go.Proofs.Ytmgagmnknhgkdaa
set_option maxRecDepth 20000

theorem sh_law {n : Nat} {A : Int} {V own : Nat → Int} {rest : Nat → Nat} (h : Wk.Fin n A V own rest) (j : Nat) (hj : j < n) : shF own rest A n j = V j := by
  rw [← h.sh j hj]
  unfold shF
  rw [if_pos hj]
set_option linter.unusedVariables false
set_option maxHeartbeats 4000000 in
theorem walk (a0 : Option Addr) (len0 cap0 : Nat) (z0 : List Int) (w : World) (w0 : IntsAt w a0 len0 cap0 z0) :
    Calls Try.prog 12 #[.slice a0 len0 cap0] w fun e w' => e = .returned (.bool true) ∧ Below w.heap.size w w' := by
  have mm := w0.max
  have ee := w0.le
  have H := hidp w0
  clear w0
  go_enter Try.func12, Try.ntmps12
  go_wp2_with fail
  refine (make_c _ 2 2 [1, 3] _ ?s0 (by decide)).mono ?_
  case s0 => exact ints_lit [1, 3] (by simp) (by rfl) (by rfl) (by simp) (by omega)
  rintro e wa ⟨g1, g2, own, rest, rfl, hF, hS, o1, o2, hba⟩
  rw [show sumK [1, 3] 2 = 4 from by decide]
  have hwa : Below w.heap.size w wa := bstep (bal (Below.refl _ _) _) hba
  clear hF hS o1 o2 hba
  by_cases hE : wtsE z0 len0 = 0
  · obtain ⟨hn40, hok, hpos⟩ := wtsE_zero z0 len0 hE
    obtain ⟨s1, s2⟩ := sumK_ok z0 len0 hok
    have hn1 : 1 ≤ len0 := by
      rcases Nat.eq_zero_or_pos len0 with e | e
      · subst e; simp [sumK] at hpos
      · exact e
    have CM := hidp (fun W h => make_c a0 len0 cap0 z0 W h hE)
    have BD := hidp (fun k (hk : k < len0) => prod_bd (gi z0 k) len0 hn40 (okN_at z0 len0 hok k hk).1 (okN_at z0 len0 hok k hk).2)
    generalize sumK z0 len0 = A at *
    clear hE hok
    go_wp2_with fail
    refine (CM.out _ (H.out.below ?s1)).mono ?_
    case s1 => exact bal hwa _
    rintro e wb ⟨g1', g2', own', rest', rfl, hF', -, o1', o2', hbb⟩
    have hwb : Below w.heap.size w wb := bstep (bal hwa _) hbb
    have hA := AliasAt.of hF' o1' o2' ⟨hn1, hn40⟩ ⟨by omega, by omega⟩
    have CS := hidp (fun W hB => ashares_c g1' g2' len0 A own' rest' W (hA.below hB))
    have CC := hidp (fun W hB => acheck_c g1' g2' len0 A own' rest' W (hA.below hB))
    have SH := hidp (fun j hj => sh_law hF' j hj)
    clear hA hF' o1' o2' hbb CM
    go_wp2_with fail
    refine (CS.out _ (bal (Below.refl _ _) _)).mono ?_
    rintro e wc ⟨g, rfl, hv, hbc⟩
    have c0 : wc.cell? ⟨wb.heap.size, 0, none⟩ = some (.int .i64 A) := ck hbc (by go_simp)
    have c1 : wc.cell? ⟨wb.heap.size, 1, none⟩ = some (.slice (some ⟨g1', 0, none⟩) len0 len0) := ck hbc (by go_simp)
    have c2 : wc.cell? ⟨wb.heap.size, 2, none⟩ = some (.slice (some ⟨g2', 0, none⟩) len0 len0) := ck hbc (by go_simp)
    have hbwc : Below wb.heap.size wb wc := bstep (bal (Below.refl _ _) _) hbc
    have HV := hidp hv
    clear hbc hv
    have hne : ((len0 : Int) != (len0 : Int)) = false := by simp
    go_wp2_with fail
    refine (CC.out _ hbwc).mono ?_
    rintro e wd ⟨rfl, hbd⟩
    have hwd : Below w.heap.size w wd := bstep hwb (bstep hbwc hbd)
    have hq := hidp (fun k (hk : k < len0) => show wd.cell? ⟨g, k, none⟩ = some (.int .i64 (ws z0 len0 k)) from ck hbd (by have := HV.out.cellAt k (by omega); unfold row at this; rw [tab_get _ _ _ hk, SH.out k hk] at this; exact this))
    clear c0 c1 c2 hbd hbwc CC CS SH
    go_wp2_with fail
    obtain ⟨bl, ol, hz, hx⟩ := (H.out.below hwd).split
    obtain rfl : a0 = some ⟨bl, ol, none⟩ := hz.resolve_left (by omega)
    have HX := hidp hx
    clear hz hx hne
    go_loop [61] (fun i => ∃ k : Nat, k ≤ len0 ∧ i = .int .i64 k) (fun i => len0 - (intOf i).toNat)
    case atStart => exact ⟨0, by omega, rfl⟩
    case round =>
      obtain ⟨k, hk, rfl⟩ := hrel
      by_cases hlt : k < len0
      · have q1 := (HX.out k hlt).2
        have q2 := hq.out k hlt
        obtain ⟨b1, b2⟩ := BD.out k hlt
        unfold ws at q2
        have hne : ((gi z0 k * (len0 : Int)) != (gi z0 k * (len0 : Int))) = false := by simp
        go_wp2_with fail
        go_round
        case rel => exact ⟨k + 1, by omega, by go_num⟩
        case measure => simp [intOf]; omega
      · obtain rfl : k = len0 := by omega
        go_wp2_with fail
        go_ret
        exact ⟨rfl, hwd⟩
  · have CM := hidp (fun W h => make_bad a0 len0 cap0 z0 W h hE)
    have hE1 : (wtsE z0 len0 == 0) = false := by rw [beq_eq_false_iff_ne]; exact hE
    clear hE
    go_wp2_with fail
    refine (CM.out _ (H.out.below ?s1)).mono ?_
    case s1 => exact bal hwa _
    rintro e wb ⟨rfl, hbb⟩
    have hwb : Below w.heap.size w wb := bstep (bal hwa _) hbb
    go_wp2_with fail
    go_ret
    exact ⟨rfl, bal hwb _⟩
end Go.Proofs.Ytmgagmnknhgkdaa.aliasShares
