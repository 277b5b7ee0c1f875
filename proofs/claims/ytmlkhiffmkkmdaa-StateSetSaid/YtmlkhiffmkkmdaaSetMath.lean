/- The plain law of StateSet: what Set makes may be, tells its mark, and set again is the same. -/
import Derived.Test.YtmlkhiffmkkmdaaSet
namespace Go.Proofs.Ytmlkhiffmkkmdaa
theorem hex_vc : ∀ d, d < 16 → vcOk (hc d).toNat = true := by decide +kernel
theorem hex_val (n m : Nat) (h : 1 ≤ m) : valB (hexB n m) = true := by
  unfold valB
  rw [hexB_size, decide_eq_true h, Bool.true_and]
  exact vPre_of _ _ (fun k hk => by rw [byt_hex n m k hk]; exact hex_vc _ (hn_lt n k))
theorem key_th : keyB txtTh = true := by decide +kernel
theorem key_rv : keyB txtRv = true := by decide +kernel
theorem th_ne_rv : txtTh ≠ txtRv := by decide
theorem oth_iff (p : ByteArray × ByteArray) : isOth p = true ↔ p.1 ≠ txtTh ∧ p.1 ≠ txtRv := by
  unfold isOth; simp
theorem pre_filter (th rv : Int) (ht hr : Bool) : (preM th rv ht hr).filter isOth = [] := by
  rw [List.filter_eq_nil_iff]
  intro p hp
  rw [oth_iff]
  unfold preM at hp
  rcases List.mem_append.1 hp with hp | hp
  · split at hp
    · simp at hp; subst hp; exact fun h => h.1 rfl
    · simp at hp
  · split at hp
    · simp at hp; subst hp; exact fun h => h.2 rfl
    · simp at hp
theorem set_filter (L : List (ByteArray × ByteArray)) (th rv : Int) (ht hr : Bool) : (setL L th rv ht hr).filter isOth = L.filter isOth := by
  unfold setL
  rw [List.filter_append, pre_filter, List.nil_append, List.filter_filter]
  congr 1
  funext p; simp
theorem set_again (L : List (ByteArray × ByteArray)) (th rv : Int) (ht hr : Bool) : setL (setL L th rv ht hr) th rv ht hr = setL L th rv ht hr := by
  show preM th rv ht hr ++ (setL L th rv ht hr).filter isOth = _
  rw [set_filter]; rfl
theorem set_none (L : List (ByteArray × ByteArray)) (th rv : Int) (ht hr : Bool) : setL (setL L th rv ht hr) 0 0 false false = L.filter isOth := by
  show preM 0 0 false false ++ (setL L th rv ht hr).filter isOth = _
  rw [set_filter]; rfl
theorem pre_mem (th rv : Int) (ht hr : Bool) (p : ByteArray × ByteArray) : p ∈ preM th rv ht hr ↔ (ht = true ∧ p = (txtTh, thTxt th.toNat)) ∨ (hr = true ∧ p = (txtRv, hexB rv.toNat 14)) := by
  unfold preM
  rw [List.mem_append]
  cases ht <;> cases hr <;> simp
theorem set_ok_pairs (L : List (ByteArray × ByteArray)) (th rv : Int) (ht hr : Bool) (h : POk L) (h40 : (setL L th rv ht hr).length ≤ 40) : POk (setL L th rv ht hr) := by
  refine ⟨h40, fun p hp => ?_, ?_⟩
  · unfold setL at hp
    rcases List.mem_append.1 hp with hp | hp
    · rcases (pre_mem th rv ht hr p).1 hp with ⟨_, rfl⟩ | ⟨_, rfl⟩
      · exact ⟨key_th, hex_val _ _ (thTxt_ok _).1⟩
      · exact ⟨key_rv, hex_val _ _ (by omega)⟩
    · exact h.2.1 p (List.mem_filter.1 hp).1
  · unfold setL
    rw [List.map_append, List.nodup_append]
    refine ⟨?_, (h.2.2.sublist (List.filter_sublist.map _)), ?_⟩
    · unfold preM
      cases ht <;> cases hr <;> simp
    · intro a ha b hb e
      subst e
      obtain ⟨p, hp, rfl⟩ := List.mem_map.1 ha
      obtain ⟨q, hq, e⟩ := List.mem_map.1 hb
      have hq2 := (oth_iff q).1 (List.mem_filter.1 hq).2
      rw [e] at hq2
      rcases (pre_mem th rv ht hr p).1 hp with ⟨_, rfl⟩ | ⟨_, rfl⟩
      · exact hq2.1 rfl
      · exact hq2.2 rfl
theorem mem_th (L : List (ByteArray × ByteArray)) (th rv : Int) (ht hr : Bool) (v : ByteArray) : (txtTh, v) ∈ setL L th rv ht hr ↔ ht = true ∧ v = thTxt th.toNat := by
  unfold setL
  rw [List.mem_append, pre_mem]
  constructor
  · rintro ((⟨h1, h2⟩ | ⟨h1, h2⟩) | h)
    · exact ⟨h1, (Prod.mk.inj h2).2⟩
    · exact absurd (Prod.mk.inj h2).1 th_ne_rv
    · exact absurd rfl ((oth_iff _).1 (List.mem_filter.1 h).2).1
  · rintro ⟨h1, rfl⟩; exact .inl (.inl ⟨h1, rfl⟩)
theorem mem_rv (L : List (ByteArray × ByteArray)) (th rv : Int) (ht hr : Bool) (v : ByteArray) : (txtRv, v) ∈ setL L th rv ht hr ↔ hr = true ∧ v = hexB rv.toNat 14 := by
  unfold setL
  rw [List.mem_append, pre_mem]
  constructor
  · rintro ((⟨h1, h2⟩ | ⟨h1, h2⟩) | h)
    · exact absurd (Prod.mk.inj h2).1.symm th_ne_rv
    · exact ⟨h1, (Prod.mk.inj h2).2⟩
    · exact absurd rfl ((oth_iff _).1 (List.mem_filter.1 h).2).2
  · rintro ⟨h1, rfl⟩; exact .inl (.inr ⟨h1, rfl⟩)
/-- The mark of what was set. -/
theorem set_mark (L : List (ByteArray × ByteArray)) (th rv : Int) (ht hr : Bool) (h : POk L) (h40 : (setL L th rv ht hr).length ≤ 40) (b1 : 0 ≤ th ∧ th < 72057594037927936) (b2 : 0 ≤ rv ∧ rv < 72057594037927936) :
    mErr (setL L th rv ht hr) = 0 ∧ mTh (setL L th rv ht hr) = (if ht = true then th else 0) ∧ mRv (setL L th rv ht hr) = (if hr = true then rv else 0) ∧ mHT (setL L th rv ht hr) = ht ∧ mHR (setL L th rv ht hr) = hr := by
  have hX := set_ok_pairs L th rv ht hr h h40
  have c := (chkE_zero _).2 hX
  have t1 := thTxt_read th.toNat (by omega)
  have t2 := read_rv rv.toNat (by omega)
  have e : mErr (setL L th rv ht hr) = 0 := by
    unfold mErr
    rw [if_pos c, mkE_mem, if_pos]
    intro p hp
    unfold mEp
    by_cases e1 : p.1 = txtTh
    · rw [if_pos e1]
      have hp2 : (txtTh, p.2) ∈ setL L th rv ht hr := by rw [← e1]; exact hp
      rw [((mem_th L th rv ht hr p.2).1 hp2).2, t1.2]
    · rw [if_neg e1]
      by_cases e2 : p.1 = txtRv
      · rw [if_pos e2]
        have hp2 : (txtRv, p.2) ∈ setL L th rv ht hr := by rw [← e2]; exact hp
        rw [((mem_rv L th rv ht hr p.2).1 hp2).2, t2.2]
      · rw [if_neg e2]
  have g1 : gTh (setL L th rv ht hr) (setL L th rv ht hr).length = (if ht = true then th else 0) ∧ hTh (setL L th rv ht hr) (setL L th rv ht hr).length = ht := by
    cases hh : ht with
    | true =>
      have := gTh_mem hX.2.2 (thTxt th.toNat) ((mem_th L th rv ht hr _).2 ⟨hh, rfl⟩)
      rw [hh] at this
      rw [this.1, this.2, t1.1, if_pos rfl]; exact ⟨by omega, rfl⟩
    | false =>
      have := gTh_no (L := setL L th rv ht hr) (fun v hm => by have := ((mem_th L th rv ht hr v).1 hm).1; rw [hh] at this; cases this)
      rw [hh] at this
      exact this
  have g2 : gRv (setL L th rv ht hr) (setL L th rv ht hr).length = (if hr = true then rv else 0) ∧ hRv (setL L th rv ht hr) (setL L th rv ht hr).length = hr := by
    cases hh : hr with
    | true =>
      have := gRv_mem hX.2.2 (hexB rv.toNat 14) ((mem_rv L th rv ht hr _).2 ⟨hh, rfl⟩)
      rw [hh] at this
      rw [this.1, this.2, t2.1, if_pos rfl]; exact ⟨by omega, rfl⟩
    | false =>
      have := gRv_no (L := setL L th rv ht hr) (fun v hm => by have := ((mem_rv L th rv ht hr v).1 hm).1; rw [hh] at this; cases this)
      rw [hh] at this
      exact this
  refine ⟨e, ?_, ?_, ?_, ?_⟩
  · unfold mTh; rw [if_pos e]; exact g1.1
  · unfold mRv; rw [if_pos e]; exact g2.1
  · unfold mHT; rw [if_pos e]; exact g1.2
  · unfold mHR; rw [if_pos e]; exact g2.2
end Go.Proofs.Ytmlkhiffmkkmdaa
