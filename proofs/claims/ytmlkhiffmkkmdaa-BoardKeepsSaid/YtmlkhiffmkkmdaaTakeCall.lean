/- A quiet call in a region that draws its order may be taken first (the road of the library's law on loads, wpAnyH_first, turned to a call that is known by its contract). -/
import Derived.OrdersHeld
import Derived.Deep.RegionHeld3
import Derived.Test.YtmlkhiffmkkmdaaProg
namespace Go.Proofs.Ytmlkhiffmkkmdaa
open Go
section
variable {P : Program} {ops : Array Oper} {Q : Exit → Act → World → Prop} {md : Region.Mode} {S : World → Prop}
/-- In state a and in every world that meets S the operation is a call that gives v and leaves the world as it is. -/
def QuietIf (P : Program) (ops : Array Oper) (S : World → Prop) (o : Oper) (v : Value) (a : Act) : Prop :=
  Region.wanted o (yielded ops a.tmps) = true ∧ ∀ w, S w → ∃ f args, (execOp a.eval o).run P w = .ok (.enter f args) w ∧ Calls P f args w (fun e w' => e = .returned v ∧ w' = w)
theorem QuietIf.run {i : Nat} {o : Oper} {v : Value} {a : Act} (hi : ops[i]? = some o) (hy : QuietIf P ops S o v a) {K : Act → World → Prop} {w : World} (hS : S w) (h : K (a.put o.dst v) w) : wpOp P ops Q i K a w := by
  obtain ⟨hw, hv⟩ := hy
  obtain ⟨f, args, hr, hc⟩ := hv w hS
  unfold wpOp
  simp only [hi, hw, if_true]
  refine .inl ?_
  unfold Oper.wp
  rw [hr]
  exact hc.mono (fun e w' he => by obtain ⟨h1, h2⟩ := he; subst h1; subst h2; exact h)
theorem QuietIf.alike {o : Oper} {v : Value} {a b : Act} (hy : QuietIf P ops S o v a) (he : execOp b.eval o = execOp a.eval o) (hw : Region.wanted o (yielded ops b.tmps) = Region.wanted o (yielded ops a.tmps)) : QuietIf P ops S o v b :=
  ⟨hw.trans hy.1, fun w hS => by rw [he]; exact hy.2 w hS⟩
/-- Another operation, apart from it, run ahead of it. -/
theorem quiet_ahead {j : Nat} {oi oj : Oper} {v : Value} (hj : ops[j]? = some oj) (hap : oi.apart ops oj = true)
    (hsi : ∀ cs b, oi.op ≠ .select cs b) (hsj : ∀ cs b, oj.op ≠ .select cs b)
    (hQ : ∀ c a w, Q (.panic c) (a.put oi.dst v) w → Q (.panic c) a w) {K : Act → World → Prop} {a : Act} {w : World}
    (hy : QuietIf P ops S oi v a) (h : wpOp P ops Q j K (a.put oi.dst v) w) :
    wpOp P ops Q j (fun a' w' => QuietIf P ops S oi v a' ∧ K (a'.put oi.dst v) w') a w := by
  obtain ⟨p1, p2, p3⟩ := Oper.apart_spec hap
  have K1 : ∀ (x : Act), QuietIf P ops S oi v x → ∀ u, QuietIf P ops S oi v (x.put oj.dst u) := fun x hx u =>
    hx.alike (execOp_put oi hsi x oj.dst u p3) (wanted_put oi x oj.dst u p3)
  have K2 : ∀ d, QuietIf P ops S oi v { a with defers := d :: a.defers } := fun d => hy.alike rfl rfl
  unfold wpOp at *
  simp only [hj] at *
  rw [wanted_put oj a oi.dst v p1] at h
  by_cases hw : Region.wanted oj (yielded ops a.tmps) = true
  · rw [if_pos hw] at h ⊢
    rcases h with h | ⟨h1, h2⟩
    · refine .inl ?_
      unfold Oper.wp at *
      rw [execOp_put oj hsj a oi.dst v p1] at h
      generalize (execOp a.eval oj).run P w = r at *
      cases r with
      | ok n w' =>
        cases n with
        | value u => exact ⟨K1 a hy u, by rw [← Act.put_comm a v u p2]; exact h⟩
        | skip => exact ⟨K1 a hy undef, by rw [← Act.put_comm a v undef p2]; exact h⟩
        | defer d =>
          refine ⟨K1 _ (K2 d) undef, ?_⟩
          rw [← Act.put_comm _ v undef p2, ← Act.put_defers]
          exact h
        | enter f args =>
          refine Calls.mono h (fun e w'' he => ?_)
          cases e with
          | returned u => exact ⟨K1 a hy u, by rw [← Act.put_comm a v u p2]; exact he⟩
          | panicked c => exact hQ _ _ _ he
          | outgrown => exact he
        | row row args => exact Rows.mono h (fun u w'' he => ⟨K1 a hy u, by rw [← Act.put_comm a v u p2]; exact he⟩)
        | _ => simp only [Oper.upon] at h
      | halt x w' =>
        cases x with
        | panic u => exact hQ _ _ _ h
        | _ => simp only [Oper.upon] at h
    · exact .inr ⟨by unfold Oper.asks at *; rw [execOp_put oj hsj a oi.dst v p1] at h1; exact h1, h2⟩
  · rw [if_neg hw] at h ⊢
    exact ⟨K1 a hy undef, by rw [← Act.put_comm a v undef p2]; exact h⟩
theorem quiet_first {i : Nat} {oi : Oper} {v : Value} (hi : ops[i]? = some oi) (hsel : ∀ (j : Nat) (o : Oper) cs b, ops[j]? = some o → o.op ≠ .select cs b)
    (hQ : ∀ c a w, Q (.panic c) (a.put oi.dst v) w → Q (.panic c) a w) :
    ∀ (fuel : Nat) (listed : Array Bool) (a : Act) (w : World),
      (∀ j oj, ops[j]? = some oj → j ≠ i → listed.getD j true = false → (∀ e ∈ oj.after, Region.binds md e = true → e.on ≠ i) → oi.apart ops oj = true) →
      i ∈ Region.ready md ops listed → QuietIf P ops S oi v a → S w →
      wpAnyH P md ops Q S fuel (listed.setIfInBounds i true) (a.put oi.dst v) w → wpAnyH P md ops Q S (fuel + 1) listed a w
  | 0, listed, a, w, _, hr, hy, hS, H => by
    refine ⟨fun h => (by rw [h] at hr; cases hr), fun j hj => ?_⟩
    by_cases hji : j = i
    · subst hji; exact hy.run hi hS ⟨hS, H⟩
    · have := ready_mono hj hji
      rw [H.1] at this
      cases this
  | fuel + 1, listed, a, w, hfree, hr, hy, hS, H => by
    refine ⟨fun h => (by rw [h] at hr; cases hr), fun j hj => ?_⟩
    by_cases hji : j = i
    · subst hji; exact hy.run hi hS ⟨hS, H⟩
    · obtain ⟨hun, oj, hoj, hall⟩ := mem_ready.1 hj
      have hnot : ∀ e ∈ oj.after, Region.binds md e = true → e.on ≠ i := fun e he hb heq => by
        have h1 := hall e he hb
        have h0 := (mem_ready.1 hr).1
        rw [heq] at h1
        by_cases hlt : i < listed.size
        · simp [hlt] at h0 h1; rw [h0] at h1; cases h1
        · simp [Array.getElem?_eq_none (Nat.le_of_not_lt hlt)] at h1
      have h2 := quiet_ahead hoj (hfree j oj hoj hji hun hnot) (fun cs b => hsel i oi cs b hi) (fun cs b => hsel j oj cs b hoj) hQ hy (H.2 j (ready_mono hj hji))
      refine wpOp_mono (fun a' w' h3 => ⟨h3.2.1, quiet_first hi hsel hQ fuel (listed.setIfInBounds j true) a' w' ?_ (ready_mono hr (Ne.symm hji)) h3.1 h3.2.1 ?_⟩) h2
      · intro k ok hk hki hu hno
        refine hfree k ok hk hki ?_ hno
        by_cases hjk : j = k
        · subst hjk; exact hun
        · rw [getD_set_ne true hjk] at hu; exact hu
      · rw [Array.setIfInBounds_comm _ _ hji]
        exact h3.2.2
/-- Take the quiet call number i first. -/
theorem wpAnyH_quiet {i : Nat} {oi : Oper} {v : Value} {fuel : Nat} {listed : Array Bool} {a : Act} {w : World} (hi : ops[i]? = some oi)
    (hs : Region.noSelect ops = true) (hf : Region.free md ops listed i = true) (hr : (Region.ready md ops listed).contains i = true)
    (hQ : ∀ c a w, Q (.panic c) (a.put oi.dst v) w → Q (.panic c) a w) (hy : QuietIf P ops S oi v a) (hS : S w)
    (h : wpAnyH P md ops Q S fuel (listed.setIfInBounds i true) (a.put oi.dst v) w) : wpAnyH P md ops Q S (fuel + 1) listed a w :=
  quiet_first hi (Region.noSelect_spec hs) hQ fuel listed a w (Region.free_spec hi hf) (by simpa using hr) hy hS h
end
end Go.Proofs.Ytmlkhiffmkkmdaa
