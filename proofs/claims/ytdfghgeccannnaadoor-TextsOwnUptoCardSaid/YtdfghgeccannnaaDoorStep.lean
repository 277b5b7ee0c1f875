/- 'append' of one new element to a slice of the call's own, as one step of a region that draws its order. -/
import Derived.Test.YtdfghgeccannnaaDoorMem
import Derived.Deep.RegionLaw
namespace Go.Proofs.YtdfghgeccannnaaDoor
open Go.ChangeShapes Go.WideShapes Go.ChangeAt Go.RowKit
set_option maxRecDepth 20000

theorem step_append_new {P : Program} {ops : Array Oper} {o : Oper} {a : Act} {W : World} {K : Act → World → Prop} {Q : Exit → Act → World → Prop} {E : Prop}
    (w : World) {news : List Value} {T : TypeId} (hW : W.heap = (w.alloc (.cells news.toArray T)).heap ∧ W.os = w.os ∧ W.tape = w.tape ∧ W.output = w.output)
    (hg : o.guard = none) (s x : Operand) (t : TypeId) (hop : o.op = Op.call { callee := Callee.builtin Builtin.append, args := #[s, x], argTypes := #[t, t] })
    (base : Nat) (e : TypeId) (z : Value) (size bytes : Nat) (hinfo : (P.info? e).map (fun i => (i.zero, i.size, i.bytes)) = some (some z, size, bytes)) (hzs : z.cells.size = size) (hsz : 0 < size) (ht : P.underlying t = some (.slice e))
    (v : Value) (n : Nat) (xs : List Value) (hs : a.eval s = v) (hown : w.ownsRow base e size v n xs) (hl : news.length = size) (h1 : ∀ u ∈ news, u.oneCell' = true)
    (hx : a.eval x = .slice (some ⟨w.heap.size, 0, none⟩) 1 1) (hn : n < 1000000000) (hby : bytes ≤ 100000) (hbase : base ≤ w.heap.size)
    (hK : ∀ v' w', w'.ownsRow base e size v' (n + 1) (xs ++ news) → w.grownBy w' v.ownBlock → (v'.ownBlock = v.ownBlock ∨ ∃ k, v'.ownBlock = some k ∧ w.heap.size ≤ k) → K (a.put o.dst v') w') :
    if Region.wanted o (yielded ops a.tmps) = true then Oper.wp P o a W K Q else E := by
  have hw : Region.wanted o (yielded ops a.tmps) = true := by simp [Region.wanted, hg]
  rw [if_pos hw]
  obtain ⟨i, hi, hz, hsize, hbytes⟩ := info_parts hinfo
  have hb2 : (n + 1) * bytes ≤ 140737488355328 := Nat.le_trans (Nat.mul_le_mul (show n + 1 ≤ 1000000000 by omega) hby) (by omega)
  obtain ⟨hWh, hWo, hWt, hWu⟩ := hW
  have hsz2 : W.heap.size = w.heap.size + 1 := by rw [hWh]; simp
  have hownA := hown.alloc (.cells news.toArray T)
  have hownW : W.ownsRow base e size v n xs := by
    unfold World.ownsRow at hownA ⊢
    rw [hWh]; exact hownA
  obtain ⟨v', w', hr, h2, h3, h4, h5⟩ := run_append_own_at (P := P) W base t o.type e i z size bytes ht hi hz hsize hbytes hzs hsz v n xs hownW ⟨w.heap.size, 0, none⟩ 1 1 news (by simpa using hl) (by
    intro j u hu
    have hj : j < news.length := (List.getElem?_eq_some_iff.1 hu).1
    have hh : W.heap[w.heap.size]? = some (.cells news.toArray T) := by rw [hWh]; exact heap_alloc_new w _
    rw [addr_add0]
    unfold World.cell?
    rw [hh]
    simpa using hu) h1 (by unfold maxLen; omega) hb2 (by omega)
  unfold Oper.wp
  simp only [execOp, hop, resolve, invoke, builtin, Sem.run_bind, Sem.run_pure, Result.andThen_ok, List.map_toArray, List.map_cons, List.map_nil, hs, hx, hr]
  refine hK _ _ h2 ⟨h3.os.trans hWo, h3.tape.trans hWt, h3.output.trans hWu, ?_, fun k hk hne => ?_⟩ ?_
  · have := h3.size
    omega
  · have e1 := h3.block k (by omega) hne
    rw [e1, hWh]
    exact Below.heap_alloc w _ _ hk
  · rcases h5 with h5 | h5
    · exact .inl h5
    · exact .inr ⟨_, h5, by omega⟩
end Go.Proofs.YtdfghgeccannnaaDoor
