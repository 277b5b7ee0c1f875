/- Contract of slices.Delete of one element, at a slice of the call's own. (The laying of the library's contract: as the shelf's plain mode writes it.) -/
import Derived.Ground.Names2Prog
import Derived.Shelf.Slices.Delete
import Derived.Lib.OwnBridge
import Derived.Test.YtpdigiefldnpaaaTake
namespace Go.Proofs.Ytpdigiefldnpaaa
open Go.ChangeShapes Go.WideShapes Go.ChangeAt Go.RowKit
set_option maxRecDepth 20000
open Go.Shelf

def delRen : Go.Shelf.Ren := ⟨fun | 23 => 55 | n => n, fun | 22 => 22 | 3 => 3 | 4 => 4 | 0 => 0 | n => n, fun | n => n⟩
theorem delLays : Go.Proofs.Lays2.n23 Try.prog delRen := {
  mixed := by kernel_rfl
  f23 := Try.func55.trans (congrArg some (by kernel_rfl))
  t0 := Try.underlying0
  a0 := Try.isAgg0
  z0 := Try.sizeOf0
  v0 := Try.zeroValue0
  t3 := Try.underlying3
  a3 := Try.isAgg3
  z3 := Try.sizeOf3
  v3 := Try.zeroValue3
  t4 := Try.underlying4
  a4 := Try.isAgg4
  z4 := Try.sizeOf4
  v4 := Try.zeroValue4
  t22 := Try.underlying22
  a22 := Try.isAgg22
  z22 := Try.sizeOf22
  v22 := Try.zeroValue22
  i3 := by kernel_rfl }

theorem grown_putRow {w : World} {g q : Nat} {d : Array Int} : w.grownBy (Go.Sort.putRow (Value.int .i64) (Go.Sort.ahead w q) g 0 d) (some g) :=
  ⟨rfl, rfl, rfl, by simp [Go.Sort.putRow, Go.Sort.mapBlock, Go.Sort.ahead], fun k _ hne => by
    have : g ≠ k := fun e => hne (by rw [e])
    simp [Go.Sort.putRow, Go.Sort.mapBlock, Go.Sort.ahead, Array.getElem?_modify, this]⟩
theorem del_c (B g n cap i : Nat) (I J : Int) (hI : I = i) (hJ : J = i + 1) (zs : List Int) (w : World) (h : w.ownsRow B 3 1 (.slice (some ⟨g, 0, none⟩) n cap) n (zs.map (Value.int .i64))) (hi : i < n) :
    Calls Try.prog 55 #[.slice (some ⟨g, 0, none⟩) n cap, .int .i64 I, .int .i64 J] w fun e w' => e = .returned (.slice (some ⟨g, 0, none⟩) (n - 1) cap) ∧ w'.ownsRow B 3 1 (.slice (some ⟨g, 0, none⟩) (n - 1) cap) (n - 1) ((zs.eraseIdx i).map (Value.int .i64)) ∧ w.grownBy w' (some g) := by
  subst hI hJ
  obtain ⟨g', cap', hv, hB, hlt, hn, hm, hl, hH⟩ := Go.Lib.holds_of_ownsRow h (by simp)
  simp only [Value.slice.injEq, Option.some.injEq, Addr.mk.injEq] at hv
  obtain ⟨⟨rfl, _, _⟩, _, rfl⟩ := hv
  subst hl
  have hd := Any.slices_Delete_int delLays g 0 cap i (i + 1) zs w hH hn hm (by omega) (by omega)
  rw [show i + 1 - i = 1 by omega] at hd
  refine hd.mono ?_
  rintro e w' ⟨rfl, q, rfl⟩
  refine ⟨rfl, ?_, grown_putRow⟩
  have e1 : (zs.eraseIdx i) = (List.take i zs ++ List.drop (i + 1) zs ++ List.replicate 1 0).take (zs.length - 1) := by
    have hlen : (List.take i zs ++ List.drop (i + 1) zs).length = zs.length - 1 := by simp; omega
    rw [List.eraseIdx_eq_take_drop_succ, ← hlen, List.take_left]
  rw [e1]
  exact Go.Lib.ownsRow_putRow h (by simp; omega) (by omega)
end Go.Proofs.Ytpdigiefldnpaaa
