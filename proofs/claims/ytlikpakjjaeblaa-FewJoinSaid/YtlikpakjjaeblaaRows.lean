/-
  No cell of these rows narrows 'for every input' (looked for: loops, veiled, ifaces, maps, wideKeys, modest, calm, conditions, laid).
  DERIVED. THE GIVEN ROWS OF THIS SEAT. 9 by the template 'for every input the law returns true; each argument reads behind the call as it read before'; 0 by the template 'total and deterministic' (their statements: YtlikpakjjaeblaaTotals.lean).
  GIVEN WITH THE SEED: the statements are not yours to turn. If you find one false, say at which input.
  Laid BY PROGRAM, IN A SANDBOX (cutbox-rows.mjs): the forced cells as the released guide's own fill.sh prints them over the translation 01343039f7ae58f8… (all of the seat's roots in one cut). By AI agents, Wed Nov 11 2026. No macro, syntax, notation, axiom, sorry.
-/
import Derived.Test.YtlikpakjjaeblaaChecked
import GoSem.Claim
import GoSem.ClaimJoined
import GoSem.ClaimMapViews
import Derived.JoinedTies
import Derived.KernelRfl
namespace Go.Proofs.Ytlikpakjjaeblaa
/- THE CELL 'sum', in the pinned program and in every row, IS THE sha256 OF THE DUMP (.gsa) THAT YtlikpakjjaeblaaProg.lean LOADS. Nothing in Lean hashes anything: it is a label: what it is worth is what the hold of that sum in a sandbox is worth. -/
noncomputable def Try.pinned : Pinned := { name := "ytlikpakjjaeblaa", sum := "01343039f7ae58f8841f520859163752ae7a3d715cca7b884f9b631027163c83", checked := Try.checked }
namespace Rows
def none {H : Type} : Left H := { results := [], args := [] }

/-- 'culkeep.BottomLess': WHATEVER THE INPUT: true; the input reads as it did. -/
def bottomLessSpec : ChangeSpec := { name := "bottomLess", fn := fun _ => fun
  | [d1, d2, d3, d4] => { results := [.lit (.bool true)], args := [d1, d2, d3, d4] }
  | _ => none }
def bottomLessRow : OpenClaim := { program := "ytlikpakjjaeblaa", sum := "01343039f7ae58f8841f520859163752ae7a3d715cca7b884f9b631027163c83", func := "cullender/culkeep.BottomLess", spec := "bottomLess", inPlace := ["slices.overlaps[int]"], apart := false }
def BottomLessSaid : Prop := bottomLessRow.holds Try.pinned (OpenSpec.ofChange bottomLessSpec)

/-- ITS FALSE NEIGHBOUR: 'it returns false'. Refute it at one input. -/
def bottomLessWrong : ChangeSpec := { name := "bottomLess", fn := fun _ => fun
  | [d1, d2, d3, d4] => { results := [.lit (.bool false)], args := [d1, d2, d3, d4] }
  | _ => none }
def BottomLessWrongFalsely : Prop := bottomLessRow.holds Try.pinned (OpenSpec.ofChange bottomLessWrong)

/-- 'culkeep.BottomSame': WHATEVER THE INPUT: true; the input reads as it did. -/
def bottomSameSpec : ChangeSpec := { name := "bottomSame", fn := fun _ => fun
  | [d1, d2, d3, d4] => { results := [.lit (.bool true)], args := [d1, d2, d3, d4] }
  | _ => none }
def bottomSameRow : OpenClaim := { program := "ytlikpakjjaeblaa", sum := "01343039f7ae58f8841f520859163752ae7a3d715cca7b884f9b631027163c83", func := "cullender/culkeep.BottomSame", spec := "bottomSame", inPlace := ["slices.overlaps[int]"], apart := false }
def BottomSameSaid : Prop := bottomSameRow.holds Try.pinned (OpenSpec.ofChange bottomSameSpec)

/-- ITS FALSE NEIGHBOUR: 'it returns false'. Refute it at one input. -/
def bottomSameWrong : ChangeSpec := { name := "bottomSame", fn := fun _ => fun
  | [d1, d2, d3, d4] => { results := [.lit (.bool false)], args := [d1, d2, d3, d4] }
  | _ => none }
def BottomSameWrongFalsely : Prop := bottomSameRow.holds Try.pinned (OpenSpec.ofChange bottomSameWrong)

/-- 'culkeep.BottomMany': WHATEVER THE INPUT: true; the input reads as it did. -/
def bottomManySpec : ChangeSpec := { name := "bottomMany", fn := fun _ => fun
  | [d1, d2] => { results := [.lit (.bool true)], args := [d1, d2] }
  | _ => none }
def bottomManyRow : OpenClaim := { program := "ytlikpakjjaeblaa", sum := "01343039f7ae58f8841f520859163752ae7a3d715cca7b884f9b631027163c83", func := "cullender/culkeep.BottomMany", spec := "bottomMany", inPlace := ["slices.overlaps[int]"], named := ["math/bits.divideError", "math/bits.overflowError"], apart := false }
def BottomManySaid : Prop := bottomManyRow.holds Try.pinned (OpenSpec.ofChange bottomManySpec)

/-- ITS FALSE NEIGHBOUR: 'it returns false'. Refute it at one input. -/
def bottomManyWrong : ChangeSpec := { name := "bottomMany", fn := fun _ => fun
  | [d1, d2] => { results := [.lit (.bool false)], args := [d1, d2] }
  | _ => none }
def BottomManyWrongFalsely : Prop := bottomManyRow.holds Try.pinned (OpenSpec.ofChange bottomManyWrong)

/-- 'culkeep.FewOften': WHATEVER THE INPUT: true; the input reads as it did. -/
def fewOftenSpec : ChangeSpec := { name := "fewOften", fn := fun _ => fun
  | [d1, d2] => { results := [.lit (.bool true)], args := [d1, d2] }
  | _ => none }
def fewOftenRow : OpenClaim := { program := "ytlikpakjjaeblaa", sum := "01343039f7ae58f8841f520859163752ae7a3d715cca7b884f9b631027163c83", func := "cullender/culkeep.FewOften", spec := "fewOften", inPlace := ["slices.overlaps[cullender/api.Counter]"], unfollowed := true, recurses := true, apart := false }
def FewOftenSaid : Prop := fewOftenRow.holds Try.pinned (OpenSpec.ofChange fewOftenSpec)

/-- ITS FALSE NEIGHBOUR: 'it returns false'. Refute it at one input. -/
def fewOftenWrong : ChangeSpec := { name := "fewOften", fn := fun _ => fun
  | [d1, d2] => { results := [.lit (.bool false)], args := [d1, d2] }
  | _ => none }
def FewOftenWrongFalsely : Prop := fewOftenRow.holds Try.pinned (OpenSpec.ofChange fewOftenWrong)

/-- 'culkeep.FewOnce': WHATEVER THE INPUT: true; the input reads as it did. -/
def fewOnceSpec : ChangeSpec := { name := "fewOnce", fn := fun _ => fun
  | [d1, d2, d3, d4] => { results := [.lit (.bool true)], args := [d1, d2, d3, d4] }
  | _ => none }
def fewOnceRow : OpenClaim := { program := "ytlikpakjjaeblaa", sum := "01343039f7ae58f8841f520859163752ae7a3d715cca7b884f9b631027163c83", func := "cullender/culkeep.FewOnce", spec := "fewOnce", inPlace := ["slices.overlaps[cullender/api.Counter]"], unfollowed := true, recurses := true, apart := false }
def FewOnceSaid : Prop := fewOnceRow.holds Try.pinned (OpenSpec.ofChange fewOnceSpec)

/-- ITS FALSE NEIGHBOUR: 'it returns false'. Refute it at one input. -/
def fewOnceWrong : ChangeSpec := { name := "fewOnce", fn := fun _ => fun
  | [d1, d2, d3, d4] => { results := [.lit (.bool false)], args := [d1, d2, d3, d4] }
  | _ => none }
def FewOnceWrongFalsely : Prop := fewOnceRow.holds Try.pinned (OpenSpec.ofChange fewOnceWrong)

/-- 'culkeep.FewNear': WHATEVER THE INPUT: true; the input reads as it did. -/
def fewNearSpec : ChangeSpec := { name := "fewNear", fn := fun _ => fun
  | [d1, d2, d3] => { results := [.lit (.bool true)], args := [d1, d2, d3] }
  | _ => none }
def fewNearRow : OpenClaim := { program := "ytlikpakjjaeblaa", sum := "01343039f7ae58f8841f520859163752ae7a3d715cca7b884f9b631027163c83", func := "cullender/culkeep.FewNear", spec := "fewNear", inPlace := ["slices.overlaps[cullender/api.Counter]"], unfollowed := true, recurses := true, apart := false }
def FewNearSaid : Prop := fewNearRow.holds Try.pinned (OpenSpec.ofChange fewNearSpec)

/-- ITS FALSE NEIGHBOUR: 'it returns false'. Refute it at one input. -/
def fewNearWrong : ChangeSpec := { name := "fewNear", fn := fun _ => fun
  | [d1, d2, d3] => { results := [.lit (.bool false)], args := [d1, d2, d3] }
  | _ => none }
def FewNearWrongFalsely : Prop := fewNearRow.holds Try.pinned (OpenSpec.ofChange fewNearWrong)

/-- 'culkeep.FewExact': WHATEVER THE INPUT: true; the input reads as it did. -/
def fewExactSpec : ChangeSpec := { name := "fewExact", fn := fun _ => fun
  | [d1, d2] => { results := [.lit (.bool true)], args := [d1, d2] }
  | _ => none }
def fewExactRow : OpenClaim := { program := "ytlikpakjjaeblaa", sum := "01343039f7ae58f8841f520859163752ae7a3d715cca7b884f9b631027163c83", func := "cullender/culkeep.FewExact", spec := "fewExact", inPlace := ["slices.overlaps[cullender/api.Counter]"], unfollowed := true, recurses := true, apart := false }
def FewExactSaid : Prop := fewExactRow.holds Try.pinned (OpenSpec.ofChange fewExactSpec)

/-- ITS FALSE NEIGHBOUR: 'it returns false'. Refute it at one input. -/
def fewExactWrong : ChangeSpec := { name := "fewExact", fn := fun _ => fun
  | [d1, d2] => { results := [.lit (.bool false)], args := [d1, d2] }
  | _ => none }
def FewExactWrongFalsely : Prop := fewExactRow.holds Try.pinned (OpenSpec.ofChange fewExactWrong)

/-- 'culkeep.FewMost': WHATEVER THE INPUT: true; the input reads as it did. -/
def fewMostSpec : ChangeSpec := { name := "fewMost", fn := fun _ => fun
  | [d1, d2] => { results := [.lit (.bool true)], args := [d1, d2] }
  | _ => none }
def fewMostRow : OpenClaim := { program := "ytlikpakjjaeblaa", sum := "01343039f7ae58f8841f520859163752ae7a3d715cca7b884f9b631027163c83", func := "cullender/culkeep.FewMost", spec := "fewMost", inPlace := ["slices.overlaps[cullender/api.Counter]"], unfollowed := true, recurses := true, apart := false }
def FewMostSaid : Prop := fewMostRow.holds Try.pinned (OpenSpec.ofChange fewMostSpec)

/-- ITS FALSE NEIGHBOUR: 'it returns false'. Refute it at one input. -/
def fewMostWrong : ChangeSpec := { name := "fewMost", fn := fun _ => fun
  | [d1, d2] => { results := [.lit (.bool false)], args := [d1, d2] }
  | _ => none }
def FewMostWrongFalsely : Prop := fewMostRow.holds Try.pinned (OpenSpec.ofChange fewMostWrong)

/-- 'culkeep.FewJoin': WHATEVER THE INPUT: true; the input reads as it did. -/
def fewJoinSpec : ChangeSpec := { name := "fewJoin", fn := fun _ => fun
  | [d1, d2, d3, d4] => { results := [.lit (.bool true)], args := [d1, d2, d3, d4] }
  | _ => none }
def fewJoinRow : OpenClaim := { program := "ytlikpakjjaeblaa", sum := "01343039f7ae58f8841f520859163752ae7a3d715cca7b884f9b631027163c83", func := "cullender/culkeep.FewJoin", spec := "fewJoin", inPlace := ["slices.overlaps[cullender/api.Counter]"], unfollowed := true, recurses := true, apart := false }
def FewJoinSaid : Prop := fewJoinRow.holds Try.pinned (OpenSpec.ofChange fewJoinSpec)

/-- ITS FALSE NEIGHBOUR: 'it returns false'. Refute it at one input. -/
def fewJoinWrong : ChangeSpec := { name := "fewJoin", fn := fun _ => fun
  | [d1, d2, d3, d4] => { results := [.lit (.bool false)], args := [d1, d2, d3, d4] }
  | _ => none }
def FewJoinWrongFalsely : Prop := fewJoinRow.holds Try.pinned (OpenSpec.ofChange fewJoinWrong)

/- THE SECOND FORM. 'bulk': how many values and letters a reading holds, each counted each time it is reached (what is shared counts as often as it is met; a slice's spare places count too). A statement '..UptoSaid' is the law's where the arguments, and the package variables that the reading takes, are together of bulk at most 1048576: NARROWER than '..Said'. Prove '..Said' where nothing that the law and all that it calls make is longer than what came in: it says more and counts as full. Else prove '..UptoSaid'. A law counts once. -/
mutual
def uptoBulk {H : Type} : DataW H → Nat
  | .lit (.string bytes) => bytes.length + 1
  | .lit _ => 1
  | .nil => 1
  | .ptr d => uptoBulk d + 1
  | .slice elems spare => uptoBulkAll elems + uptoBulkAll spare + 1
  | .agg parts => uptoBulkAll parts + 1
  | .iface _ d => uptoBulk d + 1
  | .map entries => uptoBulkEntries entries + 1
  | .held _ => 1
def uptoBulkAll {H : Type} : List (DataW H) → Nat
  | [] => 0
  | d :: r => uptoBulk d + uptoBulkAll r
def uptoBulkEntries {H : Type} : List (Lit × DataW H) → Nat
  | [] => 0
  | x :: r => uptoBulkEntry x + uptoBulkEntries r
def uptoBulkEntry {H : Type} : Lit × DataW H → Nat
  | (.string bytes, d) => bytes.length + uptoBulk d + 1
  | (_, d) => uptoBulk d + 1
 end
def uptoSmall : (H : Type) → List (DataW H) → Bool := fun _ ds => decide (uptoBulkAll ds ≤ 1048576)
def OpenSpec.upto (s : _root_.Go.ChangeSpec) : _root_.Go.OpenSpec := { _root_.Go.OpenSpec.ofChange s with cond := some uptoSmall }

/-- 'culkeep.BottomLess', WHERE WHAT IT READS IS OF BULK AT MOST 1048576: true; the input reads as it did. -/
def bottomLessUptoRow : OpenClaim := { program := "ytlikpakjjaeblaa", sum := "01343039f7ae58f8841f520859163752ae7a3d715cca7b884f9b631027163c83", func := "cullender/culkeep.BottomLess", spec := "bottomLess", inPlace := ["slices.overlaps[int]"], apart := false, narrowed := true }
def BottomLessUptoSaid : Prop := bottomLessUptoRow.holds Try.pinned (OpenSpec.upto bottomLessSpec)

/-- 'culkeep.BottomSame', WHERE WHAT IT READS IS OF BULK AT MOST 1048576: true; the input reads as it did. -/
def bottomSameUptoRow : OpenClaim := { program := "ytlikpakjjaeblaa", sum := "01343039f7ae58f8841f520859163752ae7a3d715cca7b884f9b631027163c83", func := "cullender/culkeep.BottomSame", spec := "bottomSame", inPlace := ["slices.overlaps[int]"], apart := false, narrowed := true }
def BottomSameUptoSaid : Prop := bottomSameUptoRow.holds Try.pinned (OpenSpec.upto bottomSameSpec)

/-- 'culkeep.BottomMany', WHERE WHAT IT READS IS OF BULK AT MOST 1048576: true; the input reads as it did. -/
def bottomManyUptoRow : OpenClaim := { program := "ytlikpakjjaeblaa", sum := "01343039f7ae58f8841f520859163752ae7a3d715cca7b884f9b631027163c83", func := "cullender/culkeep.BottomMany", spec := "bottomMany", inPlace := ["slices.overlaps[int]"], named := ["math/bits.divideError", "math/bits.overflowError"], apart := false, narrowed := true }
def BottomManyUptoSaid : Prop := bottomManyUptoRow.holds Try.pinned (OpenSpec.upto bottomManySpec)

/-- 'culkeep.FewOften', WHERE WHAT IT READS IS OF BULK AT MOST 1048576: true; the input reads as it did. -/
def fewOftenUptoRow : OpenClaim := { program := "ytlikpakjjaeblaa", sum := "01343039f7ae58f8841f520859163752ae7a3d715cca7b884f9b631027163c83", func := "cullender/culkeep.FewOften", spec := "fewOften", inPlace := ["slices.overlaps[cullender/api.Counter]"], unfollowed := true, recurses := true, apart := false, narrowed := true }
def FewOftenUptoSaid : Prop := fewOftenUptoRow.holds Try.pinned (OpenSpec.upto fewOftenSpec)

/-- 'culkeep.FewOnce', WHERE WHAT IT READS IS OF BULK AT MOST 1048576: true; the input reads as it did. -/
def fewOnceUptoRow : OpenClaim := { program := "ytlikpakjjaeblaa", sum := "01343039f7ae58f8841f520859163752ae7a3d715cca7b884f9b631027163c83", func := "cullender/culkeep.FewOnce", spec := "fewOnce", inPlace := ["slices.overlaps[cullender/api.Counter]"], unfollowed := true, recurses := true, apart := false, narrowed := true }
def FewOnceUptoSaid : Prop := fewOnceUptoRow.holds Try.pinned (OpenSpec.upto fewOnceSpec)

/-- 'culkeep.FewNear', WHERE WHAT IT READS IS OF BULK AT MOST 1048576: true; the input reads as it did. -/
def fewNearUptoRow : OpenClaim := { program := "ytlikpakjjaeblaa", sum := "01343039f7ae58f8841f520859163752ae7a3d715cca7b884f9b631027163c83", func := "cullender/culkeep.FewNear", spec := "fewNear", inPlace := ["slices.overlaps[cullender/api.Counter]"], unfollowed := true, recurses := true, apart := false, narrowed := true }
def FewNearUptoSaid : Prop := fewNearUptoRow.holds Try.pinned (OpenSpec.upto fewNearSpec)

/-- 'culkeep.FewExact', WHERE WHAT IT READS IS OF BULK AT MOST 1048576: true; the input reads as it did. -/
def fewExactUptoRow : OpenClaim := { program := "ytlikpakjjaeblaa", sum := "01343039f7ae58f8841f520859163752ae7a3d715cca7b884f9b631027163c83", func := "cullender/culkeep.FewExact", spec := "fewExact", inPlace := ["slices.overlaps[cullender/api.Counter]"], unfollowed := true, recurses := true, apart := false, narrowed := true }
def FewExactUptoSaid : Prop := fewExactUptoRow.holds Try.pinned (OpenSpec.upto fewExactSpec)

/-- 'culkeep.FewMost', WHERE WHAT IT READS IS OF BULK AT MOST 1048576: true; the input reads as it did. -/
def fewMostUptoRow : OpenClaim := { program := "ytlikpakjjaeblaa", sum := "01343039f7ae58f8841f520859163752ae7a3d715cca7b884f9b631027163c83", func := "cullender/culkeep.FewMost", spec := "fewMost", inPlace := ["slices.overlaps[cullender/api.Counter]"], unfollowed := true, recurses := true, apart := false, narrowed := true }
def FewMostUptoSaid : Prop := fewMostUptoRow.holds Try.pinned (OpenSpec.upto fewMostSpec)

/-- 'culkeep.FewJoin', WHERE WHAT IT READS IS OF BULK AT MOST 1048576: true; the input reads as it did. -/
def fewJoinUptoRow : OpenClaim := { program := "ytlikpakjjaeblaa", sum := "01343039f7ae58f8841f520859163752ae7a3d715cca7b884f9b631027163c83", func := "cullender/culkeep.FewJoin", spec := "fewJoin", inPlace := ["slices.overlaps[cullender/api.Counter]"], unfollowed := true, recurses := true, apart := false, narrowed := true }
def FewJoinUptoSaid : Prop := fewJoinUptoRow.holds Try.pinned (OpenSpec.upto fewJoinSpec)

end Rows
end Go.Proofs.Ytlikpakjjaeblaa
