/-
  No cell of these rows narrows 'for every input' (looked for: loops, veiled, ifaces, maps, wideKeys, modest, calm, conditions, laid).
  DERIVED. THE GIVEN ROWS OF THIS SEAT. 12 by the template 'for every input the law returns true; each argument reads behind the call as it read before'; 0 by the template 'total and deterministic' (their statements: YtboacbimmggleaaTotals.lean).
  GIVEN WITH THE SEED: the statements are not yours to turn. If you find one false, say at which input.
  Laid BY PROGRAM, IN A SANDBOX (cutbox-rows.mjs): the forced cells as the released guide's own fill.sh prints them over the translation 19718ac45c1de8fc… (all of the seat's roots in one cut). By AI agents, Wed Nov 11 2026. No macro, syntax, notation, axiom, sorry.
-/
import Derived.Test.YtboacbimmggleaaChecked
import GoSem.Claim
import GoSem.ClaimJoined
import GoSem.ClaimMapViews
import Derived.JoinedTies
import Derived.KernelRfl
namespace Go.Proofs.Ytboacbimmggleaa
/- THE CELL 'sum', in the pinned program and in every row, IS THE sha256 OF THE DUMP (.gsa) THAT YtboacbimmggleaaProg.lean LOADS. Nothing in Lean hashes anything: it is a label: what it is worth is what the hold of that sum in a sandbox is worth. -/
noncomputable def Try.pinned : Pinned := { name := "ytboacbimmggleaa", sum := "19718ac45c1de8fc8464063e5930b375ec6a0f1c9851b40477b16f3a250c2d01", checked := Try.checked }
namespace Rows
def none {H : Type} : Left H := { results := [], args := [] }

/-- 'culkeep.DealSame': WHATEVER THE INPUT: true; the input reads as it did. -/
def dealSameSpec : ChangeSpec := { name := "dealSame", fn := fun _ => fun
  | [d1, d2] => { results := [.lit (.bool true)], args := [d1, d2] }
  | _ => none }
def dealSameRow : OpenClaim := { program := "ytboacbimmggleaa", sum := "19718ac45c1de8fc8464063e5930b375ec6a0f1c9851b40477b16f3a250c2d01", func := "cullender/culkeep.DealSame", spec := "dealSame", apart := false }
def DealSameSaid : Prop := dealSameRow.holds Try.pinned (OpenSpec.ofChange dealSameSpec)

/-- ITS FALSE NEIGHBOUR: 'it returns false'. Refute it at one input. -/
def dealSameWrong : ChangeSpec := { name := "dealSame", fn := fun _ => fun
  | [d1, d2] => { results := [.lit (.bool false)], args := [d1, d2] }
  | _ => none }
def DealSameWrongFalsely : Prop := dealSameRow.holds Try.pinned (OpenSpec.ofChange dealSameWrong)

/-- 'culkeep.DealTwo': WHATEVER THE INPUT: true; the input reads as it did. -/
def dealTwoSpec : ChangeSpec := { name := "dealTwo", fn := fun _ => fun
  | [d1, d2, d3, d4] => { results := [.lit (.bool true)], args := [d1, d2, d3, d4] }
  | _ => none }
def dealTwoRow : OpenClaim := { program := "ytboacbimmggleaa", sum := "19718ac45c1de8fc8464063e5930b375ec6a0f1c9851b40477b16f3a250c2d01", func := "cullender/culkeep.DealTwo", spec := "dealTwo", apart := false }
def DealTwoSaid : Prop := dealTwoRow.holds Try.pinned (OpenSpec.ofChange dealTwoSpec)

/-- ITS FALSE NEIGHBOUR: 'it returns false'. Refute it at one input. -/
def dealTwoWrong : ChangeSpec := { name := "dealTwo", fn := fun _ => fun
  | [d1, d2, d3, d4] => { results := [.lit (.bool false)], args := [d1, d2, d3, d4] }
  | _ => none }
def DealTwoWrongFalsely : Prop := dealTwoRow.holds Try.pinned (OpenSpec.ofChange dealTwoWrong)

/-- 'culkeep.ShareLevel': WHATEVER THE INPUT: true; the input reads as it did. -/
def shareLevelSpec : ChangeSpec := { name := "shareLevel", fn := fun _ => fun
  | [d1, d2, d3, d4] => { results := [.lit (.bool true)], args := [d1, d2, d3, d4] }
  | _ => none }
def shareLevelRow : OpenClaim := { program := "ytboacbimmggleaa", sum := "19718ac45c1de8fc8464063e5930b375ec6a0f1c9851b40477b16f3a250c2d01", func := "cullender/culkeep.ShareLevel", spec := "shareLevel", unfollowed := true, recurses := true, apart := false }
def ShareLevelSaid : Prop := shareLevelRow.holds Try.pinned (OpenSpec.ofChange shareLevelSpec)

/-- ITS FALSE NEIGHBOUR: 'it returns false'. Refute it at one input. -/
def shareLevelWrong : ChangeSpec := { name := "shareLevel", fn := fun _ => fun
  | [d1, d2, d3, d4] => { results := [.lit (.bool false)], args := [d1, d2, d3, d4] }
  | _ => none }
def ShareLevelWrongFalsely : Prop := shareLevelRow.holds Try.pinned (OpenSpec.ofChange shareLevelWrong)

/-- 'culkeep.SpanCounts': WHATEVER THE INPUT: true; the input reads as it did. -/
def spanCountsSpec : ChangeSpec := { name := "spanCounts", fn := fun _ => fun
  | [d1, d2] => { results := [.lit (.bool true)], args := [d1, d2] }
  | _ => none }
def spanCountsRow : OpenClaim := { program := "ytboacbimmggleaa", sum := "19718ac45c1de8fc8464063e5930b375ec6a0f1c9851b40477b16f3a250c2d01", func := "cullender/culkeep.SpanCounts", spec := "spanCounts", apart := false }
def SpanCountsSaid : Prop := spanCountsRow.holds Try.pinned (OpenSpec.ofChange spanCountsSpec)

/-- ITS FALSE NEIGHBOUR: 'it returns false'. Refute it at one input. -/
def spanCountsWrong : ChangeSpec := { name := "spanCounts", fn := fun _ => fun
  | [d1, d2] => { results := [.lit (.bool false)], args := [d1, d2] }
  | _ => none }
def SpanCountsWrongFalsely : Prop := spanCountsRow.holds Try.pinned (OpenSpec.ofChange spanCountsWrong)

/-- 'culkeep.EstWider': WHATEVER THE INPUT: true; the input reads as it did. -/
def estWiderSpec : ChangeSpec := { name := "estWider", fn := fun _ => fun
  | [d1, d2, d3, d4] => { results := [.lit (.bool true)], args := [d1, d2, d3, d4] }
  | _ => none }
def estWiderRow : OpenClaim := { program := "ytboacbimmggleaa", sum := "19718ac45c1de8fc8464063e5930b375ec6a0f1c9851b40477b16f3a250c2d01", func := "cullender/culkeep.EstWider", spec := "estWider", apart := false }
def EstWiderSaid : Prop := estWiderRow.holds Try.pinned (OpenSpec.ofChange estWiderSpec)

/-- ITS FALSE NEIGHBOUR: 'it returns false'. Refute it at one input. -/
def estWiderWrong : ChangeSpec := { name := "estWider", fn := fun _ => fun
  | [d1, d2, d3, d4] => { results := [.lit (.bool false)], args := [d1, d2, d3, d4] }
  | _ => none }
def EstWiderWrongFalsely : Prop := estWiderRow.holds Try.pinned (OpenSpec.ofChange estWiderWrong)

/-- 'culkeep.CombFirst': WHATEVER THE INPUT: true; the input reads as it did. -/
def combFirstSpec : ChangeSpec := { name := "combFirst", fn := fun _ => fun
  | [d1, d2, d3] => { results := [.lit (.bool true)], args := [d1, d2, d3] }
  | _ => none }
def combFirstRow : OpenClaim := { program := "ytboacbimmggleaa", sum := "19718ac45c1de8fc8464063e5930b375ec6a0f1c9851b40477b16f3a250c2d01", func := "cullender/culkeep.CombFirst", spec := "combFirst", apart := false }
def CombFirstSaid : Prop := combFirstRow.holds Try.pinned (OpenSpec.ofChange combFirstSpec)

/-- ITS FALSE NEIGHBOUR: 'it returns false'. Refute it at one input. -/
def combFirstWrong : ChangeSpec := { name := "combFirst", fn := fun _ => fun
  | [d1, d2, d3] => { results := [.lit (.bool false)], args := [d1, d2, d3] }
  | _ => none }
def CombFirstWrongFalsely : Prop := combFirstRow.holds Try.pinned (OpenSpec.ofChange combFirstWrong)

/-- 'culkeep.CombNext': WHATEVER THE INPUT: true; the input reads as it did. -/
def combNextSpec : ChangeSpec := { name := "combNext", fn := fun _ => fun
  | [d1, d2] => { results := [.lit (.bool true)], args := [d1, d2] }
  | _ => none }
def combNextRow : OpenClaim := { program := "ytboacbimmggleaa", sum := "19718ac45c1de8fc8464063e5930b375ec6a0f1c9851b40477b16f3a250c2d01", func := "cullender/culkeep.CombNext", spec := "combNext", apart := false }
def CombNextSaid : Prop := combNextRow.holds Try.pinned (OpenSpec.ofChange combNextSpec)

/-- ITS FALSE NEIGHBOUR: 'it returns false'. Refute it at one input. -/
def combNextWrong : ChangeSpec := { name := "combNext", fn := fun _ => fun
  | [d1, d2] => { results := [.lit (.bool false)], args := [d1, d2] }
  | _ => none }
def CombNextWrongFalsely : Prop := combNextRow.holds Try.pinned (OpenSpec.ofChange combNextWrong)

/-- 'culkeep.PondKeeps': WHATEVER THE INPUT: true; the input reads as it did. -/
def pondKeepsSpec : ChangeSpec := { name := "pondKeeps", fn := fun _ => fun
  | [d1, d2, d3] => { results := [.lit (.bool true)], args := [d1, d2, d3] }
  | _ => none }
def pondKeepsRow : OpenClaim := { program := "ytboacbimmggleaa", sum := "19718ac45c1de8fc8464063e5930b375ec6a0f1c9851b40477b16f3a250c2d01", func := "cullender/culkeep.PondKeeps", spec := "pondKeeps", apart := false }
def PondKeepsSaid : Prop := pondKeepsRow.holds Try.pinned (OpenSpec.ofChange pondKeepsSpec)

/-- ITS FALSE NEIGHBOUR: 'it returns false'. Refute it at one input. -/
def pondKeepsWrong : ChangeSpec := { name := "pondKeeps", fn := fun _ => fun
  | [d1, d2, d3] => { results := [.lit (.bool false)], args := [d1, d2, d3] }
  | _ => none }
def PondKeepsWrongFalsely : Prop := pondKeepsRow.holds Try.pinned (OpenSpec.ofChange pondKeepsWrong)

/-- 'culkeep.PondLate': WHATEVER THE INPUT: true; the input reads as it did. -/
def pondLateSpec : ChangeSpec := { name := "pondLate", fn := fun _ => fun
  | [d1, d2, d3] => { results := [.lit (.bool true)], args := [d1, d2, d3] }
  | _ => none }
def pondLateRow : OpenClaim := { program := "ytboacbimmggleaa", sum := "19718ac45c1de8fc8464063e5930b375ec6a0f1c9851b40477b16f3a250c2d01", func := "cullender/culkeep.PondLate", spec := "pondLate", apart := false }
def PondLateSaid : Prop := pondLateRow.holds Try.pinned (OpenSpec.ofChange pondLateSpec)

/-- ITS FALSE NEIGHBOUR: 'it returns false'. Refute it at one input. -/
def pondLateWrong : ChangeSpec := { name := "pondLate", fn := fun _ => fun
  | [d1, d2, d3] => { results := [.lit (.bool false)], args := [d1, d2, d3] }
  | _ => none }
def PondLateWrongFalsely : Prop := pondLateRow.holds Try.pinned (OpenSpec.ofChange pondLateWrong)

/-- 'culkeep.EstSpreads': WHATEVER THE INPUT: true; the input reads as it did. -/
def estSpreadsSpec : ChangeSpec := { name := "estSpreads", fn := fun _ => fun
  | [d1, d2] => { results := [.lit (.bool true)], args := [d1, d2] }
  | _ => none }
def estSpreadsRow : OpenClaim := { program := "ytboacbimmggleaa", sum := "19718ac45c1de8fc8464063e5930b375ec6a0f1c9851b40477b16f3a250c2d01", func := "cullender/culkeep.EstSpreads", spec := "estSpreads", unfollowed := true, recurses := true, apart := false }
def EstSpreadsSaid : Prop := estSpreadsRow.holds Try.pinned (OpenSpec.ofChange estSpreadsSpec)

/-- ITS FALSE NEIGHBOUR: 'it returns false'. Refute it at one input. -/
def estSpreadsWrong : ChangeSpec := { name := "estSpreads", fn := fun _ => fun
  | [d1, d2] => { results := [.lit (.bool false)], args := [d1, d2] }
  | _ => none }
def EstSpreadsWrongFalsely : Prop := estSpreadsRow.holds Try.pinned (OpenSpec.ofChange estSpreadsWrong)

/-- 'culkeep.DigitFirst': WHATEVER THE INPUT: true; the input reads as it did. -/
def digitFirstSpec : ChangeSpec := { name := "digitFirst", fn := fun _ => fun
  | [d1, d2] => { results := [.lit (.bool true)], args := [d1, d2] }
  | _ => none }
def digitFirstRow : OpenClaim := { program := "ytboacbimmggleaa", sum := "19718ac45c1de8fc8464063e5930b375ec6a0f1c9851b40477b16f3a250c2d01", func := "cullender/culkeep.DigitFirst", spec := "digitFirst", recurses := true, apart := false }
def DigitFirstSaid : Prop := digitFirstRow.holds Try.pinned (OpenSpec.ofChange digitFirstSpec)

/-- ITS FALSE NEIGHBOUR: 'it returns false'. Refute it at one input. -/
def digitFirstWrong : ChangeSpec := { name := "digitFirst", fn := fun _ => fun
  | [d1, d2] => { results := [.lit (.bool false)], args := [d1, d2] }
  | _ => none }
def DigitFirstWrongFalsely : Prop := digitFirstRow.holds Try.pinned (OpenSpec.ofChange digitFirstWrong)

/-- 'culkeep.SpanAlone': WHATEVER THE INPUT: true; the input reads as it did. -/
def spanAloneSpec : ChangeSpec := { name := "spanAlone", fn := fun _ => fun
  | [d] => { results := [.lit (.bool true)], args := [d] }
  | _ => none }
def spanAloneRow : OpenClaim := { program := "ytboacbimmggleaa", sum := "19718ac45c1de8fc8464063e5930b375ec6a0f1c9851b40477b16f3a250c2d01", func := "cullender/culkeep.SpanAlone", spec := "spanAlone", apart := false }
def SpanAloneSaid : Prop := spanAloneRow.holds Try.pinned (OpenSpec.ofChange spanAloneSpec)

/-- ITS FALSE NEIGHBOUR: 'it returns false'. Refute it at one input. -/
def spanAloneWrong : ChangeSpec := { name := "spanAlone", fn := fun _ => fun
  | [d] => { results := [.lit (.bool false)], args := [d] }
  | _ => none }
def SpanAloneWrongFalsely : Prop := spanAloneRow.holds Try.pinned (OpenSpec.ofChange spanAloneWrong)

/- THE SECOND FORM. 'bulk': how many values and letters a reading holds, each counted each time it is reached (what is shared counts as often as it is met; a slice's spare places count too). A statement '..UptoSaid' is the law's where the arguments, and the package variables that the reading takes, are together of bulk at most 1048576: NARROWER than '..Said'. Prove '..Said' where nothing that the law and all that it calls make is longer than what came in: it says more and counts as full. Else prove '..UptoSaid'. A law counts once. -/
mutual
def uptoBulk {H : Type} : DataW H → Nat
  | .lit (.string bytes) => bytes.length + 1
  | .lit _ => 1
  | .nil => 1
  | .ptr d => uptoBulk d + 1
  | .slice elems spare => uptoBulkAll elems + uptoBulkAll spare + 1
  | .agg parts => uptoBulkAll parts + 1
  | .iface _ d => uptoBulk d + 1
  | .map entries => uptoBulkEntries entries + 1
  | .held _ => 1
def uptoBulkAll {H : Type} : List (DataW H) → Nat
  | [] => 0
  | d :: r => uptoBulk d + uptoBulkAll r
def uptoBulkEntries {H : Type} : List (Lit × DataW H) → Nat
  | [] => 0
  | x :: r => uptoBulkEntry x + uptoBulkEntries r
def uptoBulkEntry {H : Type} : Lit × DataW H → Nat
  | (.string bytes, d) => bytes.length + uptoBulk d + 1
  | (_, d) => uptoBulk d + 1
 end
def uptoSmall : (H : Type) → List (DataW H) → Bool := fun _ ds => decide (uptoBulkAll ds ≤ 1048576)
def OpenSpec.upto (s : _root_.Go.ChangeSpec) : _root_.Go.OpenSpec := { _root_.Go.OpenSpec.ofChange s with cond := some uptoSmall }

/-- 'culkeep.DealSame', WHERE WHAT IT READS IS OF BULK AT MOST 1048576: true; the input reads as it did. -/
def dealSameUptoRow : OpenClaim := { program := "ytboacbimmggleaa", sum := "19718ac45c1de8fc8464063e5930b375ec6a0f1c9851b40477b16f3a250c2d01", func := "cullender/culkeep.DealSame", spec := "dealSame", apart := false, narrowed := true }
def DealSameUptoSaid : Prop := dealSameUptoRow.holds Try.pinned (OpenSpec.upto dealSameSpec)

/-- 'culkeep.DealTwo', WHERE WHAT IT READS IS OF BULK AT MOST 1048576: true; the input reads as it did. -/
def dealTwoUptoRow : OpenClaim := { program := "ytboacbimmggleaa", sum := "19718ac45c1de8fc8464063e5930b375ec6a0f1c9851b40477b16f3a250c2d01", func := "cullender/culkeep.DealTwo", spec := "dealTwo", apart := false, narrowed := true }
def DealTwoUptoSaid : Prop := dealTwoUptoRow.holds Try.pinned (OpenSpec.upto dealTwoSpec)

/-- 'culkeep.ShareLevel', WHERE WHAT IT READS IS OF BULK AT MOST 1048576: true; the input reads as it did. -/
def shareLevelUptoRow : OpenClaim := { program := "ytboacbimmggleaa", sum := "19718ac45c1de8fc8464063e5930b375ec6a0f1c9851b40477b16f3a250c2d01", func := "cullender/culkeep.ShareLevel", spec := "shareLevel", unfollowed := true, recurses := true, apart := false, narrowed := true }
def ShareLevelUptoSaid : Prop := shareLevelUptoRow.holds Try.pinned (OpenSpec.upto shareLevelSpec)

/-- 'culkeep.SpanCounts', WHERE WHAT IT READS IS OF BULK AT MOST 1048576: true; the input reads as it did. -/
def spanCountsUptoRow : OpenClaim := { program := "ytboacbimmggleaa", sum := "19718ac45c1de8fc8464063e5930b375ec6a0f1c9851b40477b16f3a250c2d01", func := "cullender/culkeep.SpanCounts", spec := "spanCounts", apart := false, narrowed := true }
def SpanCountsUptoSaid : Prop := spanCountsUptoRow.holds Try.pinned (OpenSpec.upto spanCountsSpec)

/-- 'culkeep.EstWider', WHERE WHAT IT READS IS OF BULK AT MOST 1048576: true; the input reads as it did. -/
def estWiderUptoRow : OpenClaim := { program := "ytboacbimmggleaa", sum := "19718ac45c1de8fc8464063e5930b375ec6a0f1c9851b40477b16f3a250c2d01", func := "cullender/culkeep.EstWider", spec := "estWider", apart := false, narrowed := true }
def EstWiderUptoSaid : Prop := estWiderUptoRow.holds Try.pinned (OpenSpec.upto estWiderSpec)

/-- 'culkeep.CombFirst', WHERE WHAT IT READS IS OF BULK AT MOST 1048576: true; the input reads as it did. -/
def combFirstUptoRow : OpenClaim := { program := "ytboacbimmggleaa", sum := "19718ac45c1de8fc8464063e5930b375ec6a0f1c9851b40477b16f3a250c2d01", func := "cullender/culkeep.CombFirst", spec := "combFirst", apart := false, narrowed := true }
def CombFirstUptoSaid : Prop := combFirstUptoRow.holds Try.pinned (OpenSpec.upto combFirstSpec)

/-- 'culkeep.CombNext', WHERE WHAT IT READS IS OF BULK AT MOST 1048576: true; the input reads as it did. -/
def combNextUptoRow : OpenClaim := { program := "ytboacbimmggleaa", sum := "19718ac45c1de8fc8464063e5930b375ec6a0f1c9851b40477b16f3a250c2d01", func := "cullender/culkeep.CombNext", spec := "combNext", apart := false, narrowed := true }
def CombNextUptoSaid : Prop := combNextUptoRow.holds Try.pinned (OpenSpec.upto combNextSpec)

/-- 'culkeep.PondKeeps', WHERE WHAT IT READS IS OF BULK AT MOST 1048576: true; the input reads as it did. -/
def pondKeepsUptoRow : OpenClaim := { program := "ytboacbimmggleaa", sum := "19718ac45c1de8fc8464063e5930b375ec6a0f1c9851b40477b16f3a250c2d01", func := "cullender/culkeep.PondKeeps", spec := "pondKeeps", apart := false, narrowed := true }
def PondKeepsUptoSaid : Prop := pondKeepsUptoRow.holds Try.pinned (OpenSpec.upto pondKeepsSpec)

/-- 'culkeep.PondLate', WHERE WHAT IT READS IS OF BULK AT MOST 1048576: true; the input reads as it did. -/
def pondLateUptoRow : OpenClaim := { program := "ytboacbimmggleaa", sum := "19718ac45c1de8fc8464063e5930b375ec6a0f1c9851b40477b16f3a250c2d01", func := "cullender/culkeep.PondLate", spec := "pondLate", apart := false, narrowed := true }
def PondLateUptoSaid : Prop := pondLateUptoRow.holds Try.pinned (OpenSpec.upto pondLateSpec)

/-- 'culkeep.EstSpreads', WHERE WHAT IT READS IS OF BULK AT MOST 1048576: true; the input reads as it did. -/
def estSpreadsUptoRow : OpenClaim := { program := "ytboacbimmggleaa", sum := "19718ac45c1de8fc8464063e5930b375ec6a0f1c9851b40477b16f3a250c2d01", func := "cullender/culkeep.EstSpreads", spec := "estSpreads", unfollowed := true, recurses := true, apart := false, narrowed := true }
def EstSpreadsUptoSaid : Prop := estSpreadsUptoRow.holds Try.pinned (OpenSpec.upto estSpreadsSpec)

/-- 'culkeep.DigitFirst', WHERE WHAT IT READS IS OF BULK AT MOST 1048576: true; the input reads as it did. -/
def digitFirstUptoRow : OpenClaim := { program := "ytboacbimmggleaa", sum := "19718ac45c1de8fc8464063e5930b375ec6a0f1c9851b40477b16f3a250c2d01", func := "cullender/culkeep.DigitFirst", spec := "digitFirst", recurses := true, apart := false, narrowed := true }
def DigitFirstUptoSaid : Prop := digitFirstUptoRow.holds Try.pinned (OpenSpec.upto digitFirstSpec)

/-- 'culkeep.SpanAlone', WHERE WHAT IT READS IS OF BULK AT MOST 1048576: true; the input reads as it did. -/
def spanAloneUptoRow : OpenClaim := { program := "ytboacbimmggleaa", sum := "19718ac45c1de8fc8464063e5930b375ec6a0f1c9851b40477b16f3a250c2d01", func := "cullender/culkeep.SpanAlone", spec := "spanAlone", apart := false, narrowed := true }
def SpanAloneUptoSaid : Prop := spanAloneUptoRow.holds Try.pinned (OpenSpec.upto spanAloneSpec)

end Rows
end Go.Proofs.Ytboacbimmggleaa
