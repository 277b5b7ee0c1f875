/-
  DERIVED. GIVEN WITH THE SEED: THE CARDS: each row of YtdfghgeccannnaaDoorRows.lean that lists a variable, with what it lists TIED to the program's text (the seventh form; the later family's looks); each row that meets fmt, with fmt's text TOLD by the authors' own Lean function (tested against real Go, not proved from fmt's source: count such statements apart). THE CARD IS WHAT COUNTS. Prove the row's statement (the work); the ties are given (YtdfghgeccannnaaDoorTie.lean); close each card by the builder's one call (the guide's Derived/Test/ToyasCard.lean, 'card_holds'). Laid BY PROGRAM, IN A SANDBOX (cutbox-door.mjs). By AI agents, Wed Nov 11 2026. No macro, syntax, notation, axiom, sorry.
-/
import Derived.Test.YtdfghgeccannnaaDoorRows
import GoSem.ClaimSeven
namespace Go.Proofs.YtdfghgeccannnaaDoor
namespace Rows

/-- THE TIED CARD OF 'culkeep.TextsOwn'. -/
def textsOwnCard : Claim7 := { stood := { row := textsOwnRow, standIns := [], harness := (true, "4100347bba04c6b372ffd6d4b31b746d224fc1019dbefad2235eb1fdc030eb36"), looks := false }, kinds := [], alts := [], laidByText := true, laidKinds := [.data, .pinned], laidTests := true, laidLooks := .later }
def TextsOwnCardSaid : Prop := Claim7.holds Tryd.pinned (.plain (OpenSpec.ofChange textsOwnSpec)) textsOwnCard

/-- THE SECOND FORM's CARD OF 'culkeep.TextsOwn'. -/
def textsOwnUptoCard : Claim7 := { stood := { row := textsOwnUptoRow, standIns := [], harness := (true, "4100347bba04c6b372ffd6d4b31b746d224fc1019dbefad2235eb1fdc030eb36"), looks := false }, kinds := [], alts := [], laidByText := true, laidKinds := [.data, .pinned], laidTests := true, laidLooks := .later }
def TextsOwnUptoCardSaid : Prop := Claim7.holds Tryd.pinned (.plain (OpenSpec.upto textsOwnSpec)) textsOwnUptoCard
end Rows
end Go.Proofs.YtdfghgeccannnaaDoor
