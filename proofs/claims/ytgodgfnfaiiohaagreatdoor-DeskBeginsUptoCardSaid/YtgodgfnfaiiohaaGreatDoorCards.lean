/-
  DERIVED. GIVEN WITH THE SEED: THE CARDS: each row of YtgodgfnfaiiohaaGreatDoorRows.lean that lists a variable, with what it lists TIED to the program's text (the seventh form; the later family's looks); each row that meets fmt, with fmt's text TOLD by the authors' own Lean function (tested against real Go, not proved from fmt's source: count such statements apart). THE CARD IS WHAT COUNTS. Prove the row's statement (the work); the ties are given (YtgodgfnfaiiohaaGreatDoorTie.lean); close each card by the builder's one call (the guide's Derived/Test/ToyasCard.lean, 'card_holds'). Laid BY PROGRAM, IN A SANDBOX (cutbox-door.mjs). By AI agents, Wed Nov 11 2026. No macro, syntax, notation, axiom, sorry.
-/
import Derived.Test.YtgodgfnfaiiohaaGreatDoorRows
import GoSem.ClaimSeven
namespace Go.Proofs.YtgodgfnfaiiohaaGreatDoor
namespace Rows

/-- THE TIED CARD OF 'culkeep.DeskBegins'. -/
def deskBeginsCard : Claim7 := { stood := { row := deskBeginsRow, standIns := [], harness := (true, "a3a271199fb218d3dc999f2fb6957fc6e3ba2096d4bdcc6bd2b25675682d39ac"), looks := true }, kinds := [], alts := [], laidByText := true, laidKinds := [.data, .data, .data, .data, .sentinel, .sentinel, .pinned], laidTests := true, laidLooks := .later }
def DeskBeginsCardSaid : Prop := Claim7.holds Tryz.pinned (.plain (OpenSpec.ofChange deskBeginsSpec)) deskBeginsCard

/-- THE TIED CARD OF 'culkeep.DeskLines'. -/
def deskLinesCard : Claim7 := { stood := { row := deskLinesRow, standIns := [], harness := (true, "a3a271199fb218d3dc999f2fb6957fc6e3ba2096d4bdcc6bd2b25675682d39ac"), looks := true }, kinds := [], alts := [], laidByText := true, laidKinds := [.data, .data, .data, .data, .sentinel, .sentinel, .pinned], laidTests := true, laidLooks := .later }
def DeskLinesCardSaid : Prop := Claim7.holds Tryz.pinned (.plain (OpenSpec.ofChange deskLinesSpec)) deskLinesCard

/-- THE SECOND FORM's CARD OF 'culkeep.DeskBegins'. -/
def deskBeginsUptoCard : Claim7 := { stood := { row := deskBeginsUptoRow, standIns := [], harness := (true, "a3a271199fb218d3dc999f2fb6957fc6e3ba2096d4bdcc6bd2b25675682d39ac"), looks := true }, kinds := [], alts := [], laidByText := true, laidKinds := [.data, .data, .data, .data, .sentinel, .sentinel, .pinned], laidTests := true, laidLooks := .later }
def DeskBeginsUptoCardSaid : Prop := Claim7.holds Tryz.pinned (.plain (OpenSpec.upto deskBeginsSpec)) deskBeginsUptoCard

/-- THE SECOND FORM's CARD OF 'culkeep.DeskLines'. -/
def deskLinesUptoCard : Claim7 := { stood := { row := deskLinesUptoRow, standIns := [], harness := (true, "a3a271199fb218d3dc999f2fb6957fc6e3ba2096d4bdcc6bd2b25675682d39ac"), looks := true }, kinds := [], alts := [], laidByText := true, laidKinds := [.data, .data, .data, .data, .sentinel, .sentinel, .pinned], laidTests := true, laidLooks := .later }
def DeskLinesUptoCardSaid : Prop := Claim7.holds Tryz.pinned (.plain (OpenSpec.upto deskLinesSpec)) deskLinesUptoCard
end Rows
end Go.Proofs.YtgodgfnfaiiohaaGreatDoor
