/-
  DERIVED. GIVEN WITH THE SEED: THE CARDS: each row of YtfamkibdecgbgaaGreatDoorRows.lean that lists a variable, with what it lists TIED to the program's text (the seventh form; the later family's looks); each row that meets fmt, with fmt's text TOLD by the authors' own Lean function (tested against real Go, not proved from fmt's source: count such statements apart). THE CARD IS WHAT COUNTS. Prove the row's statement (the work); the ties are given (YtfamkibdecgbgaaGreatDoorTie.lean); close each card by the builder's one call (the guide's Derived/Test/ToyasCard.lean, 'card_holds'). Laid BY PROGRAM, IN A SANDBOX (cutbox-door.mjs). By AI agents, Wed Nov 11 2026. No macro, syntax, notation, axiom, sorry.
-/
import Derived.Test.YtfamkibdecgbgaaGreatDoorRows
import GoSem.ClaimSeven
namespace Go.Proofs.YtfamkibdecgbgaaGreatDoor
namespace Rows

/-- THE TIED CARD OF 'sextonlaw13.VergerNil'. -/
def vergerNilCard : Claim7 := { stood := { row := vergerNilRow, standIns := [], harness := (true, "e168bf59a64b6e09b9254c2b25eb20ef3c734ff7938ba0fa1147559cc0655777"), looks := true }, kinds := [], alts := [], laidByText := true, laidKinds := [.sentinel, .sentinel, .sentinel, .sentinel, .sentinel, .sentinel, .sentinel], laidTests := true, laidLooks := .later }
def VergerNilCardSaid : Prop := Claim7.holds Tryz.pinned (.plain (OpenSpec.ofChange vergerNilSpec)) vergerNilCard

/-- THE SECOND FORM's CARD OF 'sextonlaw13.VergerNil'. -/
def vergerNilUptoCard : Claim7 := { stood := { row := vergerNilUptoRow, standIns := [], harness := (true, "e168bf59a64b6e09b9254c2b25eb20ef3c734ff7938ba0fa1147559cc0655777"), looks := true }, kinds := [], alts := [], laidByText := true, laidKinds := [.sentinel, .sentinel, .sentinel, .sentinel, .sentinel, .sentinel, .sentinel], laidTests := true, laidLooks := .later }
def VergerNilUptoCardSaid : Prop := Claim7.holds Tryz.pinned (.plain (OpenSpec.upto vergerNilSpec)) vergerNilUptoCard
end Rows
end Go.Proofs.YtfamkibdecgbgaaGreatDoor
