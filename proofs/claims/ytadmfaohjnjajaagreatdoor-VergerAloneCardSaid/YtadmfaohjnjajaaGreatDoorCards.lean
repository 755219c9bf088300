/-
  DERIVED. GIVEN WITH THE SEED: THE CARDS: each row of YtadmfaohjnjajaaGreatDoorRows.lean that lists a variable, with what it lists TIED to the program's text (the seventh form; the later family's looks); each row that meets fmt, with fmt's text TOLD by the authors' own Lean function (tested against real Go, not proved from fmt's source: count such statements apart). THE CARD IS WHAT COUNTS. Prove the row's statement (the work); the ties are given (YtadmfaohjnjajaaGreatDoorTie.lean); close each card by the builder's one call (the guide's Derived/Test/ToyasCard.lean, 'card_holds'). Laid BY PROGRAM, IN A SANDBOX (cutbox-door.mjs). By AI agents, Wed Nov 11 2026. No macro, syntax, notation, axiom, sorry.
-/
import Derived.Test.YtadmfaohjnjajaaGreatDoorRows
import GoSem.ClaimSeven
namespace Go.Proofs.YtadmfaohjnjajaaGreatDoor
namespace Rows

/-- THE TIED CARD OF 'sextonlaw13.VergerNever'. -/
def vergerNeverCard : Claim7 := { stood := { row := vergerNeverRow, standIns := [], harness := (true, "5181d5e1bc32d8d2cc1ae1f22aa68d9dcb9247217c3ef13092808a87f81917b3"), looks := true }, kinds := [], alts := [], laidByText := true, laidKinds := [.sentinel, .sentinel, .sentinel, .sentinel, .sentinel, .sentinel, .sentinel], laidTests := true, laidLooks := .later }
def VergerNeverCardSaid : Prop := Claim7.holds Tryz.pinned (.plain (OpenSpec.ofChange vergerNeverSpec)) vergerNeverCard

/-- THE TIED CARD OF 'sextonlaw13.VergerSteps'. -/
def vergerStepsCard : Claim7 := { stood := { row := vergerStepsRow, standIns := [], harness := (true, "5181d5e1bc32d8d2cc1ae1f22aa68d9dcb9247217c3ef13092808a87f81917b3"), looks := true }, kinds := [], alts := [], laidByText := true, laidKinds := [.sentinel, .sentinel, .sentinel, .sentinel, .sentinel, .sentinel, .sentinel], laidTests := true, laidLooks := .later }
def VergerStepsCardSaid : Prop := Claim7.holds Tryz.pinned (.plain (OpenSpec.ofChange vergerStepsSpec)) vergerStepsCard

/-- THE TIED CARD OF 'sextonlaw13.VergerAlone'. -/
def vergerAloneCard : Claim7 := { stood := { row := vergerAloneRow, standIns := [], harness := (true, "5181d5e1bc32d8d2cc1ae1f22aa68d9dcb9247217c3ef13092808a87f81917b3"), looks := true }, kinds := [], alts := [], laidByText := true, laidKinds := [.sentinel, .sentinel, .sentinel, .sentinel, .sentinel, .sentinel, .sentinel], laidTests := true, laidLooks := .later }
def VergerAloneCardSaid : Prop := Claim7.holds Tryz.pinned (.plain (OpenSpec.ofChange vergerAloneSpec)) vergerAloneCard

/-- THE SECOND FORM's CARD OF 'sextonlaw13.VergerNever'. -/
def vergerNeverUptoCard : Claim7 := { stood := { row := vergerNeverUptoRow, standIns := [], harness := (true, "5181d5e1bc32d8d2cc1ae1f22aa68d9dcb9247217c3ef13092808a87f81917b3"), looks := true }, kinds := [], alts := [], laidByText := true, laidKinds := [.sentinel, .sentinel, .sentinel, .sentinel, .sentinel, .sentinel, .sentinel], laidTests := true, laidLooks := .later }
def VergerNeverUptoCardSaid : Prop := Claim7.holds Tryz.pinned (.plain (OpenSpec.upto vergerNeverSpec)) vergerNeverUptoCard

/-- THE SECOND FORM's CARD OF 'sextonlaw13.VergerSteps'. -/
def vergerStepsUptoCard : Claim7 := { stood := { row := vergerStepsUptoRow, standIns := [], harness := (true, "5181d5e1bc32d8d2cc1ae1f22aa68d9dcb9247217c3ef13092808a87f81917b3"), looks := true }, kinds := [], alts := [], laidByText := true, laidKinds := [.sentinel, .sentinel, .sentinel, .sentinel, .sentinel, .sentinel, .sentinel], laidTests := true, laidLooks := .later }
def VergerStepsUptoCardSaid : Prop := Claim7.holds Tryz.pinned (.plain (OpenSpec.upto vergerStepsSpec)) vergerStepsUptoCard

/-- THE SECOND FORM's CARD OF 'sextonlaw13.VergerAlone'. -/
def vergerAloneUptoCard : Claim7 := { stood := { row := vergerAloneUptoRow, standIns := [], harness := (true, "5181d5e1bc32d8d2cc1ae1f22aa68d9dcb9247217c3ef13092808a87f81917b3"), looks := true }, kinds := [], alts := [], laidByText := true, laidKinds := [.sentinel, .sentinel, .sentinel, .sentinel, .sentinel, .sentinel, .sentinel], laidTests := true, laidLooks := .later }
def VergerAloneUptoCardSaid : Prop := Claim7.holds Tryz.pinned (.plain (OpenSpec.upto vergerAloneSpec)) vergerAloneUptoCard
end Rows
end Go.Proofs.YtadmfaohjnjajaaGreatDoor
