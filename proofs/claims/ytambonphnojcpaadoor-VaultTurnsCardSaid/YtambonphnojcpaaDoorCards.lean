/-
  DERIVED. GIVEN WITH THE SEED: THE CARDS: each row of YtambonphnojcpaaDoorRows.lean that lists a variable, with what it lists TIED to the program's text (the seventh form; the later family's looks); each row that meets fmt, with fmt's text TOLD by the authors' own Lean function (tested against real Go, not proved from fmt's source: count such statements apart). THE CARD IS WHAT COUNTS. Prove the row's statement (the work); the ties are given (YtambonphnojcpaaDoorTie.lean); close each card by the builder's one call (the guide's Derived/Test/ToyasCard.lean, 'card_holds'). Laid BY PROGRAM, IN A SANDBOX (cutbox-door.mjs). By AI agents, Wed Nov 11 2026. No macro, syntax, notation, axiom, sorry.
-/
import Derived.Test.YtambonphnojcpaaDoorRows
import GoSem.ClaimSeven
namespace Go.Proofs.YtambonphnojcpaaDoor
namespace Rows

/-- THE TIED CARD OF 'sextonlaw10.VaultPlaces'. -/
def vaultPlacesCard : Claim7 := { stood := { row := vaultPlacesRow, standIns := [], harness := (true, "eed0f50a953f79ec4ce793e85a372f86c8ae630d800eb18d1ae3949aba25f0e4"), looks := true }, kinds := [], alts := [], laidByText := true, laidKinds := [.sentinel], laidTests := true, laidLooks := .later }
def VaultPlacesCardSaid : Prop := Claim7.holds Tryd.pinned (.plain (OpenSpec.ofChange vaultPlacesSpec)) vaultPlacesCard

/-- THE TIED CARD OF 'sextonlaw10.VaultTurns'. -/
def vaultTurnsCard : Claim7 := { stood := { row := vaultTurnsRow, standIns := [], harness := (true, "eed0f50a953f79ec4ce793e85a372f86c8ae630d800eb18d1ae3949aba25f0e4"), looks := true }, kinds := [], alts := [], laidByText := true, laidKinds := [.sentinel], laidTests := true, laidLooks := .later }
def VaultTurnsCardSaid : Prop := Claim7.holds Tryd.pinned (.plain (OpenSpec.ofChange vaultTurnsSpec)) vaultTurnsCard

/-- THE SECOND FORM's CARD OF 'sextonlaw10.VaultPlaces'. -/
def vaultPlacesUptoCard : Claim7 := { stood := { row := vaultPlacesUptoRow, standIns := [], harness := (true, "eed0f50a953f79ec4ce793e85a372f86c8ae630d800eb18d1ae3949aba25f0e4"), looks := true }, kinds := [], alts := [], laidByText := true, laidKinds := [.sentinel], laidTests := true, laidLooks := .later }
def VaultPlacesUptoCardSaid : Prop := Claim7.holds Tryd.pinned (.plain (OpenSpec.upto vaultPlacesSpec)) vaultPlacesUptoCard

/-- THE SECOND FORM's CARD OF 'sextonlaw10.VaultTurns'. -/
def vaultTurnsUptoCard : Claim7 := { stood := { row := vaultTurnsUptoRow, standIns := [], harness := (true, "eed0f50a953f79ec4ce793e85a372f86c8ae630d800eb18d1ae3949aba25f0e4"), looks := true }, kinds := [], alts := [], laidByText := true, laidKinds := [.sentinel], laidTests := true, laidLooks := .later }
def VaultTurnsUptoCardSaid : Prop := Claim7.holds Tryd.pinned (.plain (OpenSpec.upto vaultTurnsSpec)) vaultTurnsUptoCard
end Rows
end Go.Proofs.YtambonphnojcpaaDoor
