/-
  DERIVED. GIVEN WITH THE SEED: THE CARDS: each row of YthdmoahfeimdaaaGreatDoorRows.lean that lists a variable, with what it lists TIED to the program's text (the seventh form; the later family's looks); each row that meets fmt, with fmt's text TOLD by the authors' own Lean function (tested against real Go, not proved from fmt's source: count such statements apart). THE CARD IS WHAT COUNTS. Prove the row's statement (the work); the ties are given (YthdmoahfeimdaaaGreatDoorTie.lean); close each card by the builder's one call (the guide's Derived/Test/ToyasCard.lean, 'card_holds'). Laid BY PROGRAM, IN A SANDBOX (cutbox-door.mjs). By AI agents, Wed Nov 11 2026. No macro, syntax, notation, axiom, sorry.
-/
import Derived.Test.YthdmoahfeimdaaaGreatDoorRows
import GoSem.ClaimSeven
namespace Go.Proofs.YthdmoahfeimdaaaGreatDoor
namespace Rows

/-- THE TIED CARD OF 'sextonlaw22.VesperTells'. -/
def vesperTellsCard : Claim7 := { stood := { row := vesperTellsRow, standIns := [], harness := (true, "26759d51f1a4b2bec8838170f849b839b0670d370db7b1f4662eaa214caaf434"), looks := true }, kinds := [], alts := [], laidByText := true, laidKinds := [.data, .data, .data, .data, .sentinel, .sentinel, .sentinel, .sentinel, .sentinel, .sentinel, .sentinel, .sentinel, .sentinel, .sentinel, .sentinel, .data, .data, .data, .pinned], laidTests := true, laidLooks := .later }
def VesperTellsCardSaid : Prop := Claim7.holds Tryz.pinned (.plain (OpenSpec.ofChange vesperTellsSpec)) vesperTellsCard

/-- THE TIED CARD OF 'sextonlaw22.VesperApart'. -/
def vesperApartCard : Claim7 := { stood := { row := vesperApartRow, standIns := [], harness := (true, "26759d51f1a4b2bec8838170f849b839b0670d370db7b1f4662eaa214caaf434"), looks := true }, kinds := [], alts := [], laidByText := true, laidKinds := [.data, .data, .data, .data, .sentinel, .sentinel, .sentinel, .sentinel, .sentinel, .sentinel, .sentinel, .sentinel, .sentinel, .sentinel, .sentinel, .data, .data, .data, .pinned], laidTests := true, laidLooks := .later }
def VesperApartCardSaid : Prop := Claim7.holds Tryz.pinned (.plain (OpenSpec.ofChange vesperApartSpec)) vesperApartCard

/-- THE TIED CARD OF 'sextonlaw22.VesperShows'. -/
def vesperShowsCard : Claim7 := { stood := { row := vesperShowsRow, standIns := [], harness := (true, "26759d51f1a4b2bec8838170f849b839b0670d370db7b1f4662eaa214caaf434"), looks := true }, kinds := [], alts := [], laidByText := true, laidKinds := [.data, .data, .data, .data, .sentinel, .sentinel, .sentinel, .sentinel, .sentinel, .sentinel, .sentinel, .sentinel, .sentinel, .sentinel, .sentinel, .data, .data, .data, .pinned], laidTests := true, laidLooks := .later }
def VesperShowsCardSaid : Prop := Claim7.holds Tryz.pinned (.plain (OpenSpec.ofChange vesperShowsSpec)) vesperShowsCard

/-- THE SECOND FORM's CARD OF 'sextonlaw22.VesperTells'. -/
def vesperTellsUptoCard : Claim7 := { stood := { row := vesperTellsUptoRow, standIns := [], harness := (true, "26759d51f1a4b2bec8838170f849b839b0670d370db7b1f4662eaa214caaf434"), looks := true }, kinds := [], alts := [], laidByText := true, laidKinds := [.data, .data, .data, .data, .sentinel, .sentinel, .sentinel, .sentinel, .sentinel, .sentinel, .sentinel, .sentinel, .sentinel, .sentinel, .sentinel, .data, .data, .data, .pinned], laidTests := true, laidLooks := .later }
def VesperTellsUptoCardSaid : Prop := Claim7.holds Tryz.pinned (.plain (OpenSpec.upto vesperTellsSpec)) vesperTellsUptoCard

/-- THE SECOND FORM's CARD OF 'sextonlaw22.VesperApart'. -/
def vesperApartUptoCard : Claim7 := { stood := { row := vesperApartUptoRow, standIns := [], harness := (true, "26759d51f1a4b2bec8838170f849b839b0670d370db7b1f4662eaa214caaf434"), looks := true }, kinds := [], alts := [], laidByText := true, laidKinds := [.data, .data, .data, .data, .sentinel, .sentinel, .sentinel, .sentinel, .sentinel, .sentinel, .sentinel, .sentinel, .sentinel, .sentinel, .sentinel, .data, .data, .data, .pinned], laidTests := true, laidLooks := .later }
def VesperApartUptoCardSaid : Prop := Claim7.holds Tryz.pinned (.plain (OpenSpec.upto vesperApartSpec)) vesperApartUptoCard

/-- THE SECOND FORM's CARD OF 'sextonlaw22.VesperShows'. -/
def vesperShowsUptoCard : Claim7 := { stood := { row := vesperShowsUptoRow, standIns := [], harness := (true, "26759d51f1a4b2bec8838170f849b839b0670d370db7b1f4662eaa214caaf434"), looks := true }, kinds := [], alts := [], laidByText := true, laidKinds := [.data, .data, .data, .data, .sentinel, .sentinel, .sentinel, .sentinel, .sentinel, .sentinel, .sentinel, .sentinel, .sentinel, .sentinel, .sentinel, .data, .data, .data, .pinned], laidTests := true, laidLooks := .later }
def VesperShowsUptoCardSaid : Prop := Claim7.holds Tryz.pinned (.plain (OpenSpec.upto vesperShowsSpec)) vesperShowsUptoCard
end Rows
end Go.Proofs.YthdmoahfeimdaaaGreatDoor
