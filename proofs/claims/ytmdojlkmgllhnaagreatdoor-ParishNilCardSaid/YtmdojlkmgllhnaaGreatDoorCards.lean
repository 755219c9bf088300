/-
  DERIVED. GIVEN WITH THE SEED: THE CARDS: each row of YtmdojlkmgllhnaaGreatDoorRows.lean that lists a variable, with what it lists TIED to the program's text (the seventh form; the later family's looks); each row that meets fmt, with fmt's text TOLD by the authors' own Lean function (tested against real Go, not proved from fmt's source: count such statements apart). THE CARD IS WHAT COUNTS. Prove the row's statement (the work); the ties are given (YtmdojlkmgllhnaaGreatDoorTie.lean); close each card by the builder's one call (the guide's Derived/Test/ToyasCard.lean, 'card_holds'). Laid BY PROGRAM, IN A SANDBOX (cutbox-door.mjs). By AI agents, Wed Nov 11 2026. No macro, syntax, notation, axiom, sorry.
-/
import Derived.Test.YtmdojlkmgllhnaaGreatDoorRows
import GoSem.ClaimSeven
namespace Go.Proofs.YtmdojlkmgllhnaaGreatDoor
namespace Rows

/-- THE TIED CARD OF 'sextonlaw14.ParishNil'. -/
def parishNilCard : Claim7 := { stood := { row := parishNilRow, standIns := [], harness := (true, "0d12be95e1a0f0d29bfa49299414ea7d09bd3fa999587bc08eda8c4815f50ebd"), looks := true }, kinds := [], alts := [], laidByText := true, laidKinds := [.sentinel, .sentinel, .sentinel, .sentinel, .sentinel, .sentinel, .sentinel, .sentinel], laidTests := true, laidLooks := .later }
def ParishNilCardSaid : Prop := Claim7.holds Tryz.pinned (.plain (OpenSpec.ofChange parishNilSpec)) parishNilCard

/-- THE SECOND FORM's CARD OF 'sextonlaw14.ParishNil'. -/
def parishNilUptoCard : Claim7 := { stood := { row := parishNilUptoRow, standIns := [], harness := (true, "0d12be95e1a0f0d29bfa49299414ea7d09bd3fa999587bc08eda8c4815f50ebd"), looks := true }, kinds := [], alts := [], laidByText := true, laidKinds := [.sentinel, .sentinel, .sentinel, .sentinel, .sentinel, .sentinel, .sentinel, .sentinel], laidTests := true, laidLooks := .later }
def ParishNilUptoCardSaid : Prop := Claim7.holds Tryz.pinned (.plain (OpenSpec.upto parishNilSpec)) parishNilUptoCard
end Rows
end Go.Proofs.YtmdojlkmgllhnaaGreatDoor
