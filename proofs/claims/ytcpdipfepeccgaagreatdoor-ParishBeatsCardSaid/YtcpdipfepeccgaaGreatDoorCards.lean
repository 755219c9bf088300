/-
  DERIVED. GIVEN WITH THE SEED: THE CARDS: each row of YtcpdipfepeccgaaGreatDoorRows.lean that lists a variable, with what it lists TIED to the program's text (the seventh form; the later family's looks); each row that meets fmt, with fmt's text TOLD by the authors' own Lean function (tested against real Go, not proved from fmt's source: count such statements apart). THE CARD IS WHAT COUNTS. Prove the row's statement (the work); the ties are given (YtcpdipfepeccgaaGreatDoorTie.lean); close each card by the builder's one call (the guide's Derived/Test/ToyasCard.lean, 'card_holds'). Laid BY PROGRAM, IN A SANDBOX (cutbox-door.mjs). By AI agents, Wed Nov 11 2026. No macro, syntax, notation, axiom, sorry.
-/
import Derived.Test.YtcpdipfepeccgaaGreatDoorRows
import GoSem.ClaimSeven
namespace Go.Proofs.YtcpdipfepeccgaaGreatDoor
namespace Rows

/-- THE TIED CARD OF 'sextonlaw14.ParishRefused'. -/
def parishRefusedCard : Claim7 := { stood := { row := parishRefusedRow, standIns := [], harness := (true, "61be13a6f796aae7974cb8ba85193a83aec9c7e3284d5763d80366d398e61783"), looks := true }, kinds := [], alts := [], laidByText := true, laidKinds := [.sentinel, .sentinel, .sentinel, .sentinel, .sentinel, .sentinel, .sentinel, .sentinel], laidTests := true, laidLooks := .later }
def ParishRefusedCardSaid : Prop := Claim7.holds Tryz.pinned (.plain (OpenSpec.ofChange parishRefusedSpec)) parishRefusedCard

/-- THE TIED CARD OF 'sextonlaw14.ParishBeats'. -/
def parishBeatsCard : Claim7 := { stood := { row := parishBeatsRow, standIns := [], harness := (true, "61be13a6f796aae7974cb8ba85193a83aec9c7e3284d5763d80366d398e61783"), looks := true }, kinds := [], alts := [], laidByText := true, laidKinds := [.sentinel, .sentinel, .sentinel, .sentinel, .sentinel, .sentinel, .sentinel, .sentinel], laidTests := true, laidLooks := .later }
def ParishBeatsCardSaid : Prop := Claim7.holds Tryz.pinned (.plain (OpenSpec.ofChange parishBeatsSpec)) parishBeatsCard

/-- THE SECOND FORM's CARD OF 'sextonlaw14.ParishRefused'. -/
def parishRefusedUptoCard : Claim7 := { stood := { row := parishRefusedUptoRow, standIns := [], harness := (true, "61be13a6f796aae7974cb8ba85193a83aec9c7e3284d5763d80366d398e61783"), looks := true }, kinds := [], alts := [], laidByText := true, laidKinds := [.sentinel, .sentinel, .sentinel, .sentinel, .sentinel, .sentinel, .sentinel, .sentinel], laidTests := true, laidLooks := .later }
def ParishRefusedUptoCardSaid : Prop := Claim7.holds Tryz.pinned (.plain (OpenSpec.upto parishRefusedSpec)) parishRefusedUptoCard

/-- THE SECOND FORM's CARD OF 'sextonlaw14.ParishBeats'. -/
def parishBeatsUptoCard : Claim7 := { stood := { row := parishBeatsUptoRow, standIns := [], harness := (true, "61be13a6f796aae7974cb8ba85193a83aec9c7e3284d5763d80366d398e61783"), looks := true }, kinds := [], alts := [], laidByText := true, laidKinds := [.sentinel, .sentinel, .sentinel, .sentinel, .sentinel, .sentinel, .sentinel, .sentinel], laidTests := true, laidLooks := .later }
def ParishBeatsUptoCardSaid : Prop := Claim7.holds Tryz.pinned (.plain (OpenSpec.upto parishBeatsSpec)) parishBeatsUptoCard
end Rows
end Go.Proofs.YtcpdipfepeccgaaGreatDoor
