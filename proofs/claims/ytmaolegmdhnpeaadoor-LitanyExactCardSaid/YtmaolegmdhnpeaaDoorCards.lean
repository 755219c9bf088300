/-
  DERIVED. GIVEN WITH THE SEED: THE CARDS: each row of YtmaolegmdhnpeaaDoorRows.lean that lists a variable, with what it lists TIED to the program's text (the seventh form; the later family's looks); each row that meets fmt, with fmt's text TOLD by the authors' own Lean function (tested against real Go, not proved from fmt's source: count such statements apart). THE CARD IS WHAT COUNTS. Prove the row's statement (the work); the ties are given (YtmaolegmdhnpeaaDoorTie.lean); close each card by the builder's one call (the guide's Derived/Test/ToyasCard.lean, 'card_holds'). Laid BY PROGRAM, IN A SANDBOX (cutbox-door.mjs). By AI agents, Wed Nov 11 2026. No macro, syntax, notation, axiom, sorry.
-/
import Derived.Test.YtmaolegmdhnpeaaDoorRows
import GoSem.ClaimSeven
namespace Go.Proofs.YtmaolegmdhnpeaaDoor
namespace Rows

/-- THE TIED CARD OF 'sextonlaw09.LitanyExact'. -/
def litanyExactCard : Claim7 := { stood := { row := litanyExactRow, standIns := [], harness := (true, "d54f30b35e516699d7168268d977fe3a90be3f26a3ef736e51c3fb034430a1c8"), looks := false }, kinds := [], alts := [], laidByText := true, laidKinds := [.sentinel], laidTests := true, laidLooks := .later }
def LitanyExactCardSaid : Prop := Claim7.holds Tryd.pinned (.plain (OpenSpec.ofChange litanyExactSpec)) litanyExactCard

/-- THE TIED CARD OF 'sextonlaw09.LitanyGood'. -/
def litanyGoodCard : Claim7 := { stood := { row := litanyGoodRow, standIns := [], harness := (true, "d54f30b35e516699d7168268d977fe3a90be3f26a3ef736e51c3fb034430a1c8"), looks := false }, kinds := [], alts := [], laidByText := true, laidKinds := [.sentinel], laidTests := true, laidLooks := .later }
def LitanyGoodCardSaid : Prop := Claim7.holds Tryd.pinned (.plain (OpenSpec.ofChange litanyGoodSpec)) litanyGoodCard

/-- THE SECOND FORM's CARD OF 'sextonlaw09.LitanyExact'. -/
def litanyExactUptoCard : Claim7 := { stood := { row := litanyExactUptoRow, standIns := [], harness := (true, "d54f30b35e516699d7168268d977fe3a90be3f26a3ef736e51c3fb034430a1c8"), looks := false }, kinds := [], alts := [], laidByText := true, laidKinds := [.sentinel], laidTests := true, laidLooks := .later }
def LitanyExactUptoCardSaid : Prop := Claim7.holds Tryd.pinned (.plain (OpenSpec.upto litanyExactSpec)) litanyExactUptoCard

/-- THE SECOND FORM's CARD OF 'sextonlaw09.LitanyGood'. -/
def litanyGoodUptoCard : Claim7 := { stood := { row := litanyGoodUptoRow, standIns := [], harness := (true, "d54f30b35e516699d7168268d977fe3a90be3f26a3ef736e51c3fb034430a1c8"), looks := false }, kinds := [], alts := [], laidByText := true, laidKinds := [.sentinel], laidTests := true, laidLooks := .later }
def LitanyGoodUptoCardSaid : Prop := Claim7.holds Tryd.pinned (.plain (OpenSpec.upto litanyGoodSpec)) litanyGoodUptoCard
end Rows
end Go.Proofs.YtmaolegmdhnpeaaDoor
