/-
  NARROWER THAN 'FOR EVERY INPUT', by the rows' own cells (each row's printed sentence says how): VaultPlaces: laid · VaultTurns: laid.
  DERIVED. THE GIVEN ROWS OF THIS SEAT. 2 by the template 'for every input the law returns true; each argument reads behind the call as it read before'; 0 by the template 'total and deterministic' (their statements: YtambonphnojcpaaDoorTotals.lean).
  GIVEN WITH THE SEED: the statements are not yours to turn. If you find one false, say at which input.
  Laid BY PROGRAM, IN A SANDBOX (cutbox-rows.mjs): the forced cells as the released guide's own fill.sh prints them over the translation 4b32e7c2d53ed2ea… (all of the seat's roots in one cut). By AI agents, Wed Nov 11 2026. No macro, syntax, notation, axiom, sorry.
-/
import Derived.Test.YtambonphnojcpaaDoorChecked
import GoSem.Claim
import GoSem.ClaimJoined
import GoSem.ClaimMapViews
import Derived.JoinedTies
import Derived.KernelRfl
namespace Go.Proofs.YtambonphnojcpaaDoor
/- THE CELL 'sum', in the pinned program and in every row, IS THE sha256 OF THE DUMP (.gsa) THAT YtambonphnojcpaaDoorProg.lean LOADS. Nothing in Lean hashes anything: it is a label: what it is worth is what the hold of that sum in a sandbox is worth. -/
noncomputable def Tryd.pinned : Pinned := { name := "ytambonphnojcpaadoor", sum := "4b32e7c2d53ed2ea104a11416abcb7e79062d0b2da217bb48a2e55bc1997c7f2", checked := Tryd.checked }
namespace Rows
def none {H : Type} : Left H := { results := [], args := [] }

/- WHAT THE LISTED PACKAGE-LEVEL VARIABLES READ AS WHEN THE CALL BEGINS. Each datum BY PROGRAM (the guide's laid-datum.mjs) off the statement by which the dump's own 'gosem.cut.vars' lays the variable. In a bare row this is a premise. The card (YtambonphnojcpaaDoorCards.lean) ties it to the program's text. -/
def laid_sexton_api_ErrArg {H : Type} : DataW H := .iface "*errors.errorString" (.ptr (.agg [.lit (.string [97, 110, 32, 97, 114, 103, 117, 109, 101, 110, 116, 32, 116, 104, 97, 116, 32, 99, 97, 110, 39, 116, 32, 98, 101])]))

/-- 'sextonlaw10.VaultPlaces': WHATEVER THE INPUT: true; the input reads as it did. -/
def vaultPlacesSpec : ChangeSpec := { name := "vaultPlaces", fn := fun _ => fun
  | [d] => { results := [.lit (.bool true)], args := [d] }
  | _ => none }
def vaultPlacesRow : OpenClaim := { program := "ytambonphnojcpaadoor", sum := "4b32e7c2d53ed2ea104a11416abcb7e79062d0b2da217bb48a2e55bc1997c7f2", func := "sexton/sextonlaw10.VaultPlaces", spec := "vaultPlaces", inPlace := ["internal/reflectlite.TypeOf"], unfollowed := true, recurses := true, named := ["sexton/api.ErrArg"], apart := false, laid := [("sexton/api.ErrArg", laid_sexton_api_ErrArg)] }
def VaultPlacesSaid : Prop := vaultPlacesRow.holds Tryd.pinned (OpenSpec.ofChange vaultPlacesSpec)

/-- ITS FALSE NEIGHBOUR: 'it returns false'. Refute it at one input. -/
def vaultPlacesWrong : ChangeSpec := { name := "vaultPlaces", fn := fun _ => fun
  | [d] => { results := [.lit (.bool false)], args := [d] }
  | _ => none }
def VaultPlacesWrongFalsely : Prop := vaultPlacesRow.holds Tryd.pinned (OpenSpec.ofChange vaultPlacesWrong)

/-- 'sextonlaw10.VaultTurns': WHATEVER THE INPUT: true; the input reads as it did. -/
def vaultTurnsSpec : ChangeSpec := { name := "vaultTurns", fn := fun _ => fun
  | [d1, d2] => { results := [.lit (.bool true)], args := [d1, d2] }
  | _ => none }
def vaultTurnsRow : OpenClaim := { program := "ytambonphnojcpaadoor", sum := "4b32e7c2d53ed2ea104a11416abcb7e79062d0b2da217bb48a2e55bc1997c7f2", func := "sexton/sextonlaw10.VaultTurns", spec := "vaultTurns", inPlace := ["internal/reflectlite.TypeOf"], unfollowed := true, recurses := true, named := ["sexton/api.ErrArg"], apart := false, laid := [("sexton/api.ErrArg", laid_sexton_api_ErrArg)] }
def VaultTurnsSaid : Prop := vaultTurnsRow.holds Tryd.pinned (OpenSpec.ofChange vaultTurnsSpec)

/-- ITS FALSE NEIGHBOUR: 'it returns false'. Refute it at one input. -/
def vaultTurnsWrong : ChangeSpec := { name := "vaultTurns", fn := fun _ => fun
  | [d1, d2] => { results := [.lit (.bool false)], args := [d1, d2] }
  | _ => none }
def VaultTurnsWrongFalsely : Prop := vaultTurnsRow.holds Tryd.pinned (OpenSpec.ofChange vaultTurnsWrong)

/- THE SECOND FORM. 'bulk': how many values and letters a reading holds, each counted each time it is reached (what is shared counts as often as it is met; a slice's spare places count too). A statement '..UptoSaid' is the law's where the arguments, and the package variables that the reading takes, are together of bulk at most 1048576: NARROWER than '..Said'. Prove '..Said' where nothing that the law and all that it calls make is longer than what came in: it says more and counts as full. Else prove '..UptoSaid'. A law counts once. -/
mutual
def uptoBulk {H : Type} : DataW H → Nat
  | .lit (.string bytes) => bytes.length + 1
  | .lit _ => 1
  | .nil => 1
  | .ptr d => uptoBulk d + 1
  | .slice elems spare => uptoBulkAll elems + uptoBulkAll spare + 1
  | .agg parts => uptoBulkAll parts + 1
  | .iface _ d => uptoBulk d + 1
  | .map entries => uptoBulkEntries entries + 1
  | .held _ => 1
def uptoBulkAll {H : Type} : List (DataW H) → Nat
  | [] => 0
  | d :: r => uptoBulk d + uptoBulkAll r
def uptoBulkEntries {H : Type} : List (Lit × DataW H) → Nat
  | [] => 0
  | x :: r => uptoBulkEntry x + uptoBulkEntries r
def uptoBulkEntry {H : Type} : Lit × DataW H → Nat
  | (.string bytes, d) => bytes.length + uptoBulk d + 1
  | (_, d) => uptoBulk d + 1
 end
def uptoSmall : (H : Type) → List (DataW H) → Bool := fun _ ds => decide (uptoBulkAll ds ≤ 1048576)
def OpenSpec.upto (s : _root_.Go.ChangeSpec) : _root_.Go.OpenSpec := { _root_.Go.OpenSpec.ofChange s with cond := some uptoSmall }

/-- 'sextonlaw10.VaultPlaces', WHERE WHAT IT READS IS OF BULK AT MOST 1048576: true; the input reads as it did. -/
def vaultPlacesUptoRow : OpenClaim := { program := "ytambonphnojcpaadoor", sum := "4b32e7c2d53ed2ea104a11416abcb7e79062d0b2da217bb48a2e55bc1997c7f2", func := "sexton/sextonlaw10.VaultPlaces", spec := "vaultPlaces", inPlace := ["internal/reflectlite.TypeOf"], unfollowed := true, recurses := true, named := ["sexton/api.ErrArg"], apart := false, laid := [("sexton/api.ErrArg", laid_sexton_api_ErrArg)], narrowed := true }
def VaultPlacesUptoSaid : Prop := vaultPlacesUptoRow.holds Tryd.pinned (OpenSpec.upto vaultPlacesSpec)

/-- 'sextonlaw10.VaultTurns', WHERE WHAT IT READS IS OF BULK AT MOST 1048576: true; the input reads as it did. -/
def vaultTurnsUptoRow : OpenClaim := { program := "ytambonphnojcpaadoor", sum := "4b32e7c2d53ed2ea104a11416abcb7e79062d0b2da217bb48a2e55bc1997c7f2", func := "sexton/sextonlaw10.VaultTurns", spec := "vaultTurns", inPlace := ["internal/reflectlite.TypeOf"], unfollowed := true, recurses := true, named := ["sexton/api.ErrArg"], apart := false, laid := [("sexton/api.ErrArg", laid_sexton_api_ErrArg)], narrowed := true }
def VaultTurnsUptoSaid : Prop := vaultTurnsUptoRow.holds Tryd.pinned (OpenSpec.upto vaultTurnsSpec)

end Rows
end Go.Proofs.YtambonphnojcpaaDoor
