/-
  NARROWER THAN 'FOR EVERY INPUT', by the rows' own cells (each row's printed sentence says how): ParishRefused: laid · ParishBeats: laid.
  DERIVED. THE GIVEN ROWS OF THIS SEAT. 2 by the template 'for every input the law returns true; each argument reads behind the call as it read before'; 0 by the template 'total and deterministic' (their statements: YtcpdipfepeccgaaGreatDoorTotals.lean).
  GIVEN WITH THE SEED: the statements are not yours to turn. If you find one false, say at which input.
  Laid BY PROGRAM, IN A SANDBOX (cutbox-rows.mjs): the forced cells as the released guide's own fill.sh prints them over the translation de661a238e7a628a… (all of the seat's roots in one cut). By AI agents, Wed Nov 11 2026. No macro, syntax, notation, axiom, sorry.
-/
import Derived.Test.YtcpdipfepeccgaaGreatDoorChecked
import GoSem.Claim
import GoSem.ClaimJoined
import GoSem.ClaimMapViews
import Derived.JoinedTies
import Derived.KernelRfl
namespace Go.Proofs.YtcpdipfepeccgaaGreatDoor
/- THE CELL 'sum', in the pinned program and in every row, IS THE sha256 OF THE DUMP (.gsa) THAT YtcpdipfepeccgaaGreatDoorProg.lean LOADS. Nothing in Lean hashes anything: it is a label: what it is worth is what the hold of that sum in a sandbox is worth. -/
noncomputable def Tryz.pinned : Pinned := { name := "ytcpdipfepeccgaagreatdoor", sum := "de661a238e7a628a259584bd716e1ed7fd703ebbeffc2aee6b628ebc1d09bb53", checked := Tryz.checked }
namespace Rows
def none {H : Type} : Left H := { results := [], args := [] }

/- WHAT THE LISTED PACKAGE-LEVEL VARIABLES READ AS WHEN THE CALL BEGINS. Each datum BY PROGRAM (the guide's laid-datum.mjs) off the statement by which the dump's own 'gosem.cut.vars' lays the variable. In a bare row this is a premise. The card (YtcpdipfepeccgaaGreatDoorCards.lean) ties it to the program's text. -/
def laid_sexton_api_ErrArg {H : Type} : DataW H := .iface "*errors.errorString" (.ptr (.agg [.lit (.string [97, 110, 32, 97, 114, 103, 117, 109, 101, 110, 116, 32, 116, 104, 97, 116, 32, 99, 97, 110, 39, 116, 32, 98, 101])]))
def laid_sexton_api_ErrNil {H : Type} : DataW H := .iface "*errors.errorString" (.ptr (.agg [.lit (.string [97, 32, 110, 105, 108, 32, 116, 104, 105, 110, 103])]))
def laid_sexton_api_ErrFull {H : Type} : DataW H := .iface "*errors.errorString" (.ptr (.agg [.lit (.string [110, 111, 32, 114, 111, 111, 109])]))
def laid_sexton_api_ErrState {H : Type} : DataW H := .iface "*errors.errorString" (.ptr (.agg [.lit (.string [110, 111, 116, 32, 110, 111, 119])]))
def laid_sexton_api_ErrFreed {H : Type} : DataW H := .iface "*errors.errorString" (.ptr (.agg [.lit (.string [97, 32, 115, 108, 111, 116, 32, 116, 104, 97, 116, 32, 105, 115, 32, 102, 114, 101, 101])]))
def laid_sexton_api_ErrStale {H : Type} : DataW H := .iface "*errors.errorString" (.ptr (.agg [.lit (.string [97, 32, 115, 108, 111, 116, 32, 116, 104, 97, 116, 32, 105, 115, 32, 97, 110, 111, 116, 104, 101, 114, 32, 111, 110, 101, 32, 110, 111, 119])]))
def laid_sexton_api_ErrTwice {H : Type} : DataW H := .iface "*errors.errorString" (.ptr (.agg [.lit (.string [100, 111, 110, 101, 32, 97, 108, 114, 101, 97, 100, 121])]))
def laid_sexton_api_ErrLeft {H : Type} : DataW H := .iface "*errors.errorString" (.ptr (.agg [.lit (.string [97, 32, 102, 114, 101, 101, 32, 115, 108, 111, 116, 32, 116, 104, 97, 116, 32, 99, 97, 110, 32, 98, 101, 32, 114, 101, 97, 99, 104, 101, 100])]))

/-- 'sextonlaw14.ParishRefused': WHATEVER THE INPUT: true; the input reads as it did. -/
def parishRefusedSpec : ChangeSpec := { name := "parishRefused", fn := fun _ => fun
  | [d1, d2, d3] => { results := [.lit (.bool true)], args := [d1, d2, d3] }
  | _ => none }
def parishRefusedRow : OpenClaim := { program := "ytcpdipfepeccgaagreatdoor", sum := "de661a238e7a628a259584bd716e1ed7fd703ebbeffc2aee6b628ebc1d09bb53", func := "sexton/sextonlaw14.ParishRefused", spec := "parishRefused", inPlace := ["internal/reflectlite.TypeOf"], unfollowed := true, recurses := true, named := ["sexton/api.ErrState", "sexton/api.ErrArg", "sexton/api.ErrNil", "sexton/api.ErrTwice", "sexton/api.ErrFreed", "sexton/api.ErrStale", "sexton/api.ErrFull", "sexton/api.ErrLeft"], apart := false, laid := [("sexton/api.ErrArg", laid_sexton_api_ErrArg), ("sexton/api.ErrNil", laid_sexton_api_ErrNil), ("sexton/api.ErrFull", laid_sexton_api_ErrFull), ("sexton/api.ErrState", laid_sexton_api_ErrState), ("sexton/api.ErrFreed", laid_sexton_api_ErrFreed), ("sexton/api.ErrStale", laid_sexton_api_ErrStale), ("sexton/api.ErrTwice", laid_sexton_api_ErrTwice), ("sexton/api.ErrLeft", laid_sexton_api_ErrLeft)] }
def ParishRefusedSaid : Prop := parishRefusedRow.holds Tryz.pinned (OpenSpec.ofChange parishRefusedSpec)

/-- ITS FALSE NEIGHBOUR: 'it returns false'. Refute it at one input. -/
def parishRefusedWrong : ChangeSpec := { name := "parishRefused", fn := fun _ => fun
  | [d1, d2, d3] => { results := [.lit (.bool false)], args := [d1, d2, d3] }
  | _ => none }
def ParishRefusedWrongFalsely : Prop := parishRefusedRow.holds Tryz.pinned (OpenSpec.ofChange parishRefusedWrong)

/-- 'sextonlaw14.ParishBeats': WHATEVER THE INPUT: true; the input reads as it did. -/
def parishBeatsSpec : ChangeSpec := { name := "parishBeats", fn := fun _ => fun
  | [d1, d2, d3] => { results := [.lit (.bool true)], args := [d1, d2, d3] }
  | _ => none }
def parishBeatsRow : OpenClaim := { program := "ytcpdipfepeccgaagreatdoor", sum := "de661a238e7a628a259584bd716e1ed7fd703ebbeffc2aee6b628ebc1d09bb53", func := "sexton/sextonlaw14.ParishBeats", spec := "parishBeats", inPlace := ["internal/reflectlite.TypeOf"], unfollowed := true, recurses := true, named := ["sexton/api.ErrState", "sexton/api.ErrArg", "sexton/api.ErrNil", "sexton/api.ErrTwice", "sexton/api.ErrFreed", "sexton/api.ErrStale", "sexton/api.ErrFull", "sexton/api.ErrLeft"], apart := false, laid := [("sexton/api.ErrArg", laid_sexton_api_ErrArg), ("sexton/api.ErrNil", laid_sexton_api_ErrNil), ("sexton/api.ErrFull", laid_sexton_api_ErrFull), ("sexton/api.ErrState", laid_sexton_api_ErrState), ("sexton/api.ErrFreed", laid_sexton_api_ErrFreed), ("sexton/api.ErrStale", laid_sexton_api_ErrStale), ("sexton/api.ErrTwice", laid_sexton_api_ErrTwice), ("sexton/api.ErrLeft", laid_sexton_api_ErrLeft)] }
def ParishBeatsSaid : Prop := parishBeatsRow.holds Tryz.pinned (OpenSpec.ofChange parishBeatsSpec)

/-- ITS FALSE NEIGHBOUR: 'it returns false'. Refute it at one input. -/
def parishBeatsWrong : ChangeSpec := { name := "parishBeats", fn := fun _ => fun
  | [d1, d2, d3] => { results := [.lit (.bool false)], args := [d1, d2, d3] }
  | _ => none }
def ParishBeatsWrongFalsely : Prop := parishBeatsRow.holds Tryz.pinned (OpenSpec.ofChange parishBeatsWrong)

/- THE SECOND FORM. 'bulk': how many values and letters a reading holds, each counted each time it is reached (what is shared counts as often as it is met; a slice's spare places count too). A statement '..UptoSaid' is the law's where the arguments, and the package variables that the reading takes, are together of bulk at most 1048576: NARROWER than '..Said'. Prove '..Said' where nothing that the law and all that it calls make is longer than what came in: it says more and counts as full. Else prove '..UptoSaid'. A law counts once. -/
mutual
def uptoBulk {H : Type} : DataW H → Nat
  | .lit (.string bytes) => bytes.length + 1
  | .lit _ => 1
  | .nil => 1
  | .ptr d => uptoBulk d + 1
  | .slice elems spare => uptoBulkAll elems + uptoBulkAll spare + 1
  | .agg parts => uptoBulkAll parts + 1
  | .iface _ d => uptoBulk d + 1
  | .map entries => uptoBulkEntries entries + 1
  | .held _ => 1
def uptoBulkAll {H : Type} : List (DataW H) → Nat
  | [] => 0
  | d :: r => uptoBulk d + uptoBulkAll r
def uptoBulkEntries {H : Type} : List (Lit × DataW H) → Nat
  | [] => 0
  | x :: r => uptoBulkEntry x + uptoBulkEntries r
def uptoBulkEntry {H : Type} : Lit × DataW H → Nat
  | (.string bytes, d) => bytes.length + uptoBulk d + 1
  | (_, d) => uptoBulk d + 1
 end
def uptoSmall : (H : Type) → List (DataW H) → Bool := fun _ ds => decide (uptoBulkAll ds ≤ 1048576)
def OpenSpec.upto (s : _root_.Go.ChangeSpec) : _root_.Go.OpenSpec := { _root_.Go.OpenSpec.ofChange s with cond := some uptoSmall }

/-- 'sextonlaw14.ParishRefused', WHERE WHAT IT READS IS OF BULK AT MOST 1048576: true; the input reads as it did. -/
def parishRefusedUptoRow : OpenClaim := { program := "ytcpdipfepeccgaagreatdoor", sum := "de661a238e7a628a259584bd716e1ed7fd703ebbeffc2aee6b628ebc1d09bb53", func := "sexton/sextonlaw14.ParishRefused", spec := "parishRefused", inPlace := ["internal/reflectlite.TypeOf"], unfollowed := true, recurses := true, named := ["sexton/api.ErrState", "sexton/api.ErrArg", "sexton/api.ErrNil", "sexton/api.ErrTwice", "sexton/api.ErrFreed", "sexton/api.ErrStale", "sexton/api.ErrFull", "sexton/api.ErrLeft"], apart := false, laid := [("sexton/api.ErrArg", laid_sexton_api_ErrArg), ("sexton/api.ErrNil", laid_sexton_api_ErrNil), ("sexton/api.ErrFull", laid_sexton_api_ErrFull), ("sexton/api.ErrState", laid_sexton_api_ErrState), ("sexton/api.ErrFreed", laid_sexton_api_ErrFreed), ("sexton/api.ErrStale", laid_sexton_api_ErrStale), ("sexton/api.ErrTwice", laid_sexton_api_ErrTwice), ("sexton/api.ErrLeft", laid_sexton_api_ErrLeft)], narrowed := true }
def ParishRefusedUptoSaid : Prop := parishRefusedUptoRow.holds Tryz.pinned (OpenSpec.upto parishRefusedSpec)

/-- 'sextonlaw14.ParishBeats', WHERE WHAT IT READS IS OF BULK AT MOST 1048576: true; the input reads as it did. -/
def parishBeatsUptoRow : OpenClaim := { program := "ytcpdipfepeccgaagreatdoor", sum := "de661a238e7a628a259584bd716e1ed7fd703ebbeffc2aee6b628ebc1d09bb53", func := "sexton/sextonlaw14.ParishBeats", spec := "parishBeats", inPlace := ["internal/reflectlite.TypeOf"], unfollowed := true, recurses := true, named := ["sexton/api.ErrState", "sexton/api.ErrArg", "sexton/api.ErrNil", "sexton/api.ErrTwice", "sexton/api.ErrFreed", "sexton/api.ErrStale", "sexton/api.ErrFull", "sexton/api.ErrLeft"], apart := false, laid := [("sexton/api.ErrArg", laid_sexton_api_ErrArg), ("sexton/api.ErrNil", laid_sexton_api_ErrNil), ("sexton/api.ErrFull", laid_sexton_api_ErrFull), ("sexton/api.ErrState", laid_sexton_api_ErrState), ("sexton/api.ErrFreed", laid_sexton_api_ErrFreed), ("sexton/api.ErrStale", laid_sexton_api_ErrStale), ("sexton/api.ErrTwice", laid_sexton_api_ErrTwice), ("sexton/api.ErrLeft", laid_sexton_api_ErrLeft)], narrowed := true }
def ParishBeatsUptoSaid : Prop := parishBeatsUptoRow.holds Tryz.pinned (OpenSpec.upto parishBeatsSpec)

end Rows
end Go.Proofs.YtcpdipfepeccgaaGreatDoor
