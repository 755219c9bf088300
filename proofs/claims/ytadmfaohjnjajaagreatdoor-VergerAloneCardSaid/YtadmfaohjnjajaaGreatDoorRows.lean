/-
  NARROWER THAN 'FOR EVERY INPUT', by the rows' own cells (each row's printed sentence says how): VergerNever: laid · VergerSteps: laid · VergerAlone: laid.
  DERIVED. THE GIVEN ROWS OF THIS SEAT. 3 by the template 'for every input the law returns true; each argument reads behind the call as it read before'; 0 by the template 'total and deterministic' (their statements: YtadmfaohjnjajaaGreatDoorTotals.lean).
  GIVEN WITH THE SEED: the statements are not yours to turn. If you find one false, say at which input.
  Laid BY PROGRAM, IN A SANDBOX (cutbox-rows.mjs): the forced cells as the released guide's own fill.sh prints them over the translation bd33ace0f4a77d16… (all of the seat's roots in one cut). By AI agents, Wed Nov 11 2026. No macro, syntax, notation, axiom, sorry.
-/
import Derived.Test.YtadmfaohjnjajaaGreatDoorChecked
import GoSem.Claim
import GoSem.ClaimJoined
import GoSem.ClaimMapViews
import Derived.JoinedTies
import Derived.KernelRfl
namespace Go.Proofs.YtadmfaohjnjajaaGreatDoor
/- THE CELL 'sum', in the pinned program and in every row, IS THE sha256 OF THE DUMP (.gsa) THAT YtadmfaohjnjajaaGreatDoorProg.lean LOADS. Nothing in Lean hashes anything: it is a label: what it is worth is what the hold of that sum in a sandbox is worth. -/
noncomputable def Tryz.pinned : Pinned := { name := "ytadmfaohjnjajaagreatdoor", sum := "bd33ace0f4a77d16571fbc031eda2d95ecad1a061de21cef10c3ef63e46717ff", checked := Tryz.checked }
namespace Rows
def none {H : Type} : Left H := { results := [], args := [] }

/- WHAT THE LISTED PACKAGE-LEVEL VARIABLES READ AS WHEN THE CALL BEGINS. Each datum BY PROGRAM (the guide's laid-datum.mjs) off the statement by which the dump's own 'gosem.cut.vars' lays the variable. In a bare row this is a premise. The card (YtadmfaohjnjajaaGreatDoorCards.lean) ties it to the program's text. -/
def laid_sexton_api_ErrArg {H : Type} : DataW H := .iface "*errors.errorString" (.ptr (.agg [.lit (.string [97, 110, 32, 97, 114, 103, 117, 109, 101, 110, 116, 32, 116, 104, 97, 116, 32, 99, 97, 110, 39, 116, 32, 98, 101])]))
def laid_sexton_api_ErrNil {H : Type} : DataW H := .iface "*errors.errorString" (.ptr (.agg [.lit (.string [97, 32, 110, 105, 108, 32, 116, 104, 105, 110, 103])]))
def laid_sexton_api_ErrFull {H : Type} : DataW H := .iface "*errors.errorString" (.ptr (.agg [.lit (.string [110, 111, 32, 114, 111, 111, 109])]))
def laid_sexton_api_ErrState {H : Type} : DataW H := .iface "*errors.errorString" (.ptr (.agg [.lit (.string [110, 111, 116, 32, 110, 111, 119])]))
def laid_sexton_api_ErrFreed {H : Type} : DataW H := .iface "*errors.errorString" (.ptr (.agg [.lit (.string [97, 32, 115, 108, 111, 116, 32, 116, 104, 97, 116, 32, 105, 115, 32, 102, 114, 101, 101])]))
def laid_sexton_api_ErrStale {H : Type} : DataW H := .iface "*errors.errorString" (.ptr (.agg [.lit (.string [97, 32, 115, 108, 111, 116, 32, 116, 104, 97, 116, 32, 105, 115, 32, 97, 110, 111, 116, 104, 101, 114, 32, 111, 110, 101, 32, 110, 111, 119])]))
def laid_sexton_api_ErrTwice {H : Type} : DataW H := .iface "*errors.errorString" (.ptr (.agg [.lit (.string [100, 111, 110, 101, 32, 97, 108, 114, 101, 97, 100, 121])]))

/-- 'sextonlaw13.VergerNever': WHATEVER THE INPUT: true; the input reads as it did. -/
def vergerNeverSpec : ChangeSpec := { name := "vergerNever", fn := fun _ => fun
  | [d1, d2] => { results := [.lit (.bool true)], args := [d1, d2] }
  | _ => none }
def vergerNeverRow : OpenClaim := { program := "ytadmfaohjnjajaagreatdoor", sum := "bd33ace0f4a77d16571fbc031eda2d95ecad1a061de21cef10c3ef63e46717ff", func := "sexton/sextonlaw13.VergerNever", spec := "vergerNever", inPlace := ["internal/reflectlite.TypeOf"], unfollowed := true, recurses := true, named := ["sexton/api.ErrState", "sexton/api.ErrArg", "sexton/api.ErrNil", "sexton/api.ErrTwice", "sexton/api.ErrFreed", "sexton/api.ErrStale", "sexton/api.ErrFull"], apart := false, laid := [("sexton/api.ErrArg", laid_sexton_api_ErrArg), ("sexton/api.ErrNil", laid_sexton_api_ErrNil), ("sexton/api.ErrFull", laid_sexton_api_ErrFull), ("sexton/api.ErrState", laid_sexton_api_ErrState), ("sexton/api.ErrFreed", laid_sexton_api_ErrFreed), ("sexton/api.ErrStale", laid_sexton_api_ErrStale), ("sexton/api.ErrTwice", laid_sexton_api_ErrTwice)] }
def VergerNeverSaid : Prop := vergerNeverRow.holds Tryz.pinned (OpenSpec.ofChange vergerNeverSpec)

/-- ITS FALSE NEIGHBOUR: 'it returns false'. Refute it at one input. -/
def vergerNeverWrong : ChangeSpec := { name := "vergerNever", fn := fun _ => fun
  | [d1, d2] => { results := [.lit (.bool false)], args := [d1, d2] }
  | _ => none }
def VergerNeverWrongFalsely : Prop := vergerNeverRow.holds Tryz.pinned (OpenSpec.ofChange vergerNeverWrong)

/-- 'sextonlaw13.VergerSteps': WHATEVER THE INPUT: true; the input reads as it did. -/
def vergerStepsSpec : ChangeSpec := { name := "vergerSteps", fn := fun _ => fun
  | [d1, d2] => { results := [.lit (.bool true)], args := [d1, d2] }
  | _ => none }
def vergerStepsRow : OpenClaim := { program := "ytadmfaohjnjajaagreatdoor", sum := "bd33ace0f4a77d16571fbc031eda2d95ecad1a061de21cef10c3ef63e46717ff", func := "sexton/sextonlaw13.VergerSteps", spec := "vergerSteps", inPlace := ["internal/reflectlite.TypeOf"], unfollowed := true, recurses := true, named := ["sexton/api.ErrState", "sexton/api.ErrArg", "sexton/api.ErrNil", "sexton/api.ErrTwice", "sexton/api.ErrFreed", "sexton/api.ErrStale", "sexton/api.ErrFull"], apart := false, laid := [("sexton/api.ErrArg", laid_sexton_api_ErrArg), ("sexton/api.ErrNil", laid_sexton_api_ErrNil), ("sexton/api.ErrFull", laid_sexton_api_ErrFull), ("sexton/api.ErrState", laid_sexton_api_ErrState), ("sexton/api.ErrFreed", laid_sexton_api_ErrFreed), ("sexton/api.ErrStale", laid_sexton_api_ErrStale), ("sexton/api.ErrTwice", laid_sexton_api_ErrTwice)] }
def VergerStepsSaid : Prop := vergerStepsRow.holds Tryz.pinned (OpenSpec.ofChange vergerStepsSpec)

/-- ITS FALSE NEIGHBOUR: 'it returns false'. Refute it at one input. -/
def vergerStepsWrong : ChangeSpec := { name := "vergerSteps", fn := fun _ => fun
  | [d1, d2] => { results := [.lit (.bool false)], args := [d1, d2] }
  | _ => none }
def VergerStepsWrongFalsely : Prop := vergerStepsRow.holds Tryz.pinned (OpenSpec.ofChange vergerStepsWrong)

/-- 'sextonlaw13.VergerAlone': WHATEVER THE INPUT: true; the input reads as it did. -/
def vergerAloneSpec : ChangeSpec := { name := "vergerAlone", fn := fun _ => fun
  | [d1, d2] => { results := [.lit (.bool true)], args := [d1, d2] }
  | _ => none }
def vergerAloneRow : OpenClaim := { program := "ytadmfaohjnjajaagreatdoor", sum := "bd33ace0f4a77d16571fbc031eda2d95ecad1a061de21cef10c3ef63e46717ff", func := "sexton/sextonlaw13.VergerAlone", spec := "vergerAlone", inPlace := ["internal/reflectlite.TypeOf", "slices.overlaps[sexton/api.Pair]"], unfollowed := true, recurses := true, named := ["sexton/api.ErrArg", "sexton/api.ErrState", "sexton/api.ErrNil", "sexton/api.ErrTwice", "sexton/api.ErrFreed", "sexton/api.ErrStale", "sexton/api.ErrFull"], apart := false, laid := [("sexton/api.ErrArg", laid_sexton_api_ErrArg), ("sexton/api.ErrNil", laid_sexton_api_ErrNil), ("sexton/api.ErrFull", laid_sexton_api_ErrFull), ("sexton/api.ErrState", laid_sexton_api_ErrState), ("sexton/api.ErrFreed", laid_sexton_api_ErrFreed), ("sexton/api.ErrStale", laid_sexton_api_ErrStale), ("sexton/api.ErrTwice", laid_sexton_api_ErrTwice)] }
def VergerAloneSaid : Prop := vergerAloneRow.holds Tryz.pinned (OpenSpec.ofChange vergerAloneSpec)

/-- ITS FALSE NEIGHBOUR: 'it returns false'. Refute it at one input. -/
def vergerAloneWrong : ChangeSpec := { name := "vergerAlone", fn := fun _ => fun
  | [d1, d2] => { results := [.lit (.bool false)], args := [d1, d2] }
  | _ => none }
def VergerAloneWrongFalsely : Prop := vergerAloneRow.holds Tryz.pinned (OpenSpec.ofChange vergerAloneWrong)

/- THE SECOND FORM. 'bulk': how many values and letters a reading holds, each counted each time it is reached (what is shared counts as often as it is met; a slice's spare places count too). A statement '..UptoSaid' is the law's where the arguments, and the package variables that the reading takes, are together of bulk at most 1048576: NARROWER than '..Said'. Prove '..Said' where nothing that the law and all that it calls make is longer than what came in: it says more and counts as full. Else prove '..UptoSaid'. A law counts once. -/
mutual
def uptoBulk {H : Type} : DataW H → Nat
  | .lit (.string bytes) => bytes.length + 1
  | .lit _ => 1
  | .nil => 1
  | .ptr d => uptoBulk d + 1
  | .slice elems spare => uptoBulkAll elems + uptoBulkAll spare + 1
  | .agg parts => uptoBulkAll parts + 1
  | .iface _ d => uptoBulk d + 1
  | .map entries => uptoBulkEntries entries + 1
  | .held _ => 1
def uptoBulkAll {H : Type} : List (DataW H) → Nat
  | [] => 0
  | d :: r => uptoBulk d + uptoBulkAll r
def uptoBulkEntries {H : Type} : List (Lit × DataW H) → Nat
  | [] => 0
  | x :: r => uptoBulkEntry x + uptoBulkEntries r
def uptoBulkEntry {H : Type} : Lit × DataW H → Nat
  | (.string bytes, d) => bytes.length + uptoBulk d + 1
  | (_, d) => uptoBulk d + 1
 end
def uptoSmall : (H : Type) → List (DataW H) → Bool := fun _ ds => decide (uptoBulkAll ds ≤ 1048576)
def OpenSpec.upto (s : _root_.Go.ChangeSpec) : _root_.Go.OpenSpec := { _root_.Go.OpenSpec.ofChange s with cond := some uptoSmall }

/-- 'sextonlaw13.VergerNever', WHERE WHAT IT READS IS OF BULK AT MOST 1048576: true; the input reads as it did. -/
def vergerNeverUptoRow : OpenClaim := { program := "ytadmfaohjnjajaagreatdoor", sum := "bd33ace0f4a77d16571fbc031eda2d95ecad1a061de21cef10c3ef63e46717ff", func := "sexton/sextonlaw13.VergerNever", spec := "vergerNever", inPlace := ["internal/reflectlite.TypeOf"], unfollowed := true, recurses := true, named := ["sexton/api.ErrState", "sexton/api.ErrArg", "sexton/api.ErrNil", "sexton/api.ErrTwice", "sexton/api.ErrFreed", "sexton/api.ErrStale", "sexton/api.ErrFull"], apart := false, laid := [("sexton/api.ErrArg", laid_sexton_api_ErrArg), ("sexton/api.ErrNil", laid_sexton_api_ErrNil), ("sexton/api.ErrFull", laid_sexton_api_ErrFull), ("sexton/api.ErrState", laid_sexton_api_ErrState), ("sexton/api.ErrFreed", laid_sexton_api_ErrFreed), ("sexton/api.ErrStale", laid_sexton_api_ErrStale), ("sexton/api.ErrTwice", laid_sexton_api_ErrTwice)], narrowed := true }
def VergerNeverUptoSaid : Prop := vergerNeverUptoRow.holds Tryz.pinned (OpenSpec.upto vergerNeverSpec)

/-- 'sextonlaw13.VergerSteps', WHERE WHAT IT READS IS OF BULK AT MOST 1048576: true; the input reads as it did. -/
def vergerStepsUptoRow : OpenClaim := { program := "ytadmfaohjnjajaagreatdoor", sum := "bd33ace0f4a77d16571fbc031eda2d95ecad1a061de21cef10c3ef63e46717ff", func := "sexton/sextonlaw13.VergerSteps", spec := "vergerSteps", inPlace := ["internal/reflectlite.TypeOf"], unfollowed := true, recurses := true, named := ["sexton/api.ErrState", "sexton/api.ErrArg", "sexton/api.ErrNil", "sexton/api.ErrTwice", "sexton/api.ErrFreed", "sexton/api.ErrStale", "sexton/api.ErrFull"], apart := false, laid := [("sexton/api.ErrArg", laid_sexton_api_ErrArg), ("sexton/api.ErrNil", laid_sexton_api_ErrNil), ("sexton/api.ErrFull", laid_sexton_api_ErrFull), ("sexton/api.ErrState", laid_sexton_api_ErrState), ("sexton/api.ErrFreed", laid_sexton_api_ErrFreed), ("sexton/api.ErrStale", laid_sexton_api_ErrStale), ("sexton/api.ErrTwice", laid_sexton_api_ErrTwice)], narrowed := true }
def VergerStepsUptoSaid : Prop := vergerStepsUptoRow.holds Tryz.pinned (OpenSpec.upto vergerStepsSpec)

/-- 'sextonlaw13.VergerAlone', WHERE WHAT IT READS IS OF BULK AT MOST 1048576: true; the input reads as it did. -/
def vergerAloneUptoRow : OpenClaim := { program := "ytadmfaohjnjajaagreatdoor", sum := "bd33ace0f4a77d16571fbc031eda2d95ecad1a061de21cef10c3ef63e46717ff", func := "sexton/sextonlaw13.VergerAlone", spec := "vergerAlone", inPlace := ["internal/reflectlite.TypeOf", "slices.overlaps[sexton/api.Pair]"], unfollowed := true, recurses := true, named := ["sexton/api.ErrArg", "sexton/api.ErrState", "sexton/api.ErrNil", "sexton/api.ErrTwice", "sexton/api.ErrFreed", "sexton/api.ErrStale", "sexton/api.ErrFull"], apart := false, laid := [("sexton/api.ErrArg", laid_sexton_api_ErrArg), ("sexton/api.ErrNil", laid_sexton_api_ErrNil), ("sexton/api.ErrFull", laid_sexton_api_ErrFull), ("sexton/api.ErrState", laid_sexton_api_ErrState), ("sexton/api.ErrFreed", laid_sexton_api_ErrFreed), ("sexton/api.ErrStale", laid_sexton_api_ErrStale), ("sexton/api.ErrTwice", laid_sexton_api_ErrTwice)], narrowed := true }
def VergerAloneUptoSaid : Prop := vergerAloneUptoRow.holds Tryz.pinned (OpenSpec.upto vergerAloneSpec)

end Rows
end Go.Proofs.YtadmfaohjnjajaaGreatDoor
