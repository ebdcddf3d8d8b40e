/-
  NARROWER THAN 'FOR EVERY INPUT', by the rows' own cells (each row's printed sentence says how): AvailTells: laid · AvailRanks: laid · AvailGrants: laid · AvailCovers: laid.
  DERIVED. THE GIVEN ROWS OF THIS SEAT. 4 by the template 'for every input the law returns true; each argument reads behind the call as it read before'; 0 by the template 'total and deterministic' (their statements: YtkcilagjhieapaaGreatDoorTotals.lean).
  GIVEN WITH THE SEED: the statements are not yours to turn. If you find one false, say at which input.
  Laid BY PROGRAM, IN A SANDBOX (cutbox-rows.mjs): the forced cells as the released guide's own fill.sh prints them over the translation 69ad561af8916c3d… (all of the seat's roots in one cut). By AI agents, Wed Nov 11 2026. No macro, syntax, notation, axiom, sorry.
-/
import Derived.Test.YtkcilagjhieapaaGreatDoorChecked
import GoSem.Claim
import GoSem.ClaimJoined
import GoSem.ClaimMapViews
import Derived.JoinedTies
import Derived.KernelRfl
namespace Go.Proofs.YtkcilagjhieapaaGreatDoor
/- THE CELL 'sum', in the pinned program and in every row, IS THE sha256 OF THE DUMP (.gsa) THAT YtkcilagjhieapaaGreatDoorProg.lean LOADS. Nothing in Lean hashes anything: it is a label: what it is worth is what the hold of that sum in a sandbox is worth. -/
noncomputable def Tryz.pinned : Pinned := { name := "ytkcilagjhieapaagreatdoor", sum := "69ad561af8916c3d5517c9da9ed95988376232eb47668569953104225b312ee3", checked := Tryz.checked }
namespace Rows
def none {H : Type} : Left H := { results := [], args := [] }

/- WHAT THE LISTED PACKAGE-LEVEL VARIABLES READ AS WHEN THE CALL BEGINS. Each datum BY PROGRAM (the guide's laid-datum.mjs) off the statement by which the dump's own 'gosem.cut.vars' lays the variable. In a bare row this is a premise. The card (YtkcilagjhieapaaGreatDoorCards.lean) ties it to the program's text. -/
def laid_errors_errorType {H : Type} : DataW H := .iface "internal/reflectlite.rtype" (.agg [.ptr (.lit (.string [101, 114, 114, 111, 114]))])

/-- 'cashbooklaw26.AvailTells': WHATEVER THE INPUT: true; the input reads as it did. -/
def availTellsSpec : ChangeSpec := { name := "availTells", fn := fun _ => fun
  | [d1, d2, d3, d4, d5] => { results := [.lit (.bool true)], args := [d1, d2, d3, d4, d5] }
  | _ => none }
def availTellsRow : OpenClaim := { program := "ytkcilagjhieapaagreatdoor", sum := "69ad561af8916c3d5517c9da9ed95988376232eb47668569953104225b312ee3", func := "cashbook/cashbooklaw26.AvailTells", spec := "availTells", inPlace := ["internal/reflectlite.ValueOf", "(internal/reflectlite.Value).Type", "(internal/reflectlite.Value).IsNil", "internal/reflectlite.TypeOf", "(internal/reflectlite.Value).Elem", "(internal/reflectlite.Value).Set"], unfollowed := true, recurses := true, named := ["errors.errorType"], apart := false, laid := [("errors.errorType", laid_errors_errorType)] }
def AvailTellsSaid : Prop := availTellsRow.holds Tryz.pinned (OpenSpec.ofChange availTellsSpec)

/-- ITS FALSE NEIGHBOUR: 'it returns false'. Refute it at one input. -/
def availTellsWrong : ChangeSpec := { name := "availTells", fn := fun _ => fun
  | [d1, d2, d3, d4, d5] => { results := [.lit (.bool false)], args := [d1, d2, d3, d4, d5] }
  | _ => none }
def AvailTellsWrongFalsely : Prop := availTellsRow.holds Tryz.pinned (OpenSpec.ofChange availTellsWrong)

/-- 'cashbooklaw26.AvailRanks': WHATEVER THE INPUT: true; the input reads as it did. -/
def availRanksSpec : ChangeSpec := { name := "availRanks", fn := fun _ => fun
  | [d1, d2, d3, d4] => { results := [.lit (.bool true)], args := [d1, d2, d3, d4] }
  | _ => none }
def availRanksRow : OpenClaim := { program := "ytkcilagjhieapaagreatdoor", sum := "69ad561af8916c3d5517c9da9ed95988376232eb47668569953104225b312ee3", func := "cashbook/cashbooklaw26.AvailRanks", spec := "availRanks", inPlace := ["internal/reflectlite.ValueOf", "(internal/reflectlite.Value).Type", "(internal/reflectlite.Value).IsNil", "internal/reflectlite.TypeOf", "(internal/reflectlite.Value).Elem", "(internal/reflectlite.Value).Set", "slices.overlaps[cashbook/api.Hold]"], unfollowed := true, recurses := true, named := ["errors.errorType"], apart := false, laid := [("errors.errorType", laid_errors_errorType)] }
def AvailRanksSaid : Prop := availRanksRow.holds Tryz.pinned (OpenSpec.ofChange availRanksSpec)

/-- ITS FALSE NEIGHBOUR: 'it returns false'. Refute it at one input. -/
def availRanksWrong : ChangeSpec := { name := "availRanks", fn := fun _ => fun
  | [d1, d2, d3, d4] => { results := [.lit (.bool false)], args := [d1, d2, d3, d4] }
  | _ => none }
def AvailRanksWrongFalsely : Prop := availRanksRow.holds Tryz.pinned (OpenSpec.ofChange availRanksWrong)

/-- 'cashbooklaw26.AvailGrants': WHATEVER THE INPUT: true; the input reads as it did. -/
def availGrantsSpec : ChangeSpec := { name := "availGrants", fn := fun _ => fun
  | [d1, d2, d3, d4, d5, d6] => { results := [.lit (.bool true)], args := [d1, d2, d3, d4, d5, d6] }
  | _ => none }
def availGrantsRow : OpenClaim := { program := "ytkcilagjhieapaagreatdoor", sum := "69ad561af8916c3d5517c9da9ed95988376232eb47668569953104225b312ee3", func := "cashbook/cashbooklaw26.AvailGrants", spec := "availGrants", inPlace := ["slices.overlaps[cashbook/api.Hold]", "internal/reflectlite.ValueOf", "(internal/reflectlite.Value).Type", "(internal/reflectlite.Value).IsNil", "internal/reflectlite.TypeOf", "(internal/reflectlite.Value).Elem", "(internal/reflectlite.Value).Set"], unfollowed := true, recurses := true, named := ["errors.errorType"], apart := false, laid := [("errors.errorType", laid_errors_errorType)] }
def AvailGrantsSaid : Prop := availGrantsRow.holds Tryz.pinned (OpenSpec.ofChange availGrantsSpec)

/-- ITS FALSE NEIGHBOUR: 'it returns false'. Refute it at one input. -/
def availGrantsWrong : ChangeSpec := { name := "availGrants", fn := fun _ => fun
  | [d1, d2, d3, d4, d5, d6] => { results := [.lit (.bool false)], args := [d1, d2, d3, d4, d5, d6] }
  | _ => none }
def AvailGrantsWrongFalsely : Prop := availGrantsRow.holds Tryz.pinned (OpenSpec.ofChange availGrantsWrong)

/-- 'cashbooklaw26.AvailCovers': WHATEVER THE INPUT: true; the input reads as it did. -/
def availCoversSpec : ChangeSpec := { name := "availCovers", fn := fun _ => fun
  | [d1, d2] => { results := [.lit (.bool true)], args := [d1, d2] }
  | _ => none }
def availCoversRow : OpenClaim := { program := "ytkcilagjhieapaagreatdoor", sum := "69ad561af8916c3d5517c9da9ed95988376232eb47668569953104225b312ee3", func := "cashbook/cashbooklaw26.AvailCovers", spec := "availCovers", inPlace := ["slices.overlaps[cashbook/api.Hold]", "internal/reflectlite.ValueOf", "(internal/reflectlite.Value).Type", "(internal/reflectlite.Value).IsNil", "internal/reflectlite.TypeOf", "(internal/reflectlite.Value).Elem", "(internal/reflectlite.Value).Set"], unfollowed := true, recurses := true, named := ["errors.errorType"], apart := false, laid := [("errors.errorType", laid_errors_errorType)] }
def AvailCoversSaid : Prop := availCoversRow.holds Tryz.pinned (OpenSpec.ofChange availCoversSpec)

/-- ITS FALSE NEIGHBOUR: 'it returns false'. Refute it at one input. -/
def availCoversWrong : ChangeSpec := { name := "availCovers", fn := fun _ => fun
  | [d1, d2] => { results := [.lit (.bool false)], args := [d1, d2] }
  | _ => none }
def AvailCoversWrongFalsely : Prop := availCoversRow.holds Tryz.pinned (OpenSpec.ofChange availCoversWrong)

/- THE SECOND FORM. 'bulk': how many values and letters a reading holds, each counted each time it is reached (what is shared counts as often as it is met; a slice's spare places count too). A statement '..UptoSaid' is the law's where the arguments, and the package variables that the reading takes, are together of bulk at most 1048576: NARROWER than '..Said'. Prove '..Said' where nothing that the law and all that it calls make is longer than what came in: it says more and counts as full. Else prove '..UptoSaid'. A law counts once. -/
mutual
def uptoBulk {H : Type} : DataW H → Nat
  | .lit (.string bytes) => bytes.length + 1
  | .lit _ => 1
  | .nil => 1
  | .ptr d => uptoBulk d + 1
  | .slice elems spare => uptoBulkAll elems + uptoBulkAll spare + 1
  | .agg parts => uptoBulkAll parts + 1
  | .iface _ d => uptoBulk d + 1
  | .map entries => uptoBulkEntries entries + 1
  | .held _ => 1
def uptoBulkAll {H : Type} : List (DataW H) → Nat
  | [] => 0
  | d :: r => uptoBulk d + uptoBulkAll r
def uptoBulkEntries {H : Type} : List (Lit × DataW H) → Nat
  | [] => 0
  | x :: r => uptoBulkEntry x + uptoBulkEntries r
def uptoBulkEntry {H : Type} : Lit × DataW H → Nat
  | (.string bytes, d) => bytes.length + uptoBulk d + 1
  | (_, d) => uptoBulk d + 1
 end
def uptoSmall : (H : Type) → List (DataW H) → Bool := fun _ ds => decide (uptoBulkAll ds ≤ 1048576)
def OpenSpec.upto (s : _root_.Go.ChangeSpec) : _root_.Go.OpenSpec := { _root_.Go.OpenSpec.ofChange s with cond := some uptoSmall }

/-- 'cashbooklaw26.AvailTells', WHERE WHAT IT READS IS OF BULK AT MOST 1048576: true; the input reads as it did. -/
def availTellsUptoRow : OpenClaim := { program := "ytkcilagjhieapaagreatdoor", sum := "69ad561af8916c3d5517c9da9ed95988376232eb47668569953104225b312ee3", func := "cashbook/cashbooklaw26.AvailTells", spec := "availTells", inPlace := ["internal/reflectlite.ValueOf", "(internal/reflectlite.Value).Type", "(internal/reflectlite.Value).IsNil", "internal/reflectlite.TypeOf", "(internal/reflectlite.Value).Elem", "(internal/reflectlite.Value).Set"], unfollowed := true, recurses := true, named := ["errors.errorType"], apart := false, laid := [("errors.errorType", laid_errors_errorType)], narrowed := true }
def AvailTellsUptoSaid : Prop := availTellsUptoRow.holds Tryz.pinned (OpenSpec.upto availTellsSpec)

/-- 'cashbooklaw26.AvailRanks', WHERE WHAT IT READS IS OF BULK AT MOST 1048576: true; the input reads as it did. -/
def availRanksUptoRow : OpenClaim := { program := "ytkcilagjhieapaagreatdoor", sum := "69ad561af8916c3d5517c9da9ed95988376232eb47668569953104225b312ee3", func := "cashbook/cashbooklaw26.AvailRanks", spec := "availRanks", inPlace := ["internal/reflectlite.ValueOf", "(internal/reflectlite.Value).Type", "(internal/reflectlite.Value).IsNil", "internal/reflectlite.TypeOf", "(internal/reflectlite.Value).Elem", "(internal/reflectlite.Value).Set", "slices.overlaps[cashbook/api.Hold]"], unfollowed := true, recurses := true, named := ["errors.errorType"], apart := false, laid := [("errors.errorType", laid_errors_errorType)], narrowed := true }
def AvailRanksUptoSaid : Prop := availRanksUptoRow.holds Tryz.pinned (OpenSpec.upto availRanksSpec)

/-- 'cashbooklaw26.AvailGrants', WHERE WHAT IT READS IS OF BULK AT MOST 1048576: true; the input reads as it did. -/
def availGrantsUptoRow : OpenClaim := { program := "ytkcilagjhieapaagreatdoor", sum := "69ad561af8916c3d5517c9da9ed95988376232eb47668569953104225b312ee3", func := "cashbook/cashbooklaw26.AvailGrants", spec := "availGrants", inPlace := ["slices.overlaps[cashbook/api.Hold]", "internal/reflectlite.ValueOf", "(internal/reflectlite.Value).Type", "(internal/reflectlite.Value).IsNil", "internal/reflectlite.TypeOf", "(internal/reflectlite.Value).Elem", "(internal/reflectlite.Value).Set"], unfollowed := true, recurses := true, named := ["errors.errorType"], apart := false, laid := [("errors.errorType", laid_errors_errorType)], narrowed := true }
def AvailGrantsUptoSaid : Prop := availGrantsUptoRow.holds Tryz.pinned (OpenSpec.upto availGrantsSpec)

/-- 'cashbooklaw26.AvailCovers', WHERE WHAT IT READS IS OF BULK AT MOST 1048576: true; the input reads as it did. -/
def availCoversUptoRow : OpenClaim := { program := "ytkcilagjhieapaagreatdoor", sum := "69ad561af8916c3d5517c9da9ed95988376232eb47668569953104225b312ee3", func := "cashbook/cashbooklaw26.AvailCovers", spec := "availCovers", inPlace := ["slices.overlaps[cashbook/api.Hold]", "internal/reflectlite.ValueOf", "(internal/reflectlite.Value).Type", "(internal/reflectlite.Value).IsNil", "internal/reflectlite.TypeOf", "(internal/reflectlite.Value).Elem", "(internal/reflectlite.Value).Set"], unfollowed := true, recurses := true, named := ["errors.errorType"], apart := false, laid := [("errors.errorType", laid_errors_errorType)], narrowed := true }
def AvailCoversUptoSaid : Prop := availCoversUptoRow.holds Tryz.pinned (OpenSpec.upto availCoversSpec)

end Rows
end Go.Proofs.YtkcilagjhieapaaGreatDoor
