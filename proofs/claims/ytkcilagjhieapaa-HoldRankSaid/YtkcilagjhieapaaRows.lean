/-
  No cell of these rows narrows 'for every input' (looked for: loops, veiled, ifaces, maps, wideKeys, modest, calm, conditions, laid).
  DERIVED. THE GIVEN ROWS OF THIS SEAT. 9 by the template 'for every input the law returns true; each argument reads behind the call as it read before'; 0 by the template 'total and deterministic' (their statements: YtkcilagjhieapaaTotals.lean).
  GIVEN WITH THE SEED: the statements are not yours to turn. If you find one false, say at which input.
  Laid BY PROGRAM, IN A SANDBOX (cutbox-rows.mjs): the forced cells as the released guide's own fill.sh prints them over the translation 99cfdf2e46d78250… (all of the seat's roots in one cut). By AI agents, Wed Nov 11 2026. No macro, syntax, notation, axiom, sorry.
-/
import Derived.Test.YtkcilagjhieapaaChecked
import GoSem.Claim
import GoSem.ClaimJoined
import GoSem.ClaimMapViews
import Derived.JoinedTies
import Derived.KernelRfl
namespace Go.Proofs.Ytkcilagjhieapaa
/- THE CELL 'sum', in the pinned program and in every row, IS THE sha256 OF THE DUMP (.gsa) THAT YtkcilagjhieapaaProg.lean LOADS. Nothing in Lean hashes anything: it is a label: what it is worth is what the hold of that sum in a sandbox is worth. -/
noncomputable def Try.pinned : Pinned := { name := "ytkcilagjhieapaa", sum := "99cfdf2e46d78250a378dff7867ffcb293c1e5ea11b5ba410fc1b1933a73bf88", checked := Try.checked }
namespace Rows
def none {H : Type} : Left H := { results := [], args := [] }

/-- 'cashbooklaw18.ChartGrows': WHATEVER THE INPUT: true; the input reads as it did. -/
def chartGrowsSpec : ChangeSpec := { name := "chartGrows", fn := fun _ => fun
  | [d1, d2, d3, d4, d5] => { results := [.lit (.bool true)], args := [d1, d2, d3, d4, d5] }
  | _ => none }
def chartGrowsRow : OpenClaim := { program := "ytkcilagjhieapaa", sum := "99cfdf2e46d78250a378dff7867ffcb293c1e5ea11b5ba410fc1b1933a73bf88", func := "cashbook/cashbooklaw18.ChartGrows", spec := "chartGrows", inPlace := ["slices.overlaps[cashbook/api.Customer]", "slices.overlaps[cashbook/api.Record]"], unfollowed := true, recurses := true, apart := false }
def ChartGrowsSaid : Prop := chartGrowsRow.holds Try.pinned (OpenSpec.ofChange chartGrowsSpec)

/-- ITS FALSE NEIGHBOUR: 'it returns false'. Refute it at one input. -/
def chartGrowsWrong : ChangeSpec := { name := "chartGrows", fn := fun _ => fun
  | [d1, d2, d3, d4, d5] => { results := [.lit (.bool false)], args := [d1, d2, d3, d4, d5] }
  | _ => none }
def ChartGrowsWrongFalsely : Prop := chartGrowsRow.holds Try.pinned (OpenSpec.ofChange chartGrowsWrong)

/-- 'cashbooklaw18.ChartKeeps': WHATEVER THE INPUT: true; the input reads as it did. -/
def chartKeepsSpec : ChangeSpec := { name := "chartKeeps", fn := fun _ => fun
  | [d1, d2] => { results := [.lit (.bool true)], args := [d1, d2] }
  | _ => none }
def chartKeepsRow : OpenClaim := { program := "ytkcilagjhieapaa", sum := "99cfdf2e46d78250a378dff7867ffcb293c1e5ea11b5ba410fc1b1933a73bf88", func := "cashbook/cashbooklaw18.ChartKeeps", spec := "chartKeeps", inPlace := ["slices.overlaps[cashbook/api.Customer]", "slices.overlaps[cashbook/api.Record]"], unfollowed := true, recurses := true, apart := false }
def ChartKeepsSaid : Prop := chartKeepsRow.holds Try.pinned (OpenSpec.ofChange chartKeepsSpec)

/-- ITS FALSE NEIGHBOUR: 'it returns false'. Refute it at one input. -/
def chartKeepsWrong : ChangeSpec := { name := "chartKeeps", fn := fun _ => fun
  | [d1, d2] => { results := [.lit (.bool false)], args := [d1, d2] }
  | _ => none }
def ChartKeepsWrongFalsely : Prop := chartKeepsRow.holds Try.pinned (OpenSpec.ofChange chartKeepsWrong)

/-- 'cashbooklaw18.ChartCustomers': WHATEVER THE INPUT: true; the input reads as it did. -/
def chartCustomersSpec : ChangeSpec := { name := "chartCustomers", fn := fun _ => fun
  | [d] => { results := [.lit (.bool true)], args := [d] }
  | _ => none }
def chartCustomersRow : OpenClaim := { program := "ytkcilagjhieapaa", sum := "99cfdf2e46d78250a378dff7867ffcb293c1e5ea11b5ba410fc1b1933a73bf88", func := "cashbook/cashbooklaw18.ChartCustomers", spec := "chartCustomers", inPlace := ["slices.overlaps[cashbook/api.Record]"], unfollowed := true, recurses := true, apart := false }
def ChartCustomersSaid : Prop := chartCustomersRow.holds Try.pinned (OpenSpec.ofChange chartCustomersSpec)

/-- ITS FALSE NEIGHBOUR: 'it returns false'. Refute it at one input. -/
def chartCustomersWrong : ChangeSpec := { name := "chartCustomers", fn := fun _ => fun
  | [d] => { results := [.lit (.bool false)], args := [d] }
  | _ => none }
def ChartCustomersWrongFalsely : Prop := chartCustomersRow.holds Try.pinned (OpenSpec.ofChange chartCustomersWrong)

/-- 'cashbooklaw18.ChartTells': WHATEVER THE INPUT: true; the input reads as it did. -/
def chartTellsSpec : ChangeSpec := { name := "chartTells", fn := fun _ => fun
  | [d1, d2, d3, d4, d5] => { results := [.lit (.bool true)], args := [d1, d2, d3, d4, d5] }
  | _ => none }
def chartTellsRow : OpenClaim := { program := "ytkcilagjhieapaa", sum := "99cfdf2e46d78250a378dff7867ffcb293c1e5ea11b5ba410fc1b1933a73bf88", func := "cashbook/cashbooklaw18.ChartTells", spec := "chartTells", inPlace := ["slices.overlaps[cashbook/api.Record]"], unfollowed := true, recurses := true, apart := false }
def ChartTellsSaid : Prop := chartTellsRow.holds Try.pinned (OpenSpec.ofChange chartTellsSpec)

/-- ITS FALSE NEIGHBOUR: 'it returns false'. Refute it at one input. -/
def chartTellsWrong : ChangeSpec := { name := "chartTells", fn := fun _ => fun
  | [d1, d2, d3, d4, d5] => { results := [.lit (.bool false)], args := [d1, d2, d3, d4, d5] }
  | _ => none }
def ChartTellsWrongFalsely : Prop := chartTellsRow.holds Try.pinned (OpenSpec.ofChange chartTellsWrong)

/-- 'cashbooklaw25.HoldTells': WHATEVER THE INPUT: true; the input reads as it did. -/
def holdTellsSpec : ChangeSpec := { name := "holdTells", fn := fun _ => fun
  | [d1, d2] => { results := [.lit (.bool true)], args := [d1, d2] }
  | _ => none }
def holdTellsRow : OpenClaim := { program := "ytkcilagjhieapaa", sum := "99cfdf2e46d78250a378dff7867ffcb293c1e5ea11b5ba410fc1b1933a73bf88", func := "cashbook/cashbooklaw25.HoldTells", spec := "holdTells", inPlace := ["slices.overlaps[cashbook/api.Hold]"], unfollowed := true, recurses := true, apart := false }
def HoldTellsSaid : Prop := holdTellsRow.holds Try.pinned (OpenSpec.ofChange holdTellsSpec)

/-- ITS FALSE NEIGHBOUR: 'it returns false'. Refute it at one input. -/
def holdTellsWrong : ChangeSpec := { name := "holdTells", fn := fun _ => fun
  | [d1, d2] => { results := [.lit (.bool false)], args := [d1, d2] }
  | _ => none }
def HoldTellsWrongFalsely : Prop := holdTellsRow.holds Try.pinned (OpenSpec.ofChange holdTellsWrong)

/-- 'cashbooklaw25.HoldActs': WHATEVER THE INPUT: true; the input reads as it did. -/
def holdActsSpec : ChangeSpec := { name := "holdActs", fn := fun _ => fun
  | [d1, d2, d3] => { results := [.lit (.bool true)], args := [d1, d2, d3] }
  | _ => none }
def holdActsRow : OpenClaim := { program := "ytkcilagjhieapaa", sum := "99cfdf2e46d78250a378dff7867ffcb293c1e5ea11b5ba410fc1b1933a73bf88", func := "cashbook/cashbooklaw25.HoldActs", spec := "holdActs", inPlace := ["slices.overlaps[cashbook/api.Hold]"], unfollowed := true, recurses := true, apart := false }
def HoldActsSaid : Prop := holdActsRow.holds Try.pinned (OpenSpec.ofChange holdActsSpec)

/-- ITS FALSE NEIGHBOUR: 'it returns false'. Refute it at one input. -/
def holdActsWrong : ChangeSpec := { name := "holdActs", fn := fun _ => fun
  | [d1, d2, d3] => { results := [.lit (.bool false)], args := [d1, d2, d3] }
  | _ => none }
def HoldActsWrongFalsely : Prop := holdActsRow.holds Try.pinned (OpenSpec.ofChange holdActsWrong)

/-- 'cashbooklaw25.HoldNever': WHATEVER THE INPUT: true; the input reads as it did. -/
def holdNeverSpec : ChangeSpec := { name := "holdNever", fn := fun _ => fun
  | [d1, d2] => { results := [.lit (.bool true)], args := [d1, d2] }
  | _ => none }
def holdNeverRow : OpenClaim := { program := "ytkcilagjhieapaa", sum := "99cfdf2e46d78250a378dff7867ffcb293c1e5ea11b5ba410fc1b1933a73bf88", func := "cashbook/cashbooklaw25.HoldNever", spec := "holdNever", inPlace := ["slices.overlaps[cashbook/api.Hold]"], unfollowed := true, recurses := true, apart := false }
def HoldNeverSaid : Prop := holdNeverRow.holds Try.pinned (OpenSpec.ofChange holdNeverSpec)

/-- ITS FALSE NEIGHBOUR: 'it returns false'. Refute it at one input. -/
def holdNeverWrong : ChangeSpec := { name := "holdNever", fn := fun _ => fun
  | [d1, d2] => { results := [.lit (.bool false)], args := [d1, d2] }
  | _ => none }
def HoldNeverWrongFalsely : Prop := holdNeverRow.holds Try.pinned (OpenSpec.ofChange holdNeverWrong)

/-- 'cashbooklaw25.HoldRank': WHATEVER THE INPUT: true; the input reads as it did. -/
def holdRankSpec : ChangeSpec := { name := "holdRank", fn := fun _ => fun
  | [d1, d2] => { results := [.lit (.bool true)], args := [d1, d2] }
  | _ => none }
def holdRankRow : OpenClaim := { program := "ytkcilagjhieapaa", sum := "99cfdf2e46d78250a378dff7867ffcb293c1e5ea11b5ba410fc1b1933a73bf88", func := "cashbook/cashbooklaw25.HoldRank", spec := "holdRank", inPlace := ["slices.overlaps[cashbook/api.Hold]"], unfollowed := true, recurses := true, apart := false }
def HoldRankSaid : Prop := holdRankRow.holds Try.pinned (OpenSpec.ofChange holdRankSpec)

/-- ITS FALSE NEIGHBOUR: 'it returns false'. Refute it at one input. -/
def holdRankWrong : ChangeSpec := { name := "holdRank", fn := fun _ => fun
  | [d1, d2] => { results := [.lit (.bool false)], args := [d1, d2] }
  | _ => none }
def HoldRankWrongFalsely : Prop := holdRankRow.holds Try.pinned (OpenSpec.ofChange holdRankWrong)

/-- 'cashbooklaw25.HoldTill': WHATEVER THE INPUT: true; the input reads as it did. -/
def holdTillSpec : ChangeSpec := { name := "holdTill", fn := fun _ => fun
  | [d1, d2, d3] => { results := [.lit (.bool true)], args := [d1, d2, d3] }
  | _ => none }
def holdTillRow : OpenClaim := { program := "ytkcilagjhieapaa", sum := "99cfdf2e46d78250a378dff7867ffcb293c1e5ea11b5ba410fc1b1933a73bf88", func := "cashbook/cashbooklaw25.HoldTill", spec := "holdTill", inPlace := ["slices.overlaps[cashbook/api.Hold]"], unfollowed := true, recurses := true, apart := false }
def HoldTillSaid : Prop := holdTillRow.holds Try.pinned (OpenSpec.ofChange holdTillSpec)

/-- ITS FALSE NEIGHBOUR: 'it returns false'. Refute it at one input. -/
def holdTillWrong : ChangeSpec := { name := "holdTill", fn := fun _ => fun
  | [d1, d2, d3] => { results := [.lit (.bool false)], args := [d1, d2, d3] }
  | _ => none }
def HoldTillWrongFalsely : Prop := holdTillRow.holds Try.pinned (OpenSpec.ofChange holdTillWrong)

/- THE SECOND FORM. 'bulk': how many values and letters a reading holds, each counted each time it is reached (what is shared counts as often as it is met; a slice's spare places count too). A statement '..UptoSaid' is the law's where the arguments, and the package variables that the reading takes, are together of bulk at most 1048576: NARROWER than '..Said'. Prove '..Said' where nothing that the law and all that it calls make is longer than what came in: it says more and counts as full. Else prove '..UptoSaid'. A law counts once. -/
mutual
def uptoBulk {H : Type} : DataW H → Nat
  | .lit (.string bytes) => bytes.length + 1
  | .lit _ => 1
  | .nil => 1
  | .ptr d => uptoBulk d + 1
  | .slice elems spare => uptoBulkAll elems + uptoBulkAll spare + 1
  | .agg parts => uptoBulkAll parts + 1
  | .iface _ d => uptoBulk d + 1
  | .map entries => uptoBulkEntries entries + 1
  | .held _ => 1
def uptoBulkAll {H : Type} : List (DataW H) → Nat
  | [] => 0
  | d :: r => uptoBulk d + uptoBulkAll r
def uptoBulkEntries {H : Type} : List (Lit × DataW H) → Nat
  | [] => 0
  | x :: r => uptoBulkEntry x + uptoBulkEntries r
def uptoBulkEntry {H : Type} : Lit × DataW H → Nat
  | (.string bytes, d) => bytes.length + uptoBulk d + 1
  | (_, d) => uptoBulk d + 1
 end
def uptoSmall : (H : Type) → List (DataW H) → Bool := fun _ ds => decide (uptoBulkAll ds ≤ 1048576)
def OpenSpec.upto (s : _root_.Go.ChangeSpec) : _root_.Go.OpenSpec := { _root_.Go.OpenSpec.ofChange s with cond := some uptoSmall }

/-- 'cashbooklaw18.ChartGrows', WHERE WHAT IT READS IS OF BULK AT MOST 1048576: true; the input reads as it did. -/
def chartGrowsUptoRow : OpenClaim := { program := "ytkcilagjhieapaa", sum := "99cfdf2e46d78250a378dff7867ffcb293c1e5ea11b5ba410fc1b1933a73bf88", func := "cashbook/cashbooklaw18.ChartGrows", spec := "chartGrows", inPlace := ["slices.overlaps[cashbook/api.Customer]", "slices.overlaps[cashbook/api.Record]"], unfollowed := true, recurses := true, apart := false, narrowed := true }
def ChartGrowsUptoSaid : Prop := chartGrowsUptoRow.holds Try.pinned (OpenSpec.upto chartGrowsSpec)

/-- 'cashbooklaw18.ChartKeeps', WHERE WHAT IT READS IS OF BULK AT MOST 1048576: true; the input reads as it did. -/
def chartKeepsUptoRow : OpenClaim := { program := "ytkcilagjhieapaa", sum := "99cfdf2e46d78250a378dff7867ffcb293c1e5ea11b5ba410fc1b1933a73bf88", func := "cashbook/cashbooklaw18.ChartKeeps", spec := "chartKeeps", inPlace := ["slices.overlaps[cashbook/api.Customer]", "slices.overlaps[cashbook/api.Record]"], unfollowed := true, recurses := true, apart := false, narrowed := true }
def ChartKeepsUptoSaid : Prop := chartKeepsUptoRow.holds Try.pinned (OpenSpec.upto chartKeepsSpec)

/-- 'cashbooklaw18.ChartCustomers', WHERE WHAT IT READS IS OF BULK AT MOST 1048576: true; the input reads as it did. -/
def chartCustomersUptoRow : OpenClaim := { program := "ytkcilagjhieapaa", sum := "99cfdf2e46d78250a378dff7867ffcb293c1e5ea11b5ba410fc1b1933a73bf88", func := "cashbook/cashbooklaw18.ChartCustomers", spec := "chartCustomers", inPlace := ["slices.overlaps[cashbook/api.Record]"], unfollowed := true, recurses := true, apart := false, narrowed := true }
def ChartCustomersUptoSaid : Prop := chartCustomersUptoRow.holds Try.pinned (OpenSpec.upto chartCustomersSpec)

/-- 'cashbooklaw18.ChartTells', WHERE WHAT IT READS IS OF BULK AT MOST 1048576: true; the input reads as it did. -/
def chartTellsUptoRow : OpenClaim := { program := "ytkcilagjhieapaa", sum := "99cfdf2e46d78250a378dff7867ffcb293c1e5ea11b5ba410fc1b1933a73bf88", func := "cashbook/cashbooklaw18.ChartTells", spec := "chartTells", inPlace := ["slices.overlaps[cashbook/api.Record]"], unfollowed := true, recurses := true, apart := false, narrowed := true }
def ChartTellsUptoSaid : Prop := chartTellsUptoRow.holds Try.pinned (OpenSpec.upto chartTellsSpec)

/-- 'cashbooklaw25.HoldTells', WHERE WHAT IT READS IS OF BULK AT MOST 1048576: true; the input reads as it did. -/
def holdTellsUptoRow : OpenClaim := { program := "ytkcilagjhieapaa", sum := "99cfdf2e46d78250a378dff7867ffcb293c1e5ea11b5ba410fc1b1933a73bf88", func := "cashbook/cashbooklaw25.HoldTells", spec := "holdTells", inPlace := ["slices.overlaps[cashbook/api.Hold]"], unfollowed := true, recurses := true, apart := false, narrowed := true }
def HoldTellsUptoSaid : Prop := holdTellsUptoRow.holds Try.pinned (OpenSpec.upto holdTellsSpec)

/-- 'cashbooklaw25.HoldActs', WHERE WHAT IT READS IS OF BULK AT MOST 1048576: true; the input reads as it did. -/
def holdActsUptoRow : OpenClaim := { program := "ytkcilagjhieapaa", sum := "99cfdf2e46d78250a378dff7867ffcb293c1e5ea11b5ba410fc1b1933a73bf88", func := "cashbook/cashbooklaw25.HoldActs", spec := "holdActs", inPlace := ["slices.overlaps[cashbook/api.Hold]"], unfollowed := true, recurses := true, apart := false, narrowed := true }
def HoldActsUptoSaid : Prop := holdActsUptoRow.holds Try.pinned (OpenSpec.upto holdActsSpec)

/-- 'cashbooklaw25.HoldNever', WHERE WHAT IT READS IS OF BULK AT MOST 1048576: true; the input reads as it did. -/
def holdNeverUptoRow : OpenClaim := { program := "ytkcilagjhieapaa", sum := "99cfdf2e46d78250a378dff7867ffcb293c1e5ea11b5ba410fc1b1933a73bf88", func := "cashbook/cashbooklaw25.HoldNever", spec := "holdNever", inPlace := ["slices.overlaps[cashbook/api.Hold]"], unfollowed := true, recurses := true, apart := false, narrowed := true }
def HoldNeverUptoSaid : Prop := holdNeverUptoRow.holds Try.pinned (OpenSpec.upto holdNeverSpec)

/-- 'cashbooklaw25.HoldRank', WHERE WHAT IT READS IS OF BULK AT MOST 1048576: true; the input reads as it did. -/
def holdRankUptoRow : OpenClaim := { program := "ytkcilagjhieapaa", sum := "99cfdf2e46d78250a378dff7867ffcb293c1e5ea11b5ba410fc1b1933a73bf88", func := "cashbook/cashbooklaw25.HoldRank", spec := "holdRank", inPlace := ["slices.overlaps[cashbook/api.Hold]"], unfollowed := true, recurses := true, apart := false, narrowed := true }
def HoldRankUptoSaid : Prop := holdRankUptoRow.holds Try.pinned (OpenSpec.upto holdRankSpec)

/-- 'cashbooklaw25.HoldTill', WHERE WHAT IT READS IS OF BULK AT MOST 1048576: true; the input reads as it did. -/
def holdTillUptoRow : OpenClaim := { program := "ytkcilagjhieapaa", sum := "99cfdf2e46d78250a378dff7867ffcb293c1e5ea11b5ba410fc1b1933a73bf88", func := "cashbook/cashbooklaw25.HoldTill", spec := "holdTill", inPlace := ["slices.overlaps[cashbook/api.Hold]"], unfollowed := true, recurses := true, apart := false, narrowed := true }
def HoldTillUptoSaid : Prop := holdTillUptoRow.holds Try.pinned (OpenSpec.upto holdTillSpec)

end Rows
end Go.Proofs.Ytkcilagjhieapaa
