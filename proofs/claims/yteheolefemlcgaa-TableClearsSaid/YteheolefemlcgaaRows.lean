/-
  No cell of these rows narrows 'for every input' (looked for: loops, veiled, ifaces, maps, wideKeys, modest, calm, conditions, laid).
  DERIVED. THE GIVEN ROWS OF THIS SEAT. 14 by the template 'for every input the law returns true; each argument reads behind the call as it read before'; 0 by the template 'total and deterministic' (their statements: YteheolefemlcgaaTotals.lean).
  GIVEN WITH THE SEED: the statements are not yours to turn. If you find one false, say at which input.
  Laid BY PROGRAM, IN A SANDBOX (cutbox-rows.mjs): the forced cells as the released guide's own fill.sh prints them over the translation 3b1d8f06b8b568a0… (all of the seat's roots in one cut). By AI agents, Wed Nov 11 2026. No macro, syntax, notation, axiom, sorry.
-/
import Derived.Test.YteheolefemlcgaaChecked
import GoSem.Claim
import GoSem.ClaimJoined
import GoSem.ClaimMapViews
import Derived.JoinedTies
import Derived.KernelRfl
namespace Go.Proofs.Yteheolefemlcgaa
/- THE CELL 'sum', in the pinned program and in every row, IS THE sha256 OF THE DUMP (.gsa) THAT YteheolefemlcgaaProg.lean LOADS. Nothing in Lean hashes anything: it is a label: what it is worth is what the hold of that sum in a sandbox is worth. -/
noncomputable def Try.pinned : Pinned := { name := "yteheolefemlcgaa", sum := "3b1d8f06b8b568a0f881237d0617d3ac1ceb0883a938690879d621463071df4a", checked := Try.checked }
namespace Rows
def none {H : Type} : Left H := { results := [], args := [] }

/-- 'trestlelaw08.TableCells': WHATEVER THE INPUT: true; the input reads as it did. -/
def tableCellsSpec : ChangeSpec := { name := "tableCells", fn := fun _ => fun
  | [d1, d2, d3] => { results := [.lit (.bool true)], args := [d1, d2, d3] }
  | _ => none }
def tableCellsRow : OpenClaim := { program := "yteheolefemlcgaa", sum := "3b1d8f06b8b568a0f881237d0617d3ac1ceb0883a938690879d621463071df4a", func := "trestle/trestlelaw08.TableCells", spec := "tableCells", unfollowed := true, recurses := true, apart := false }
def TableCellsSaid : Prop := tableCellsRow.holds Try.pinned (OpenSpec.ofChange tableCellsSpec)

/-- ITS FALSE NEIGHBOUR: 'it returns false'. Refute it at one input. -/
def tableCellsWrong : ChangeSpec := { name := "tableCells", fn := fun _ => fun
  | [d1, d2, d3] => { results := [.lit (.bool false)], args := [d1, d2, d3] }
  | _ => none }
def TableCellsWrongFalsely : Prop := tableCellsRow.holds Try.pinned (OpenSpec.ofChange tableCellsWrong)

/-- 'trestlelaw08.TableMap': WHATEVER THE INPUT: true; the input reads as it did. -/
def tableMapSpec : ChangeSpec := { name := "tableMap", fn := fun _ => fun
  | [d] => { results := [.lit (.bool true)], args := [d] }
  | _ => none }
def tableMapRow : OpenClaim := { program := "yteheolefemlcgaa", sum := "3b1d8f06b8b568a0f881237d0617d3ac1ceb0883a938690879d621463071df4a", func := "trestle/trestlelaw08.TableMap", spec := "tableMap", unfollowed := true, recurses := true, apart := false }
def TableMapSaid : Prop := tableMapRow.holds Try.pinned (OpenSpec.ofChange tableMapSpec)

/-- ITS FALSE NEIGHBOUR: 'it returns false'. Refute it at one input. -/
def tableMapWrong : ChangeSpec := { name := "tableMap", fn := fun _ => fun
  | [d] => { results := [.lit (.bool false)], args := [d] }
  | _ => none }
def TableMapWrongFalsely : Prop := tableMapRow.holds Try.pinned (OpenSpec.ofChange tableMapWrong)

/-- 'trestlelaw08.TableRow': WHATEVER THE INPUT: true; the input reads as it did. -/
def tableRowSpec : ChangeSpec := { name := "tableRow", fn := fun _ => fun
  | [d1, d2] => { results := [.lit (.bool true)], args := [d1, d2] }
  | _ => none }
def tableRowRow : OpenClaim := { program := "yteheolefemlcgaa", sum := "3b1d8f06b8b568a0f881237d0617d3ac1ceb0883a938690879d621463071df4a", func := "trestle/trestlelaw08.TableRow", spec := "tableRow", unfollowed := true, recurses := true, apart := false }
def TableRowSaid : Prop := tableRowRow.holds Try.pinned (OpenSpec.ofChange tableRowSpec)

/-- ITS FALSE NEIGHBOUR: 'it returns false'. Refute it at one input. -/
def tableRowWrong : ChangeSpec := { name := "tableRow", fn := fun _ => fun
  | [d1, d2] => { results := [.lit (.bool false)], args := [d1, d2] }
  | _ => none }
def TableRowWrongFalsely : Prop := tableRowRow.holds Try.pinned (OpenSpec.ofChange tableRowWrong)

/-- 'trestlelaw08.TableValues': WHATEVER THE INPUT: true; the input reads as it did. -/
def tableValuesSpec : ChangeSpec := { name := "tableValues", fn := fun _ => fun
  | [d] => { results := [.lit (.bool true)], args := [d] }
  | _ => none }
def tableValuesRow : OpenClaim := { program := "yteheolefemlcgaa", sum := "3b1d8f06b8b568a0f881237d0617d3ac1ceb0883a938690879d621463071df4a", func := "trestle/trestlelaw08.TableValues", spec := "tableValues", unfollowed := true, recurses := true, apart := false }
def TableValuesSaid : Prop := tableValuesRow.holds Try.pinned (OpenSpec.ofChange tableValuesSpec)

/-- ITS FALSE NEIGHBOUR: 'it returns false'. Refute it at one input. -/
def tableValuesWrong : ChangeSpec := { name := "tableValues", fn := fun _ => fun
  | [d] => { results := [.lit (.bool false)], args := [d] }
  | _ => none }
def TableValuesWrongFalsely : Prop := tableValuesRow.holds Try.pinned (OpenSpec.ofChange tableValuesWrong)

/-- 'trestlelaw08.TableClears': WHATEVER THE INPUT: true; the input reads as it did. -/
def tableClearsSpec : ChangeSpec := { name := "tableClears", fn := fun _ => fun
  | [d] => { results := [.lit (.bool true)], args := [d] }
  | _ => none }
def tableClearsRow : OpenClaim := { program := "yteheolefemlcgaa", sum := "3b1d8f06b8b568a0f881237d0617d3ac1ceb0883a938690879d621463071df4a", func := "trestle/trestlelaw08.TableClears", spec := "tableClears", unfollowed := true, recurses := true, apart := false }
def TableClearsSaid : Prop := tableClearsRow.holds Try.pinned (OpenSpec.ofChange tableClearsSpec)

/-- ITS FALSE NEIGHBOUR: 'it returns false'. Refute it at one input. -/
def tableClearsWrong : ChangeSpec := { name := "tableClears", fn := fun _ => fun
  | [d] => { results := [.lit (.bool false)], args := [d] }
  | _ => none }
def TableClearsWrongFalsely : Prop := tableClearsRow.holds Try.pinned (OpenSpec.ofChange tableClearsWrong)

/-- 'trestlelaw10.WalkOrder': WHATEVER THE INPUT: true; the input reads as it did. -/
def walkOrderSpec : ChangeSpec := { name := "walkOrder", fn := fun _ => fun
  | [d] => { results := [.lit (.bool true)], args := [d] }
  | _ => none }
def walkOrderRow : OpenClaim := { program := "yteheolefemlcgaa", sum := "3b1d8f06b8b568a0f881237d0617d3ac1ceb0883a938690879d621463071df4a", func := "trestle/trestlelaw10.WalkOrder", spec := "walkOrder", unfollowed := true, recurses := true, apart := false }
def WalkOrderSaid : Prop := walkOrderRow.holds Try.pinned (OpenSpec.ofChange walkOrderSpec)

/-- ITS FALSE NEIGHBOUR: 'it returns false'. Refute it at one input. -/
def walkOrderWrong : ChangeSpec := { name := "walkOrder", fn := fun _ => fun
  | [d] => { results := [.lit (.bool false)], args := [d] }
  | _ => none }
def WalkOrderWrongFalsely : Prop := walkOrderRow.holds Try.pinned (OpenSpec.ofChange walkOrderWrong)

/-- 'trestlelaw10.WalkWhole': WHATEVER THE INPUT: true; the input reads as it did. -/
def walkWholeSpec : ChangeSpec := { name := "walkWhole", fn := fun _ => fun
  | [d1, d2] => { results := [.lit (.bool true)], args := [d1, d2] }
  | _ => none }
def walkWholeRow : OpenClaim := { program := "yteheolefemlcgaa", sum := "3b1d8f06b8b568a0f881237d0617d3ac1ceb0883a938690879d621463071df4a", func := "trestle/trestlelaw10.WalkWhole", spec := "walkWhole", unfollowed := true, recurses := true, apart := false }
def WalkWholeSaid : Prop := walkWholeRow.holds Try.pinned (OpenSpec.ofChange walkWholeSpec)

/-- ITS FALSE NEIGHBOUR: 'it returns false'. Refute it at one input. -/
def walkWholeWrong : ChangeSpec := { name := "walkWhole", fn := fun _ => fun
  | [d1, d2] => { results := [.lit (.bool false)], args := [d1, d2] }
  | _ => none }
def WalkWholeWrongFalsely : Prop := walkWholeRow.holds Try.pinned (OpenSpec.ofChange walkWholeWrong)

/-- 'trestlelaw10.WalkLists': WHATEVER THE INPUT: true; the input reads as it did. -/
def walkListsSpec : ChangeSpec := { name := "walkLists", fn := fun _ => fun
  | [d] => { results := [.lit (.bool true)], args := [d] }
  | _ => none }
def walkListsRow : OpenClaim := { program := "yteheolefemlcgaa", sum := "3b1d8f06b8b568a0f881237d0617d3ac1ceb0883a938690879d621463071df4a", func := "trestle/trestlelaw10.WalkLists", spec := "walkLists", unfollowed := true, recurses := true, apart := false }
def WalkListsSaid : Prop := walkListsRow.holds Try.pinned (OpenSpec.ofChange walkListsSpec)

/-- ITS FALSE NEIGHBOUR: 'it returns false'. Refute it at one input. -/
def walkListsWrong : ChangeSpec := { name := "walkLists", fn := fun _ => fun
  | [d] => { results := [.lit (.bool false)], args := [d] }
  | _ => none }
def WalkListsWrongFalsely : Prop := walkListsRow.holds Try.pinned (OpenSpec.ofChange walkListsWrong)

/-- 'trestlelaw10.WalkCounts': WHATEVER THE INPUT: true; the input reads as it did. -/
def walkCountsSpec : ChangeSpec := { name := "walkCounts", fn := fun _ => fun
  | [d1, d2] => { results := [.lit (.bool true)], args := [d1, d2] }
  | _ => none }
def walkCountsRow : OpenClaim := { program := "yteheolefemlcgaa", sum := "3b1d8f06b8b568a0f881237d0617d3ac1ceb0883a938690879d621463071df4a", func := "trestle/trestlelaw10.WalkCounts", spec := "walkCounts", unfollowed := true, recurses := true, apart := false }
def WalkCountsSaid : Prop := walkCountsRow.holds Try.pinned (OpenSpec.ofChange walkCountsSpec)

/-- ITS FALSE NEIGHBOUR: 'it returns false'. Refute it at one input. -/
def walkCountsWrong : ChangeSpec := { name := "walkCounts", fn := fun _ => fun
  | [d1, d2] => { results := [.lit (.bool false)], args := [d1, d2] }
  | _ => none }
def WalkCountsWrongFalsely : Prop := walkCountsRow.holds Try.pinned (OpenSpec.ofChange walkCountsWrong)

/-- 'trestlelaw09.BorderTrue': WHATEVER THE INPUT: true; the input reads as it did. -/
def borderTrueSpec : ChangeSpec := { name := "borderTrue", fn := fun _ => fun
  | [d] => { results := [.lit (.bool true)], args := [d] }
  | _ => none }
def borderTrueRow : OpenClaim := { program := "yteheolefemlcgaa", sum := "3b1d8f06b8b568a0f881237d0617d3ac1ceb0883a938690879d621463071df4a", func := "trestle/trestlelaw09.BorderTrue", spec := "borderTrue", unfollowed := true, recurses := true, apart := false }
def BorderTrueSaid : Prop := borderTrueRow.holds Try.pinned (OpenSpec.ofChange borderTrueSpec)

/-- ITS FALSE NEIGHBOUR: 'it returns false'. Refute it at one input. -/
def borderTrueWrong : ChangeSpec := { name := "borderTrue", fn := fun _ => fun
  | [d] => { results := [.lit (.bool false)], args := [d] }
  | _ => none }
def BorderTrueWrongFalsely : Prop := borderTrueRow.holds Try.pinned (OpenSpec.ofChange borderTrueWrong)

/-- 'trestlelaw09.BorderRow': WHATEVER THE INPUT: true; the input reads as it did. -/
def borderRowSpec : ChangeSpec := { name := "borderRow", fn := fun _ => fun
  | [d1, d2, d3] => { results := [.lit (.bool true)], args := [d1, d2, d3] }
  | _ => none }
def borderRowRow : OpenClaim := { program := "yteheolefemlcgaa", sum := "3b1d8f06b8b568a0f881237d0617d3ac1ceb0883a938690879d621463071df4a", func := "trestle/trestlelaw09.BorderRow", spec := "borderRow", unfollowed := true, recurses := true, apart := false }
def BorderRowSaid : Prop := borderRowRow.holds Try.pinned (OpenSpec.ofChange borderRowSpec)

/-- ITS FALSE NEIGHBOUR: 'it returns false'. Refute it at one input. -/
def borderRowWrong : ChangeSpec := { name := "borderRow", fn := fun _ => fun
  | [d1, d2, d3] => { results := [.lit (.bool false)], args := [d1, d2, d3] }
  | _ => none }
def BorderRowWrongFalsely : Prop := borderRowRow.holds Try.pinned (OpenSpec.ofChange borderRowWrong)

/-- 'trestlelaw09.BorderTwice': WHATEVER THE INPUT: true; the input reads as it did. -/
def borderTwiceSpec : ChangeSpec := { name := "borderTwice", fn := fun _ => fun
  | [d] => { results := [.lit (.bool true)], args := [d] }
  | _ => none }
def borderTwiceRow : OpenClaim := { program := "yteheolefemlcgaa", sum := "3b1d8f06b8b568a0f881237d0617d3ac1ceb0883a938690879d621463071df4a", func := "trestle/trestlelaw09.BorderTwice", spec := "borderTwice", unfollowed := true, recurses := true, apart := false }
def BorderTwiceSaid : Prop := borderTwiceRow.holds Try.pinned (OpenSpec.ofChange borderTwiceSpec)

/-- ITS FALSE NEIGHBOUR: 'it returns false'. Refute it at one input. -/
def borderTwiceWrong : ChangeSpec := { name := "borderTwice", fn := fun _ => fun
  | [d] => { results := [.lit (.bool false)], args := [d] }
  | _ => none }
def BorderTwiceWrongFalsely : Prop := borderTwiceRow.holds Try.pinned (OpenSpec.ofChange borderTwiceWrong)

/-- 'trestlelaw09.BorderStacks': WHATEVER THE INPUT: true; the input reads as it did. -/
def borderStacksSpec : ChangeSpec := { name := "borderStacks", fn := fun _ => fun
  | [d1, d2] => { results := [.lit (.bool true)], args := [d1, d2] }
  | _ => none }
def borderStacksRow : OpenClaim := { program := "yteheolefemlcgaa", sum := "3b1d8f06b8b568a0f881237d0617d3ac1ceb0883a938690879d621463071df4a", func := "trestle/trestlelaw09.BorderStacks", spec := "borderStacks", unfollowed := true, recurses := true, apart := false }
def BorderStacksSaid : Prop := borderStacksRow.holds Try.pinned (OpenSpec.ofChange borderStacksSpec)

/-- ITS FALSE NEIGHBOUR: 'it returns false'. Refute it at one input. -/
def borderStacksWrong : ChangeSpec := { name := "borderStacks", fn := fun _ => fun
  | [d1, d2] => { results := [.lit (.bool false)], args := [d1, d2] }
  | _ => none }
def BorderStacksWrongFalsely : Prop := borderStacksRow.holds Try.pinned (OpenSpec.ofChange borderStacksWrong)

/-- 'trestlelaw09.BorderReads': WHATEVER THE INPUT: true; the input reads as it did. -/
def borderReadsSpec : ChangeSpec := { name := "borderReads", fn := fun _ => fun
  | [d] => { results := [.lit (.bool true)], args := [d] }
  | _ => none }
def borderReadsRow : OpenClaim := { program := "yteheolefemlcgaa", sum := "3b1d8f06b8b568a0f881237d0617d3ac1ceb0883a938690879d621463071df4a", func := "trestle/trestlelaw09.BorderReads", spec := "borderReads", unfollowed := true, recurses := true, apart := false }
def BorderReadsSaid : Prop := borderReadsRow.holds Try.pinned (OpenSpec.ofChange borderReadsSpec)

/-- ITS FALSE NEIGHBOUR: 'it returns false'. Refute it at one input. -/
def borderReadsWrong : ChangeSpec := { name := "borderReads", fn := fun _ => fun
  | [d] => { results := [.lit (.bool false)], args := [d] }
  | _ => none }
def BorderReadsWrongFalsely : Prop := borderReadsRow.holds Try.pinned (OpenSpec.ofChange borderReadsWrong)

/- THE SECOND FORM. 'bulk': how many values and letters a reading holds, each counted each time it is reached (what is shared counts as often as it is met; a slice's spare places count too). A statement '..UptoSaid' is the law's where the arguments, and the package variables that the reading takes, are together of bulk at most 1048576: NARROWER than '..Said'. Prove '..Said' where nothing that the law and all that it calls make is longer than what came in: it says more and counts as full. Else prove '..UptoSaid'. A law counts once. -/
mutual
def uptoBulk {H : Type} : DataW H → Nat
  | .lit (.string bytes) => bytes.length + 1
  | .lit _ => 1
  | .nil => 1
  | .ptr d => uptoBulk d + 1
  | .slice elems spare => uptoBulkAll elems + uptoBulkAll spare + 1
  | .agg parts => uptoBulkAll parts + 1
  | .iface _ d => uptoBulk d + 1
  | .map entries => uptoBulkEntries entries + 1
  | .held _ => 1
def uptoBulkAll {H : Type} : List (DataW H) → Nat
  | [] => 0
  | d :: r => uptoBulk d + uptoBulkAll r
def uptoBulkEntries {H : Type} : List (Lit × DataW H) → Nat
  | [] => 0
  | x :: r => uptoBulkEntry x + uptoBulkEntries r
def uptoBulkEntry {H : Type} : Lit × DataW H → Nat
  | (.string bytes, d) => bytes.length + uptoBulk d + 1
  | (_, d) => uptoBulk d + 1
 end
def uptoSmall : (H : Type) → List (DataW H) → Bool := fun _ ds => decide (uptoBulkAll ds ≤ 1048576)
def OpenSpec.upto (s : _root_.Go.ChangeSpec) : _root_.Go.OpenSpec := { _root_.Go.OpenSpec.ofChange s with cond := some uptoSmall }

/-- 'trestlelaw08.TableCells', WHERE WHAT IT READS IS OF BULK AT MOST 1048576: true; the input reads as it did. -/
def tableCellsUptoRow : OpenClaim := { program := "yteheolefemlcgaa", sum := "3b1d8f06b8b568a0f881237d0617d3ac1ceb0883a938690879d621463071df4a", func := "trestle/trestlelaw08.TableCells", spec := "tableCells", unfollowed := true, recurses := true, apart := false, narrowed := true }
def TableCellsUptoSaid : Prop := tableCellsUptoRow.holds Try.pinned (OpenSpec.upto tableCellsSpec)

/-- 'trestlelaw08.TableMap', WHERE WHAT IT READS IS OF BULK AT MOST 1048576: true; the input reads as it did. -/
def tableMapUptoRow : OpenClaim := { program := "yteheolefemlcgaa", sum := "3b1d8f06b8b568a0f881237d0617d3ac1ceb0883a938690879d621463071df4a", func := "trestle/trestlelaw08.TableMap", spec := "tableMap", unfollowed := true, recurses := true, apart := false, narrowed := true }
def TableMapUptoSaid : Prop := tableMapUptoRow.holds Try.pinned (OpenSpec.upto tableMapSpec)

/-- 'trestlelaw08.TableRow', WHERE WHAT IT READS IS OF BULK AT MOST 1048576: true; the input reads as it did. -/
def tableRowUptoRow : OpenClaim := { program := "yteheolefemlcgaa", sum := "3b1d8f06b8b568a0f881237d0617d3ac1ceb0883a938690879d621463071df4a", func := "trestle/trestlelaw08.TableRow", spec := "tableRow", unfollowed := true, recurses := true, apart := false, narrowed := true }
def TableRowUptoSaid : Prop := tableRowUptoRow.holds Try.pinned (OpenSpec.upto tableRowSpec)

/-- 'trestlelaw08.TableValues', WHERE WHAT IT READS IS OF BULK AT MOST 1048576: true; the input reads as it did. -/
def tableValuesUptoRow : OpenClaim := { program := "yteheolefemlcgaa", sum := "3b1d8f06b8b568a0f881237d0617d3ac1ceb0883a938690879d621463071df4a", func := "trestle/trestlelaw08.TableValues", spec := "tableValues", unfollowed := true, recurses := true, apart := false, narrowed := true }
def TableValuesUptoSaid : Prop := tableValuesUptoRow.holds Try.pinned (OpenSpec.upto tableValuesSpec)

/-- 'trestlelaw08.TableClears', WHERE WHAT IT READS IS OF BULK AT MOST 1048576: true; the input reads as it did. -/
def tableClearsUptoRow : OpenClaim := { program := "yteheolefemlcgaa", sum := "3b1d8f06b8b568a0f881237d0617d3ac1ceb0883a938690879d621463071df4a", func := "trestle/trestlelaw08.TableClears", spec := "tableClears", unfollowed := true, recurses := true, apart := false, narrowed := true }
def TableClearsUptoSaid : Prop := tableClearsUptoRow.holds Try.pinned (OpenSpec.upto tableClearsSpec)

/-- 'trestlelaw10.WalkOrder', WHERE WHAT IT READS IS OF BULK AT MOST 1048576: true; the input reads as it did. -/
def walkOrderUptoRow : OpenClaim := { program := "yteheolefemlcgaa", sum := "3b1d8f06b8b568a0f881237d0617d3ac1ceb0883a938690879d621463071df4a", func := "trestle/trestlelaw10.WalkOrder", spec := "walkOrder", unfollowed := true, recurses := true, apart := false, narrowed := true }
def WalkOrderUptoSaid : Prop := walkOrderUptoRow.holds Try.pinned (OpenSpec.upto walkOrderSpec)

/-- 'trestlelaw10.WalkWhole', WHERE WHAT IT READS IS OF BULK AT MOST 1048576: true; the input reads as it did. -/
def walkWholeUptoRow : OpenClaim := { program := "yteheolefemlcgaa", sum := "3b1d8f06b8b568a0f881237d0617d3ac1ceb0883a938690879d621463071df4a", func := "trestle/trestlelaw10.WalkWhole", spec := "walkWhole", unfollowed := true, recurses := true, apart := false, narrowed := true }
def WalkWholeUptoSaid : Prop := walkWholeUptoRow.holds Try.pinned (OpenSpec.upto walkWholeSpec)

/-- 'trestlelaw10.WalkLists', WHERE WHAT IT READS IS OF BULK AT MOST 1048576: true; the input reads as it did. -/
def walkListsUptoRow : OpenClaim := { program := "yteheolefemlcgaa", sum := "3b1d8f06b8b568a0f881237d0617d3ac1ceb0883a938690879d621463071df4a", func := "trestle/trestlelaw10.WalkLists", spec := "walkLists", unfollowed := true, recurses := true, apart := false, narrowed := true }
def WalkListsUptoSaid : Prop := walkListsUptoRow.holds Try.pinned (OpenSpec.upto walkListsSpec)

/-- 'trestlelaw10.WalkCounts', WHERE WHAT IT READS IS OF BULK AT MOST 1048576: true; the input reads as it did. -/
def walkCountsUptoRow : OpenClaim := { program := "yteheolefemlcgaa", sum := "3b1d8f06b8b568a0f881237d0617d3ac1ceb0883a938690879d621463071df4a", func := "trestle/trestlelaw10.WalkCounts", spec := "walkCounts", unfollowed := true, recurses := true, apart := false, narrowed := true }
def WalkCountsUptoSaid : Prop := walkCountsUptoRow.holds Try.pinned (OpenSpec.upto walkCountsSpec)

/-- 'trestlelaw09.BorderTrue', WHERE WHAT IT READS IS OF BULK AT MOST 1048576: true; the input reads as it did. -/
def borderTrueUptoRow : OpenClaim := { program := "yteheolefemlcgaa", sum := "3b1d8f06b8b568a0f881237d0617d3ac1ceb0883a938690879d621463071df4a", func := "trestle/trestlelaw09.BorderTrue", spec := "borderTrue", unfollowed := true, recurses := true, apart := false, narrowed := true }
def BorderTrueUptoSaid : Prop := borderTrueUptoRow.holds Try.pinned (OpenSpec.upto borderTrueSpec)

/-- 'trestlelaw09.BorderRow', WHERE WHAT IT READS IS OF BULK AT MOST 1048576: true; the input reads as it did. -/
def borderRowUptoRow : OpenClaim := { program := "yteheolefemlcgaa", sum := "3b1d8f06b8b568a0f881237d0617d3ac1ceb0883a938690879d621463071df4a", func := "trestle/trestlelaw09.BorderRow", spec := "borderRow", unfollowed := true, recurses := true, apart := false, narrowed := true }
def BorderRowUptoSaid : Prop := borderRowUptoRow.holds Try.pinned (OpenSpec.upto borderRowSpec)

/-- 'trestlelaw09.BorderTwice', WHERE WHAT IT READS IS OF BULK AT MOST 1048576: true; the input reads as it did. -/
def borderTwiceUptoRow : OpenClaim := { program := "yteheolefemlcgaa", sum := "3b1d8f06b8b568a0f881237d0617d3ac1ceb0883a938690879d621463071df4a", func := "trestle/trestlelaw09.BorderTwice", spec := "borderTwice", unfollowed := true, recurses := true, apart := false, narrowed := true }
def BorderTwiceUptoSaid : Prop := borderTwiceUptoRow.holds Try.pinned (OpenSpec.upto borderTwiceSpec)

/-- 'trestlelaw09.BorderStacks', WHERE WHAT IT READS IS OF BULK AT MOST 1048576: true; the input reads as it did. -/
def borderStacksUptoRow : OpenClaim := { program := "yteheolefemlcgaa", sum := "3b1d8f06b8b568a0f881237d0617d3ac1ceb0883a938690879d621463071df4a", func := "trestle/trestlelaw09.BorderStacks", spec := "borderStacks", unfollowed := true, recurses := true, apart := false, narrowed := true }
def BorderStacksUptoSaid : Prop := borderStacksUptoRow.holds Try.pinned (OpenSpec.upto borderStacksSpec)

/-- 'trestlelaw09.BorderReads', WHERE WHAT IT READS IS OF BULK AT MOST 1048576: true; the input reads as it did. -/
def borderReadsUptoRow : OpenClaim := { program := "yteheolefemlcgaa", sum := "3b1d8f06b8b568a0f881237d0617d3ac1ceb0883a938690879d621463071df4a", func := "trestle/trestlelaw09.BorderReads", spec := "borderReads", unfollowed := true, recurses := true, apart := false, narrowed := true }
def BorderReadsUptoSaid : Prop := borderReadsUptoRow.holds Try.pinned (OpenSpec.upto borderReadsSpec)

end Rows
end Go.Proofs.Yteheolefemlcgaa
