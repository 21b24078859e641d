/-
  No cell of these rows narrows 'for every input' (looked for: loops, veiled, ifaces, maps, wideKeys, modest, calm, conditions, laid).
  DERIVED. THE GIVEN ROWS OF THIS SEAT. 13 by the template 'for every input the law returns true; each argument reads behind the call as it read before'; 0 by the template 'total and deterministic' (their statements: YtfhigeefclchiaaTotals.lean).
  GIVEN WITH THE SEED: the statements are not yours to turn. If you find one false, say at which input.
  Laid BY PROGRAM, IN A SANDBOX (cutbox-rows.mjs): the forced cells as the released guide's own fill.sh prints them over the translation 41807c21c7d7cd68… (all of the seat's roots in one cut). By AI agents, Wed Nov 11 2026. No macro, syntax, notation, axiom, sorry.
-/
import Derived.Test.YtfhigeefclchiaaChecked
import GoSem.Claim
import GoSem.ClaimJoined
import GoSem.ClaimMapViews
import Derived.JoinedTies
import Derived.KernelRfl
namespace Go.Proofs.Ytfhigeefclchiaa
/- THE CELL 'sum', in the pinned program and in every row, IS THE sha256 OF THE DUMP (.gsa) THAT YtfhigeefclchiaaProg.lean LOADS. Nothing in Lean hashes anything: it is a label: what it is worth is what the hold of that sum in a sandbox is worth. -/
noncomputable def Try.pinned : Pinned := { name := "ytfhigeefclchiaa", sum := "41807c21c7d7cd68651a9757568f1b86c4d39e3f9f12100208b943b8a7c53152", checked := Try.checked }
namespace Rows
def none {H : Type} : Left H := { results := [], args := [] }

/-- 'trestlelaw05.CensusCounts': WHATEVER THE INPUT: true; the input reads as it did. -/
def censusCountsSpec : ChangeSpec := { name := "censusCounts", fn := fun _ => fun
  | [d1, d2] => { results := [.lit (.bool true)], args := [d1, d2] }
  | _ => none }
def censusCountsRow : OpenClaim := { program := "ytfhigeefclchiaa", sum := "41807c21c7d7cd68651a9757568f1b86c4d39e3f9f12100208b943b8a7c53152", func := "trestle/trestlelaw05.CensusCounts", spec := "censusCounts", unfollowed := true, recurses := true, apart := false }
def CensusCountsSaid : Prop := censusCountsRow.holds Try.pinned (OpenSpec.ofChange censusCountsSpec)

/-- ITS FALSE NEIGHBOUR: 'it returns false'. Refute it at one input. -/
def censusCountsWrong : ChangeSpec := { name := "censusCounts", fn := fun _ => fun
  | [d1, d2] => { results := [.lit (.bool false)], args := [d1, d2] }
  | _ => none }
def CensusCountsWrongFalsely : Prop := censusCountsRow.holds Try.pinned (OpenSpec.ofChange censusCountsWrong)

/-- 'trestlelaw05.CensusChooses': WHATEVER THE INPUT: true; the input reads as it did. -/
def censusChoosesSpec : ChangeSpec := { name := "censusChooses", fn := fun _ => fun
  | [d] => { results := [.lit (.bool true)], args := [d] }
  | _ => none }
def censusChoosesRow : OpenClaim := { program := "ytfhigeefclchiaa", sum := "41807c21c7d7cd68651a9757568f1b86c4d39e3f9f12100208b943b8a7c53152", func := "trestle/trestlelaw05.CensusChooses", spec := "censusChooses", unfollowed := true, recurses := true, apart := false }
def CensusChoosesSaid : Prop := censusChoosesRow.holds Try.pinned (OpenSpec.ofChange censusChoosesSpec)

/-- ITS FALSE NEIGHBOUR: 'it returns false'. Refute it at one input. -/
def censusChoosesWrong : ChangeSpec := { name := "censusChooses", fn := fun _ => fun
  | [d] => { results := [.lit (.bool false)], args := [d] }
  | _ => none }
def CensusChoosesWrongFalsely : Prop := censusChoosesRow.holds Try.pinned (OpenSpec.ofChange censusChoosesWrong)

/-- 'trestlelaw05.CensusSizes': WHATEVER THE INPUT: true; the input reads as it did. -/
def censusSizesSpec : ChangeSpec := { name := "censusSizes", fn := fun _ => fun
  | [d1, d2] => { results := [.lit (.bool true)], args := [d1, d2] }
  | _ => none }
def censusSizesRow : OpenClaim := { program := "ytfhigeefclchiaa", sum := "41807c21c7d7cd68651a9757568f1b86c4d39e3f9f12100208b943b8a7c53152", func := "trestle/trestlelaw05.CensusSizes", spec := "censusSizes", unfollowed := true, recurses := true, apart := false }
def CensusSizesSaid : Prop := censusSizesRow.holds Try.pinned (OpenSpec.ofChange censusSizesSpec)

/-- ITS FALSE NEIGHBOUR: 'it returns false'. Refute it at one input. -/
def censusSizesWrong : ChangeSpec := { name := "censusSizes", fn := fun _ => fun
  | [d1, d2] => { results := [.lit (.bool false)], args := [d1, d2] }
  | _ => none }
def CensusSizesWrongFalsely : Prop := censusSizesRow.holds Try.pinned (OpenSpec.ofChange censusSizesWrong)

/-- 'trestlelaw05.CensusDense': WHATEVER THE INPUT: true; the input reads as it did. -/
def censusDenseSpec : ChangeSpec := { name := "censusDense", fn := fun _ => fun
  | [d1, d2] => { results := [.lit (.bool true)], args := [d1, d2] }
  | _ => none }
def censusDenseRow : OpenClaim := { program := "ytfhigeefclchiaa", sum := "41807c21c7d7cd68651a9757568f1b86c4d39e3f9f12100208b943b8a7c53152", func := "trestle/trestlelaw05.CensusDense", spec := "censusDense", unfollowed := true, recurses := true, apart := false }
def CensusDenseSaid : Prop := censusDenseRow.holds Try.pinned (OpenSpec.ofChange censusDenseSpec)

/-- ITS FALSE NEIGHBOUR: 'it returns false'. Refute it at one input. -/
def censusDenseWrong : ChangeSpec := { name := "censusDense", fn := fun _ => fun
  | [d1, d2] => { results := [.lit (.bool false)], args := [d1, d2] }
  | _ => none }
def CensusDenseWrongFalsely : Prop := censusDenseRow.holds Try.pinned (OpenSpec.ofChange censusDenseWrong)

/-- 'trestlelaw05.CensusMemory': WHATEVER THE INPUT: true; the input reads as it did. -/
def censusMemorySpec : ChangeSpec := { name := "censusMemory", fn := fun _ => fun
  | [d] => { results := [.lit (.bool true)], args := [d] }
  | _ => none }
def censusMemoryRow : OpenClaim := { program := "ytfhigeefclchiaa", sum := "41807c21c7d7cd68651a9757568f1b86c4d39e3f9f12100208b943b8a7c53152", func := "trestle/trestlelaw05.CensusMemory", spec := "censusMemory", unfollowed := true, recurses := true, apart := false }
def CensusMemorySaid : Prop := censusMemoryRow.holds Try.pinned (OpenSpec.ofChange censusMemorySpec)

/-- ITS FALSE NEIGHBOUR: 'it returns false'. Refute it at one input. -/
def censusMemoryWrong : ChangeSpec := { name := "censusMemory", fn := fun _ => fun
  | [d] => { results := [.lit (.bool false)], args := [d] }
  | _ => none }
def CensusMemoryWrongFalsely : Prop := censusMemoryRow.holds Try.pinned (OpenSpec.ofChange censusMemoryWrong)

/-- 'trestlelaw05.CensusRow': WHATEVER THE INPUT: true; the input reads as it did. -/
def censusRowSpec : ChangeSpec := { name := "censusRow", fn := fun _ => fun
  | [d1, d2] => { results := [.lit (.bool true)], args := [d1, d2] }
  | _ => none }
def censusRowRow : OpenClaim := { program := "ytfhigeefclchiaa", sum := "41807c21c7d7cd68651a9757568f1b86c4d39e3f9f12100208b943b8a7c53152", func := "trestle/trestlelaw05.CensusRow", spec := "censusRow", unfollowed := true, recurses := true, apart := false }
def CensusRowSaid : Prop := censusRowRow.holds Try.pinned (OpenSpec.ofChange censusRowSpec)

/-- ITS FALSE NEIGHBOUR: 'it returns false'. Refute it at one input. -/
def censusRowWrong : ChangeSpec := { name := "censusRow", fn := fun _ => fun
  | [d1, d2] => { results := [.lit (.bool false)], args := [d1, d2] }
  | _ => none }
def CensusRowWrongFalsely : Prop := censusRowRow.holds Try.pinned (OpenSpec.ofChange censusRowWrong)

/-- 'trestlelaw05.CensusAdds': WHATEVER THE INPUT: true; the input reads as it did. -/
def censusAddsSpec : ChangeSpec := { name := "censusAdds", fn := fun _ => fun
  | [d1, d2] => { results := [.lit (.bool true)], args := [d1, d2] }
  | _ => none }
def censusAddsRow : OpenClaim := { program := "ytfhigeefclchiaa", sum := "41807c21c7d7cd68651a9757568f1b86c4d39e3f9f12100208b943b8a7c53152", func := "trestle/trestlelaw05.CensusAdds", spec := "censusAdds", unfollowed := true, recurses := true, apart := false }
def CensusAddsSaid : Prop := censusAddsRow.holds Try.pinned (OpenSpec.ofChange censusAddsSpec)

/-- ITS FALSE NEIGHBOUR: 'it returns false'. Refute it at one input. -/
def censusAddsWrong : ChangeSpec := { name := "censusAdds", fn := fun _ => fun
  | [d1, d2] => { results := [.lit (.bool false)], args := [d1, d2] }
  | _ => none }
def CensusAddsWrongFalsely : Prop := censusAddsRow.holds Try.pinned (OpenSpec.ofChange censusAddsWrong)

/-- 'trestlelaw06.HeapPlays': WHATEVER THE INPUT: true; the input reads as it did. -/
def heapPlaysSpec : ChangeSpec := { name := "heapPlays", fn := fun _ => fun
  | [d1, d2] => { results := [.lit (.bool true)], args := [d1, d2] }
  | _ => none }
def heapPlaysRow : OpenClaim := { program := "ytfhigeefclchiaa", sum := "41807c21c7d7cd68651a9757568f1b86c4d39e3f9f12100208b943b8a7c53152", func := "trestle/trestlelaw06.HeapPlays", spec := "heapPlays", unfollowed := true, recurses := true, apart := false }
def HeapPlaysSaid : Prop := heapPlaysRow.holds Try.pinned (OpenSpec.ofChange heapPlaysSpec)

/-- ITS FALSE NEIGHBOUR: 'it returns false'. Refute it at one input. -/
def heapPlaysWrong : ChangeSpec := { name := "heapPlays", fn := fun _ => fun
  | [d1, d2] => { results := [.lit (.bool false)], args := [d1, d2] }
  | _ => none }
def HeapPlaysWrongFalsely : Prop := heapPlaysRow.holds Try.pinned (OpenSpec.ofChange heapPlaysWrong)

/-- 'trestlelaw06.HeapMemory': WHATEVER THE INPUT: true; the input reads as it did. -/
def heapMemorySpec : ChangeSpec := { name := "heapMemory", fn := fun _ => fun
  | [d1, d2] => { results := [.lit (.bool true)], args := [d1, d2] }
  | _ => none }
def heapMemoryRow : OpenClaim := { program := "ytfhigeefclchiaa", sum := "41807c21c7d7cd68651a9757568f1b86c4d39e3f9f12100208b943b8a7c53152", func := "trestle/trestlelaw06.HeapMemory", spec := "heapMemory", unfollowed := true, recurses := true, apart := false }
def HeapMemorySaid : Prop := heapMemoryRow.holds Try.pinned (OpenSpec.ofChange heapMemorySpec)

/-- ITS FALSE NEIGHBOUR: 'it returns false'. Refute it at one input. -/
def heapMemoryWrong : ChangeSpec := { name := "heapMemory", fn := fun _ => fun
  | [d1, d2] => { results := [.lit (.bool false)], args := [d1, d2] }
  | _ => none }
def HeapMemoryWrongFalsely : Prop := heapMemoryRow.holds Try.pinned (OpenSpec.ofChange heapMemoryWrong)

/-- 'trestlelaw06.HeapCalls': WHATEVER THE INPUT: true; the input reads as it did. -/
def heapCallsSpec : ChangeSpec := { name := "heapCalls", fn := fun _ => fun
  | [d1, d2] => { results := [.lit (.bool true)], args := [d1, d2] }
  | _ => none }
def heapCallsRow : OpenClaim := { program := "ytfhigeefclchiaa", sum := "41807c21c7d7cd68651a9757568f1b86c4d39e3f9f12100208b943b8a7c53152", func := "trestle/trestlelaw06.HeapCalls", spec := "heapCalls", unfollowed := true, recurses := true, apart := false }
def HeapCallsSaid : Prop := heapCallsRow.holds Try.pinned (OpenSpec.ofChange heapCallsSpec)

/-- ITS FALSE NEIGHBOUR: 'it returns false'. Refute it at one input. -/
def heapCallsWrong : ChangeSpec := { name := "heapCalls", fn := fun _ => fun
  | [d1, d2] => { results := [.lit (.bool false)], args := [d1, d2] }
  | _ => none }
def HeapCallsWrongFalsely : Prop := heapCallsRow.holds Try.pinned (OpenSpec.ofChange heapCallsWrong)

/-- 'trestlelaw06.HeapLives': WHATEVER THE INPUT: true; the input reads as it did. -/
def heapLivesSpec : ChangeSpec := { name := "heapLives", fn := fun _ => fun
  | [d1, d2, d3] => { results := [.lit (.bool true)], args := [d1, d2, d3] }
  | _ => none }
def heapLivesRow : OpenClaim := { program := "ytfhigeefclchiaa", sum := "41807c21c7d7cd68651a9757568f1b86c4d39e3f9f12100208b943b8a7c53152", func := "trestle/trestlelaw06.HeapLives", spec := "heapLives", unfollowed := true, recurses := true, apart := false }
def HeapLivesSaid : Prop := heapLivesRow.holds Try.pinned (OpenSpec.ofChange heapLivesSpec)

/-- ITS FALSE NEIGHBOUR: 'it returns false'. Refute it at one input. -/
def heapLivesWrong : ChangeSpec := { name := "heapLives", fn := fun _ => fun
  | [d1, d2, d3] => { results := [.lit (.bool false)], args := [d1, d2, d3] }
  | _ => none }
def HeapLivesWrongFalsely : Prop := heapLivesRow.holds Try.pinned (OpenSpec.ofChange heapLivesWrong)

/-- 'trestlelaw06.HeapLast': WHATEVER THE INPUT: true; the input reads as it did. -/
def heapLastSpec : ChangeSpec := { name := "heapLast", fn := fun _ => fun
  | [d1, d2] => { results := [.lit (.bool true)], args := [d1, d2] }
  | _ => none }
def heapLastRow : OpenClaim := { program := "ytfhigeefclchiaa", sum := "41807c21c7d7cd68651a9757568f1b86c4d39e3f9f12100208b943b8a7c53152", func := "trestle/trestlelaw06.HeapLast", spec := "heapLast", unfollowed := true, recurses := true, apart := false }
def HeapLastSaid : Prop := heapLastRow.holds Try.pinned (OpenSpec.ofChange heapLastSpec)

/-- ITS FALSE NEIGHBOUR: 'it returns false'. Refute it at one input. -/
def heapLastWrong : ChangeSpec := { name := "heapLast", fn := fun _ => fun
  | [d1, d2] => { results := [.lit (.bool false)], args := [d1, d2] }
  | _ => none }
def HeapLastWrongFalsely : Prop := heapLastRow.holds Try.pinned (OpenSpec.ofChange heapLastWrong)

/-- 'trestlelaw06.HeapSizes': WHATEVER THE INPUT: true; the input reads as it did. -/
def heapSizesSpec : ChangeSpec := { name := "heapSizes", fn := fun _ => fun
  | [d1, d2] => { results := [.lit (.bool true)], args := [d1, d2] }
  | _ => none }
def heapSizesRow : OpenClaim := { program := "ytfhigeefclchiaa", sum := "41807c21c7d7cd68651a9757568f1b86c4d39e3f9f12100208b943b8a7c53152", func := "trestle/trestlelaw06.HeapSizes", spec := "heapSizes", unfollowed := true, recurses := true, apart := false }
def HeapSizesSaid : Prop := heapSizesRow.holds Try.pinned (OpenSpec.ofChange heapSizesSpec)

/-- ITS FALSE NEIGHBOUR: 'it returns false'. Refute it at one input. -/
def heapSizesWrong : ChangeSpec := { name := "heapSizes", fn := fun _ => fun
  | [d1, d2] => { results := [.lit (.bool false)], args := [d1, d2] }
  | _ => none }
def HeapSizesWrongFalsely : Prop := heapSizesRow.holds Try.pinned (OpenSpec.ofChange heapSizesWrong)

/- THE SECOND FORM. 'bulk': how many values and letters a reading holds, each counted each time it is reached (what is shared counts as often as it is met; a slice's spare places count too). A statement '..UptoSaid' is the law's where the arguments, and the package variables that the reading takes, are together of bulk at most 1048576: NARROWER than '..Said'. Prove '..Said' where nothing that the law and all that it calls make is longer than what came in: it says more and counts as full. Else prove '..UptoSaid'. A law counts once. -/
mutual
def uptoBulk {H : Type} : DataW H → Nat
  | .lit (.string bytes) => bytes.length + 1
  | .lit _ => 1
  | .nil => 1
  | .ptr d => uptoBulk d + 1
  | .slice elems spare => uptoBulkAll elems + uptoBulkAll spare + 1
  | .agg parts => uptoBulkAll parts + 1
  | .iface _ d => uptoBulk d + 1
  | .map entries => uptoBulkEntries entries + 1
  | .held _ => 1
def uptoBulkAll {H : Type} : List (DataW H) → Nat
  | [] => 0
  | d :: r => uptoBulk d + uptoBulkAll r
def uptoBulkEntries {H : Type} : List (Lit × DataW H) → Nat
  | [] => 0
  | x :: r => uptoBulkEntry x + uptoBulkEntries r
def uptoBulkEntry {H : Type} : Lit × DataW H → Nat
  | (.string bytes, d) => bytes.length + uptoBulk d + 1
  | (_, d) => uptoBulk d + 1
 end
def uptoSmall : (H : Type) → List (DataW H) → Bool := fun _ ds => decide (uptoBulkAll ds ≤ 1048576)
def OpenSpec.upto (s : _root_.Go.ChangeSpec) : _root_.Go.OpenSpec := { _root_.Go.OpenSpec.ofChange s with cond := some uptoSmall }

/-- 'trestlelaw05.CensusCounts', WHERE WHAT IT READS IS OF BULK AT MOST 1048576: true; the input reads as it did. -/
def censusCountsUptoRow : OpenClaim := { program := "ytfhigeefclchiaa", sum := "41807c21c7d7cd68651a9757568f1b86c4d39e3f9f12100208b943b8a7c53152", func := "trestle/trestlelaw05.CensusCounts", spec := "censusCounts", unfollowed := true, recurses := true, apart := false, narrowed := true }
def CensusCountsUptoSaid : Prop := censusCountsUptoRow.holds Try.pinned (OpenSpec.upto censusCountsSpec)

/-- 'trestlelaw05.CensusChooses', WHERE WHAT IT READS IS OF BULK AT MOST 1048576: true; the input reads as it did. -/
def censusChoosesUptoRow : OpenClaim := { program := "ytfhigeefclchiaa", sum := "41807c21c7d7cd68651a9757568f1b86c4d39e3f9f12100208b943b8a7c53152", func := "trestle/trestlelaw05.CensusChooses", spec := "censusChooses", unfollowed := true, recurses := true, apart := false, narrowed := true }
def CensusChoosesUptoSaid : Prop := censusChoosesUptoRow.holds Try.pinned (OpenSpec.upto censusChoosesSpec)

/-- 'trestlelaw05.CensusSizes', WHERE WHAT IT READS IS OF BULK AT MOST 1048576: true; the input reads as it did. -/
def censusSizesUptoRow : OpenClaim := { program := "ytfhigeefclchiaa", sum := "41807c21c7d7cd68651a9757568f1b86c4d39e3f9f12100208b943b8a7c53152", func := "trestle/trestlelaw05.CensusSizes", spec := "censusSizes", unfollowed := true, recurses := true, apart := false, narrowed := true }
def CensusSizesUptoSaid : Prop := censusSizesUptoRow.holds Try.pinned (OpenSpec.upto censusSizesSpec)

/-- 'trestlelaw05.CensusDense', WHERE WHAT IT READS IS OF BULK AT MOST 1048576: true; the input reads as it did. -/
def censusDenseUptoRow : OpenClaim := { program := "ytfhigeefclchiaa", sum := "41807c21c7d7cd68651a9757568f1b86c4d39e3f9f12100208b943b8a7c53152", func := "trestle/trestlelaw05.CensusDense", spec := "censusDense", unfollowed := true, recurses := true, apart := false, narrowed := true }
def CensusDenseUptoSaid : Prop := censusDenseUptoRow.holds Try.pinned (OpenSpec.upto censusDenseSpec)

/-- 'trestlelaw05.CensusMemory', WHERE WHAT IT READS IS OF BULK AT MOST 1048576: true; the input reads as it did. -/
def censusMemoryUptoRow : OpenClaim := { program := "ytfhigeefclchiaa", sum := "41807c21c7d7cd68651a9757568f1b86c4d39e3f9f12100208b943b8a7c53152", func := "trestle/trestlelaw05.CensusMemory", spec := "censusMemory", unfollowed := true, recurses := true, apart := false, narrowed := true }
def CensusMemoryUptoSaid : Prop := censusMemoryUptoRow.holds Try.pinned (OpenSpec.upto censusMemorySpec)

/-- 'trestlelaw05.CensusRow', WHERE WHAT IT READS IS OF BULK AT MOST 1048576: true; the input reads as it did. -/
def censusRowUptoRow : OpenClaim := { program := "ytfhigeefclchiaa", sum := "41807c21c7d7cd68651a9757568f1b86c4d39e3f9f12100208b943b8a7c53152", func := "trestle/trestlelaw05.CensusRow", spec := "censusRow", unfollowed := true, recurses := true, apart := false, narrowed := true }
def CensusRowUptoSaid : Prop := censusRowUptoRow.holds Try.pinned (OpenSpec.upto censusRowSpec)

/-- 'trestlelaw05.CensusAdds', WHERE WHAT IT READS IS OF BULK AT MOST 1048576: true; the input reads as it did. -/
def censusAddsUptoRow : OpenClaim := { program := "ytfhigeefclchiaa", sum := "41807c21c7d7cd68651a9757568f1b86c4d39e3f9f12100208b943b8a7c53152", func := "trestle/trestlelaw05.CensusAdds", spec := "censusAdds", unfollowed := true, recurses := true, apart := false, narrowed := true }
def CensusAddsUptoSaid : Prop := censusAddsUptoRow.holds Try.pinned (OpenSpec.upto censusAddsSpec)

/-- 'trestlelaw06.HeapPlays', WHERE WHAT IT READS IS OF BULK AT MOST 1048576: true; the input reads as it did. -/
def heapPlaysUptoRow : OpenClaim := { program := "ytfhigeefclchiaa", sum := "41807c21c7d7cd68651a9757568f1b86c4d39e3f9f12100208b943b8a7c53152", func := "trestle/trestlelaw06.HeapPlays", spec := "heapPlays", unfollowed := true, recurses := true, apart := false, narrowed := true }
def HeapPlaysUptoSaid : Prop := heapPlaysUptoRow.holds Try.pinned (OpenSpec.upto heapPlaysSpec)

/-- 'trestlelaw06.HeapMemory', WHERE WHAT IT READS IS OF BULK AT MOST 1048576: true; the input reads as it did. -/
def heapMemoryUptoRow : OpenClaim := { program := "ytfhigeefclchiaa", sum := "41807c21c7d7cd68651a9757568f1b86c4d39e3f9f12100208b943b8a7c53152", func := "trestle/trestlelaw06.HeapMemory", spec := "heapMemory", unfollowed := true, recurses := true, apart := false, narrowed := true }
def HeapMemoryUptoSaid : Prop := heapMemoryUptoRow.holds Try.pinned (OpenSpec.upto heapMemorySpec)

/-- 'trestlelaw06.HeapCalls', WHERE WHAT IT READS IS OF BULK AT MOST 1048576: true; the input reads as it did. -/
def heapCallsUptoRow : OpenClaim := { program := "ytfhigeefclchiaa", sum := "41807c21c7d7cd68651a9757568f1b86c4d39e3f9f12100208b943b8a7c53152", func := "trestle/trestlelaw06.HeapCalls", spec := "heapCalls", unfollowed := true, recurses := true, apart := false, narrowed := true }
def HeapCallsUptoSaid : Prop := heapCallsUptoRow.holds Try.pinned (OpenSpec.upto heapCallsSpec)

/-- 'trestlelaw06.HeapLives', WHERE WHAT IT READS IS OF BULK AT MOST 1048576: true; the input reads as it did. -/
def heapLivesUptoRow : OpenClaim := { program := "ytfhigeefclchiaa", sum := "41807c21c7d7cd68651a9757568f1b86c4d39e3f9f12100208b943b8a7c53152", func := "trestle/trestlelaw06.HeapLives", spec := "heapLives", unfollowed := true, recurses := true, apart := false, narrowed := true }
def HeapLivesUptoSaid : Prop := heapLivesUptoRow.holds Try.pinned (OpenSpec.upto heapLivesSpec)

/-- 'trestlelaw06.HeapLast', WHERE WHAT IT READS IS OF BULK AT MOST 1048576: true; the input reads as it did. -/
def heapLastUptoRow : OpenClaim := { program := "ytfhigeefclchiaa", sum := "41807c21c7d7cd68651a9757568f1b86c4d39e3f9f12100208b943b8a7c53152", func := "trestle/trestlelaw06.HeapLast", spec := "heapLast", unfollowed := true, recurses := true, apart := false, narrowed := true }
def HeapLastUptoSaid : Prop := heapLastUptoRow.holds Try.pinned (OpenSpec.upto heapLastSpec)

/-- 'trestlelaw06.HeapSizes', WHERE WHAT IT READS IS OF BULK AT MOST 1048576: true; the input reads as it did. -/
def heapSizesUptoRow : OpenClaim := { program := "ytfhigeefclchiaa", sum := "41807c21c7d7cd68651a9757568f1b86c4d39e3f9f12100208b943b8a7c53152", func := "trestle/trestlelaw06.HeapSizes", spec := "heapSizes", unfollowed := true, recurses := true, apart := false, narrowed := true }
def HeapSizesUptoSaid : Prop := heapSizesUptoRow.holds Try.pinned (OpenSpec.upto heapSizesSpec)

end Rows
end Go.Proofs.Ytfhigeefclchiaa
