/-
  No cell of these rows narrows 'for every input' (looked for: loops, veiled, ifaces, maps, wideKeys, modest, calm, conditions, laid).
  DERIVED. THE GIVEN ROWS OF THIS SEAT. 6 by the template 'for every input the law returns true; each argument reads behind the call as it read before'; 0 by the template 'total and deterministic' (their statements: YteheolefemlcgaaGreatTotals.lean).
  GIVEN WITH THE SEED: the statements are not yours to turn. If you find one false, say at which input.
  Laid BY PROGRAM, IN A SANDBOX (cutbox-rows.mjs): the forced cells as the released guide's own fill.sh prints them over the translation bf2af385bdccbdfd… (all of the seat's roots in one cut). By AI agents, Wed Nov 11 2026. No macro, syntax, notation, axiom, sorry.
-/
import Derived.Test.YteheolefemlcgaaGreatChecked
import GoSem.Claim
import GoSem.ClaimJoined
import GoSem.ClaimMapViews
import Derived.JoinedTies
import Derived.KernelRfl
namespace Go.Proofs.YteheolefemlcgaaGreat
/- THE CELL 'sum', in the pinned program and in every row, IS THE sha256 OF THE DUMP (.gsa) THAT YteheolefemlcgaaGreatProg.lean LOADS. Nothing in Lean hashes anything: it is a label: what it is worth is what the hold of that sum in a sandbox is worth. -/
noncomputable def Tryz.pinned : Pinned := { name := "yteheolefemlcgaagreat", sum := "bf2af385bdccbdfdb7e3530332f0686f37163afc2e6ed0b19c5afcd20cad7da9", checked := Tryz.checked }
namespace Rows
def none {H : Type} : Left H := { results := [], args := [] }

/-- 'trestlelaw08.TableMemory': WHATEVER THE INPUT: true; the input reads as it did. -/
def tableMemorySpec : ChangeSpec := { name := "tableMemory", fn := fun _ => fun
  | [d] => { results := [.lit (.bool true)], args := [d] }
  | _ => none }
def tableMemoryRow : OpenClaim := { program := "yteheolefemlcgaagreat", sum := "bf2af385bdccbdfdb7e3530332f0686f37163afc2e6ed0b19c5afcd20cad7da9", func := "trestle/trestlelaw08.TableMemory", spec := "tableMemory", unfollowed := true, recurses := true, apart := false }
def TableMemorySaid : Prop := tableMemoryRow.holds Tryz.pinned (OpenSpec.ofChange tableMemorySpec)

/-- ITS FALSE NEIGHBOUR: 'it returns false'. Refute it at one input. -/
def tableMemoryWrong : ChangeSpec := { name := "tableMemory", fn := fun _ => fun
  | [d] => { results := [.lit (.bool false)], args := [d] }
  | _ => none }
def TableMemoryWrongFalsely : Prop := tableMemoryRow.holds Tryz.pinned (OpenSpec.ofChange tableMemoryWrong)

/-- 'trestlelaw08.TableReads': WHATEVER THE INPUT: true; the input reads as it did. -/
def tableReadsSpec : ChangeSpec := { name := "tableReads", fn := fun _ => fun
  | [d1, d2] => { results := [.lit (.bool true)], args := [d1, d2] }
  | _ => none }
def tableReadsRow : OpenClaim := { program := "yteheolefemlcgaagreat", sum := "bf2af385bdccbdfdb7e3530332f0686f37163afc2e6ed0b19c5afcd20cad7da9", func := "trestle/trestlelaw08.TableReads", spec := "tableReads", unfollowed := true, recurses := true, apart := false }
def TableReadsSaid : Prop := tableReadsRow.holds Tryz.pinned (OpenSpec.ofChange tableReadsSpec)

/-- ITS FALSE NEIGHBOUR: 'it returns false'. Refute it at one input. -/
def tableReadsWrong : ChangeSpec := { name := "tableReads", fn := fun _ => fun
  | [d1, d2] => { results := [.lit (.bool false)], args := [d1, d2] }
  | _ => none }
def TableReadsWrongFalsely : Prop := tableReadsRow.holds Tryz.pinned (OpenSpec.ofChange tableReadsWrong)

/-- 'trestlelaw10.WalkPlays': WHATEVER THE INPUT: true; the input reads as it did. -/
def walkPlaysSpec : ChangeSpec := { name := "walkPlays", fn := fun _ => fun
  | [d] => { results := [.lit (.bool true)], args := [d] }
  | _ => none }
def walkPlaysRow : OpenClaim := { program := "yteheolefemlcgaagreat", sum := "bf2af385bdccbdfdb7e3530332f0686f37163afc2e6ed0b19c5afcd20cad7da9", func := "trestle/trestlelaw10.WalkPlays", spec := "walkPlays", unfollowed := true, recurses := true, apart := false }
def WalkPlaysSaid : Prop := walkPlaysRow.holds Tryz.pinned (OpenSpec.ofChange walkPlaysSpec)

/-- ITS FALSE NEIGHBOUR: 'it returns false'. Refute it at one input. -/
def walkPlaysWrong : ChangeSpec := { name := "walkPlays", fn := fun _ => fun
  | [d] => { results := [.lit (.bool false)], args := [d] }
  | _ => none }
def WalkPlaysWrongFalsely : Prop := walkPlaysRow.holds Tryz.pinned (OpenSpec.ofChange walkPlaysWrong)

/-- 'trestlelaw08.TableRehash': WHATEVER THE INPUT: true; the input reads as it did. -/
def tableRehashSpec : ChangeSpec := { name := "tableRehash", fn := fun _ => fun
  | [d] => { results := [.lit (.bool true)], args := [d] }
  | _ => none }
def tableRehashRow : OpenClaim := { program := "yteheolefemlcgaagreat", sum := "bf2af385bdccbdfdb7e3530332f0686f37163afc2e6ed0b19c5afcd20cad7da9", func := "trestle/trestlelaw08.TableRehash", spec := "tableRehash", unfollowed := true, recurses := true, apart := false }
def TableRehashSaid : Prop := tableRehashRow.holds Tryz.pinned (OpenSpec.ofChange tableRehashSpec)

/-- ITS FALSE NEIGHBOUR: 'it returns false'. Refute it at one input. -/
def tableRehashWrong : ChangeSpec := { name := "tableRehash", fn := fun _ => fun
  | [d] => { results := [.lit (.bool false)], args := [d] }
  | _ => none }
def TableRehashWrongFalsely : Prop := tableRehashRow.holds Tryz.pinned (OpenSpec.ofChange tableRehashWrong)

/-- 'trestlelaw10.WalkKeys': WHATEVER THE INPUT: true; the input reads as it did. -/
def walkKeysSpec : ChangeSpec := { name := "walkKeys", fn := fun _ => fun
  | [d1, d2] => { results := [.lit (.bool true)], args := [d1, d2] }
  | _ => none }
def walkKeysRow : OpenClaim := { program := "yteheolefemlcgaagreat", sum := "bf2af385bdccbdfdb7e3530332f0686f37163afc2e6ed0b19c5afcd20cad7da9", func := "trestle/trestlelaw10.WalkKeys", spec := "walkKeys", unfollowed := true, recurses := true, apart := false }
def WalkKeysSaid : Prop := walkKeysRow.holds Tryz.pinned (OpenSpec.ofChange walkKeysSpec)

/-- ITS FALSE NEIGHBOUR: 'it returns false'. Refute it at one input. -/
def walkKeysWrong : ChangeSpec := { name := "walkKeys", fn := fun _ => fun
  | [d1, d2] => { results := [.lit (.bool false)], args := [d1, d2] }
  | _ => none }
def WalkKeysWrongFalsely : Prop := walkKeysRow.holds Tryz.pinned (OpenSpec.ofChange walkKeysWrong)

/-- 'trestlelaw09.BorderPlays': WHATEVER THE INPUT: true; the input reads as it did. -/
def borderPlaysSpec : ChangeSpec := { name := "borderPlays", fn := fun _ => fun
  | [d] => { results := [.lit (.bool true)], args := [d] }
  | _ => none }
def borderPlaysRow : OpenClaim := { program := "yteheolefemlcgaagreat", sum := "bf2af385bdccbdfdb7e3530332f0686f37163afc2e6ed0b19c5afcd20cad7da9", func := "trestle/trestlelaw09.BorderPlays", spec := "borderPlays", unfollowed := true, recurses := true, apart := false }
def BorderPlaysSaid : Prop := borderPlaysRow.holds Tryz.pinned (OpenSpec.ofChange borderPlaysSpec)

/-- ITS FALSE NEIGHBOUR: 'it returns false'. Refute it at one input. -/
def borderPlaysWrong : ChangeSpec := { name := "borderPlays", fn := fun _ => fun
  | [d] => { results := [.lit (.bool false)], args := [d] }
  | _ => none }
def BorderPlaysWrongFalsely : Prop := borderPlaysRow.holds Tryz.pinned (OpenSpec.ofChange borderPlaysWrong)

/- THE SECOND FORM. 'bulk': how many values and letters a reading holds, each counted each time it is reached (what is shared counts as often as it is met; a slice's spare places count too). A statement '..UptoSaid' is the law's where the arguments, and the package variables that the reading takes, are together of bulk at most 1048576: NARROWER than '..Said'. Prove '..Said' where nothing that the law and all that it calls make is longer than what came in: it says more and counts as full. Else prove '..UptoSaid'. A law counts once. -/
mutual
def uptoBulk {H : Type} : DataW H → Nat
  | .lit (.string bytes) => bytes.length + 1
  | .lit _ => 1
  | .nil => 1
  | .ptr d => uptoBulk d + 1
  | .slice elems spare => uptoBulkAll elems + uptoBulkAll spare + 1
  | .agg parts => uptoBulkAll parts + 1
  | .iface _ d => uptoBulk d + 1
  | .map entries => uptoBulkEntries entries + 1
  | .held _ => 1
def uptoBulkAll {H : Type} : List (DataW H) → Nat
  | [] => 0
  | d :: r => uptoBulk d + uptoBulkAll r
def uptoBulkEntries {H : Type} : List (Lit × DataW H) → Nat
  | [] => 0
  | x :: r => uptoBulkEntry x + uptoBulkEntries r
def uptoBulkEntry {H : Type} : Lit × DataW H → Nat
  | (.string bytes, d) => bytes.length + uptoBulk d + 1
  | (_, d) => uptoBulk d + 1
 end
def uptoSmall : (H : Type) → List (DataW H) → Bool := fun _ ds => decide (uptoBulkAll ds ≤ 1048576)
def OpenSpec.upto (s : _root_.Go.ChangeSpec) : _root_.Go.OpenSpec := { _root_.Go.OpenSpec.ofChange s with cond := some uptoSmall }

/-- 'trestlelaw08.TableMemory', WHERE WHAT IT READS IS OF BULK AT MOST 1048576: true; the input reads as it did. -/
def tableMemoryUptoRow : OpenClaim := { program := "yteheolefemlcgaagreat", sum := "bf2af385bdccbdfdb7e3530332f0686f37163afc2e6ed0b19c5afcd20cad7da9", func := "trestle/trestlelaw08.TableMemory", spec := "tableMemory", unfollowed := true, recurses := true, apart := false, narrowed := true }
def TableMemoryUptoSaid : Prop := tableMemoryUptoRow.holds Tryz.pinned (OpenSpec.upto tableMemorySpec)

/-- 'trestlelaw08.TableReads', WHERE WHAT IT READS IS OF BULK AT MOST 1048576: true; the input reads as it did. -/
def tableReadsUptoRow : OpenClaim := { program := "yteheolefemlcgaagreat", sum := "bf2af385bdccbdfdb7e3530332f0686f37163afc2e6ed0b19c5afcd20cad7da9", func := "trestle/trestlelaw08.TableReads", spec := "tableReads", unfollowed := true, recurses := true, apart := false, narrowed := true }
def TableReadsUptoSaid : Prop := tableReadsUptoRow.holds Tryz.pinned (OpenSpec.upto tableReadsSpec)

/-- 'trestlelaw10.WalkPlays', WHERE WHAT IT READS IS OF BULK AT MOST 1048576: true; the input reads as it did. -/
def walkPlaysUptoRow : OpenClaim := { program := "yteheolefemlcgaagreat", sum := "bf2af385bdccbdfdb7e3530332f0686f37163afc2e6ed0b19c5afcd20cad7da9", func := "trestle/trestlelaw10.WalkPlays", spec := "walkPlays", unfollowed := true, recurses := true, apart := false, narrowed := true }
def WalkPlaysUptoSaid : Prop := walkPlaysUptoRow.holds Tryz.pinned (OpenSpec.upto walkPlaysSpec)

/-- 'trestlelaw08.TableRehash', WHERE WHAT IT READS IS OF BULK AT MOST 1048576: true; the input reads as it did. -/
def tableRehashUptoRow : OpenClaim := { program := "yteheolefemlcgaagreat", sum := "bf2af385bdccbdfdb7e3530332f0686f37163afc2e6ed0b19c5afcd20cad7da9", func := "trestle/trestlelaw08.TableRehash", spec := "tableRehash", unfollowed := true, recurses := true, apart := false, narrowed := true }
def TableRehashUptoSaid : Prop := tableRehashUptoRow.holds Tryz.pinned (OpenSpec.upto tableRehashSpec)

/-- 'trestlelaw10.WalkKeys', WHERE WHAT IT READS IS OF BULK AT MOST 1048576: true; the input reads as it did. -/
def walkKeysUptoRow : OpenClaim := { program := "yteheolefemlcgaagreat", sum := "bf2af385bdccbdfdb7e3530332f0686f37163afc2e6ed0b19c5afcd20cad7da9", func := "trestle/trestlelaw10.WalkKeys", spec := "walkKeys", unfollowed := true, recurses := true, apart := false, narrowed := true }
def WalkKeysUptoSaid : Prop := walkKeysUptoRow.holds Tryz.pinned (OpenSpec.upto walkKeysSpec)

/-- 'trestlelaw09.BorderPlays', WHERE WHAT IT READS IS OF BULK AT MOST 1048576: true; the input reads as it did. -/
def borderPlaysUptoRow : OpenClaim := { program := "yteheolefemlcgaagreat", sum := "bf2af385bdccbdfdb7e3530332f0686f37163afc2e6ed0b19c5afcd20cad7da9", func := "trestle/trestlelaw09.BorderPlays", spec := "borderPlays", unfollowed := true, recurses := true, apart := false, narrowed := true }
def BorderPlaysUptoSaid : Prop := borderPlaysUptoRow.holds Tryz.pinned (OpenSpec.upto borderPlaysSpec)

end Rows
end Go.Proofs.YteheolefemlcgaaGreat
