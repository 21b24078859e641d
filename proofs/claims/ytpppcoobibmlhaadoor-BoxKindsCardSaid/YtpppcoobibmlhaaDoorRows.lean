/-
  NARROWER THAN 'FOR EVERY INPUT', by the rows' own cells (each row's printed sentence says how): WordsTexts: laid · WordsDigits: laid · BoxJoins: laid · BoxTexts: laid · WordsSums: laid · WordsRing: laid · WordsPowers: laid · WordsTurns: laid · WordsDoubles: laid · BoxKinds: laid · BoxPairs: laid · BoxOne: laid · BoxOrders: laid · BoxForms: laid.
  DERIVED. THE GIVEN ROWS OF THIS SEAT. 14 by the template 'for every input the law returns true; each argument reads behind the call as it read before'; 0 by the template 'total and deterministic' (their statements: YtpppcoobibmlhaaDoorTotals.lean).
  GIVEN WITH THE SEED: the statements are not yours to turn. If you find one false, say at which input.
  Laid BY PROGRAM, IN A SANDBOX (cutbox-rows.mjs): the forced cells as the released guide's own fill.sh prints them over the translation 959217c7321da722… (all of the seat's roots in one cut). By AI agents, Wed Nov 11 2026. No macro, syntax, notation, axiom, sorry.
-/
import Derived.Test.YtpppcoobibmlhaaDoorChecked
import GoSem.Claim
import GoSem.ClaimJoined
import GoSem.ClaimMapViews
import Derived.JoinedTies
import Derived.KernelRfl
namespace Go.Proofs.YtpppcoobibmlhaaDoor
/- THE CELL 'sum', in the pinned program and in every row, IS THE sha256 OF THE DUMP (.gsa) THAT YtpppcoobibmlhaaDoorProg.lean LOADS. Nothing in Lean hashes anything: it is a label: what it is worth is what the hold of that sum in a sandbox is worth. -/
noncomputable def Tryd.pinned : Pinned := { name := "ytpppcoobibmlhaadoor", sum := "959217c7321da72288a186ea3e584ae03161d9970dcfa06005eca185cb81125e", checked := Tryd.checked }
namespace Rows
def none {H : Type} : Left H := { results := [], args := [] }

/- WHAT THE LISTED PACKAGE-LEVEL VARIABLES READ AS WHEN THE CALL BEGINS. Each datum BY PROGRAM (the guide's laid-datum.mjs) off the statement by which the dump's own 'gosem.cut.vars' lays the variable. In a bare row this is a premise. The card (YtpppcoobibmlhaaDoorCards.lean) ties it to the program's text. -/
def laid_math_bits_deBruijn32tab {H : Type} : DataW H := .agg [.lit (.int .u8 0), .lit (.int .u8 1), .lit (.int .u8 28), .lit (.int .u8 2), .lit (.int .u8 29), .lit (.int .u8 14), .lit (.int .u8 24), .lit (.int .u8 3), .lit (.int .u8 30), .lit (.int .u8 22), .lit (.int .u8 20), .lit (.int .u8 15), .lit (.int .u8 25), .lit (.int .u8 17), .lit (.int .u8 4), .lit (.int .u8 8), .lit (.int .u8 31), .lit (.int .u8 27), .lit (.int .u8 13), .lit (.int .u8 23), .lit (.int .u8 21), .lit (.int .u8 19), .lit (.int .u8 16), .lit (.int .u8 7), .lit (.int .u8 26), .lit (.int .u8 12), .lit (.int .u8 18), .lit (.int .u8 6), .lit (.int .u8 11), .lit (.int .u8 5), .lit (.int .u8 10), .lit (.int .u8 9)]
def laid_math_bits_deBruijn64tab {H : Type} : DataW H := .agg [.lit (.int .u8 0), .lit (.int .u8 1), .lit (.int .u8 56), .lit (.int .u8 2), .lit (.int .u8 57), .lit (.int .u8 49), .lit (.int .u8 28), .lit (.int .u8 3), .lit (.int .u8 61), .lit (.int .u8 58), .lit (.int .u8 42), .lit (.int .u8 50), .lit (.int .u8 38), .lit (.int .u8 29), .lit (.int .u8 17), .lit (.int .u8 4), .lit (.int .u8 62), .lit (.int .u8 47), .lit (.int .u8 59), .lit (.int .u8 36), .lit (.int .u8 45), .lit (.int .u8 43), .lit (.int .u8 51), .lit (.int .u8 22), .lit (.int .u8 53), .lit (.int .u8 39), .lit (.int .u8 33), .lit (.int .u8 30), .lit (.int .u8 24), .lit (.int .u8 18), .lit (.int .u8 12), .lit (.int .u8 5), .lit (.int .u8 63), .lit (.int .u8 55), .lit (.int .u8 48), .lit (.int .u8 27), .lit (.int .u8 60), .lit (.int .u8 41), .lit (.int .u8 37), .lit (.int .u8 16), .lit (.int .u8 46), .lit (.int .u8 35), .lit (.int .u8 44), .lit (.int .u8 21), .lit (.int .u8 52), .lit (.int .u8 32), .lit (.int .u8 23), .lit (.int .u8 11), .lit (.int .u8 54), .lit (.int .u8 26), .lit (.int .u8 40), .lit (.int .u8 15), .lit (.int .u8 34), .lit (.int .u8 20), .lit (.int .u8 31), .lit (.int .u8 10), .lit (.int .u8 25), .lit (.int .u8 14), .lit (.int .u8 19), .lit (.int .u8 9), .lit (.int .u8 13), .lit (.int .u8 8), .lit (.int .u8 7), .lit (.int .u8 6)]
def laid_internal_strconv_uint64pow10 {H : Type} : DataW H := .agg [.lit (.int .u64 1), .lit (.int .u64 10), .lit (.int .u64 100), .lit (.int .u64 1000), .lit (.int .u64 10000), .lit (.int .u64 100000), .lit (.int .u64 1000000), .lit (.int .u64 10000000), .lit (.int .u64 100000000), .lit (.int .u64 1000000000), .lit (.int .u64 10000000000), .lit (.int .u64 100000000000), .lit (.int .u64 1000000000000), .lit (.int .u64 10000000000000), .lit (.int .u64 100000000000000), .lit (.int .u64 1000000000000000), .lit (.int .u64 10000000000000000), .lit (.int .u64 100000000000000000), .lit (.int .u64 1000000000000000000), .lit (.int .u64 10000000000000000000)]

/-- 'trestlelaw02.WordsTexts': WHATEVER THE INPUT: true; the input reads as it did. -/
def wordsTextsSpec : ChangeSpec := { name := "wordsTexts", fn := fun _ => fun
  | [d1, d2] => { results := [.lit (.bool true)], args := [d1, d2] }
  | _ => none }
def wordsTextsRow : OpenClaim := { program := "ytpppcoobibmlhaadoor", sum := "959217c7321da72288a186ea3e584ae03161d9970dcfa06005eca185cb81125e", func := "trestle/trestlelaw02.WordsTexts", spec := "wordsTexts", inPlace := ["math/bits.Add64"], unfollowed := true, recurses := true, named := ["internal/strconv.uint64pow10", "math/bits.deBruijn32tab", "math/bits.deBruijn64tab"], apart := false, laid := [("math/bits.deBruijn32tab", laid_math_bits_deBruijn32tab), ("math/bits.deBruijn64tab", laid_math_bits_deBruijn64tab), ("internal/strconv.uint64pow10", laid_internal_strconv_uint64pow10)] }
def WordsTextsSaid : Prop := wordsTextsRow.holds Tryd.pinned (OpenSpec.ofChange wordsTextsSpec)

/-- ITS FALSE NEIGHBOUR: 'it returns false'. Refute it at one input. -/
def wordsTextsWrong : ChangeSpec := { name := "wordsTexts", fn := fun _ => fun
  | [d1, d2] => { results := [.lit (.bool false)], args := [d1, d2] }
  | _ => none }
def WordsTextsWrongFalsely : Prop := wordsTextsRow.holds Tryd.pinned (OpenSpec.ofChange wordsTextsWrong)

/-- 'trestlelaw02.WordsDigits': WHATEVER THE INPUT: true; the input reads as it did. -/
def wordsDigitsSpec : ChangeSpec := { name := "wordsDigits", fn := fun _ => fun
  | [d1, d2] => { results := [.lit (.bool true)], args := [d1, d2] }
  | _ => none }
def wordsDigitsRow : OpenClaim := { program := "ytpppcoobibmlhaadoor", sum := "959217c7321da72288a186ea3e584ae03161d9970dcfa06005eca185cb81125e", func := "trestle/trestlelaw02.WordsDigits", spec := "wordsDigits", inPlace := ["math/bits.Add64"], unfollowed := true, recurses := true, named := ["internal/strconv.uint64pow10", "math/bits.deBruijn32tab", "math/bits.deBruijn64tab"], apart := false, laid := [("math/bits.deBruijn32tab", laid_math_bits_deBruijn32tab), ("math/bits.deBruijn64tab", laid_math_bits_deBruijn64tab), ("internal/strconv.uint64pow10", laid_internal_strconv_uint64pow10)] }
def WordsDigitsSaid : Prop := wordsDigitsRow.holds Tryd.pinned (OpenSpec.ofChange wordsDigitsSpec)

/-- ITS FALSE NEIGHBOUR: 'it returns false'. Refute it at one input. -/
def wordsDigitsWrong : ChangeSpec := { name := "wordsDigits", fn := fun _ => fun
  | [d1, d2] => { results := [.lit (.bool false)], args := [d1, d2] }
  | _ => none }
def WordsDigitsWrongFalsely : Prop := wordsDigitsRow.holds Tryd.pinned (OpenSpec.ofChange wordsDigitsWrong)

/-- 'trestlelaw03.BoxJoins': WHATEVER THE INPUT: true; the input reads as it did. -/
def boxJoinsSpec : ChangeSpec := { name := "boxJoins", fn := fun _ => fun
  | [d1, d2, d3] => { results := [.lit (.bool true)], args := [d1, d2, d3] }
  | _ => none }
def boxJoinsRow : OpenClaim := { program := "ytpppcoobibmlhaadoor", sum := "959217c7321da72288a186ea3e584ae03161d9970dcfa06005eca185cb81125e", func := "trestle/trestlelaw03.BoxJoins", spec := "boxJoins", unfollowed := true, recurses := true, named := ["internal/strconv.uint64pow10", "math/bits.deBruijn32tab", "math/bits.deBruijn64tab"], apart := false, laid := [("math/bits.deBruijn32tab", laid_math_bits_deBruijn32tab), ("math/bits.deBruijn64tab", laid_math_bits_deBruijn64tab), ("internal/strconv.uint64pow10", laid_internal_strconv_uint64pow10)] }
def BoxJoinsSaid : Prop := boxJoinsRow.holds Tryd.pinned (OpenSpec.ofChange boxJoinsSpec)

/-- ITS FALSE NEIGHBOUR: 'it returns false'. Refute it at one input. -/
def boxJoinsWrong : ChangeSpec := { name := "boxJoins", fn := fun _ => fun
  | [d1, d2, d3] => { results := [.lit (.bool false)], args := [d1, d2, d3] }
  | _ => none }
def BoxJoinsWrongFalsely : Prop := boxJoinsRow.holds Tryd.pinned (OpenSpec.ofChange boxJoinsWrong)

/-- 'trestlelaw03.BoxTexts': WHATEVER THE INPUT: true; the input reads as it did. -/
def boxTextsSpec : ChangeSpec := { name := "boxTexts", fn := fun _ => fun
  | [d1, d2] => { results := [.lit (.bool true)], args := [d1, d2] }
  | _ => none }
def boxTextsRow : OpenClaim := { program := "ytpppcoobibmlhaadoor", sum := "959217c7321da72288a186ea3e584ae03161d9970dcfa06005eca185cb81125e", func := "trestle/trestlelaw03.BoxTexts", spec := "boxTexts", unfollowed := true, recurses := true, named := ["internal/strconv.uint64pow10", "math/bits.deBruijn32tab", "math/bits.deBruijn64tab"], apart := false, laid := [("math/bits.deBruijn32tab", laid_math_bits_deBruijn32tab), ("math/bits.deBruijn64tab", laid_math_bits_deBruijn64tab), ("internal/strconv.uint64pow10", laid_internal_strconv_uint64pow10)] }
def BoxTextsSaid : Prop := boxTextsRow.holds Tryd.pinned (OpenSpec.ofChange boxTextsSpec)

/-- ITS FALSE NEIGHBOUR: 'it returns false'. Refute it at one input. -/
def boxTextsWrong : ChangeSpec := { name := "boxTexts", fn := fun _ => fun
  | [d1, d2] => { results := [.lit (.bool false)], args := [d1, d2] }
  | _ => none }
def BoxTextsWrongFalsely : Prop := boxTextsRow.holds Tryd.pinned (OpenSpec.ofChange boxTextsWrong)

/-- 'trestlelaw02.WordsSums': WHATEVER THE INPUT: true; the input reads as it did. -/
def wordsSumsSpec : ChangeSpec := { name := "wordsSums", fn := fun _ => fun
  | [d1, d2] => { results := [.lit (.bool true)], args := [d1, d2] }
  | _ => none }
def wordsSumsRow : OpenClaim := { program := "ytpppcoobibmlhaadoor", sum := "959217c7321da72288a186ea3e584ae03161d9970dcfa06005eca185cb81125e", func := "trestle/trestlelaw02.WordsSums", spec := "wordsSums", inPlace := ["math/bits.Add64"], unfollowed := true, recurses := true, named := ["internal/strconv.uint64pow10", "math/bits.deBruijn32tab", "math/bits.deBruijn64tab"], apart := false, laid := [("math/bits.deBruijn32tab", laid_math_bits_deBruijn32tab), ("math/bits.deBruijn64tab", laid_math_bits_deBruijn64tab), ("internal/strconv.uint64pow10", laid_internal_strconv_uint64pow10)] }
def WordsSumsSaid : Prop := wordsSumsRow.holds Tryd.pinned (OpenSpec.ofChange wordsSumsSpec)

/-- ITS FALSE NEIGHBOUR: 'it returns false'. Refute it at one input. -/
def wordsSumsWrong : ChangeSpec := { name := "wordsSums", fn := fun _ => fun
  | [d1, d2] => { results := [.lit (.bool false)], args := [d1, d2] }
  | _ => none }
def WordsSumsWrongFalsely : Prop := wordsSumsRow.holds Tryd.pinned (OpenSpec.ofChange wordsSumsWrong)

/-- 'trestlelaw02.WordsRing': WHATEVER THE INPUT: true; the input reads as it did. -/
def wordsRingSpec : ChangeSpec := { name := "wordsRing", fn := fun _ => fun
  | [d1, d2, d3] => { results := [.lit (.bool true)], args := [d1, d2, d3] }
  | _ => none }
def wordsRingRow : OpenClaim := { program := "ytpppcoobibmlhaadoor", sum := "959217c7321da72288a186ea3e584ae03161d9970dcfa06005eca185cb81125e", func := "trestle/trestlelaw02.WordsRing", spec := "wordsRing", inPlace := ["math/bits.Add64"], unfollowed := true, recurses := true, named := ["internal/strconv.uint64pow10", "math/bits.deBruijn32tab", "math/bits.deBruijn64tab"], apart := false, laid := [("math/bits.deBruijn32tab", laid_math_bits_deBruijn32tab), ("math/bits.deBruijn64tab", laid_math_bits_deBruijn64tab), ("internal/strconv.uint64pow10", laid_internal_strconv_uint64pow10)] }
def WordsRingSaid : Prop := wordsRingRow.holds Tryd.pinned (OpenSpec.ofChange wordsRingSpec)

/-- ITS FALSE NEIGHBOUR: 'it returns false'. Refute it at one input. -/
def wordsRingWrong : ChangeSpec := { name := "wordsRing", fn := fun _ => fun
  | [d1, d2, d3] => { results := [.lit (.bool false)], args := [d1, d2, d3] }
  | _ => none }
def WordsRingWrongFalsely : Prop := wordsRingRow.holds Tryd.pinned (OpenSpec.ofChange wordsRingWrong)

/-- 'trestlelaw02.WordsPowers': WHATEVER THE INPUT: true; the input reads as it did. -/
def wordsPowersSpec : ChangeSpec := { name := "wordsPowers", fn := fun _ => fun
  | [d] => { results := [.lit (.bool true)], args := [d] }
  | _ => none }
def wordsPowersRow : OpenClaim := { program := "ytpppcoobibmlhaadoor", sum := "959217c7321da72288a186ea3e584ae03161d9970dcfa06005eca185cb81125e", func := "trestle/trestlelaw02.WordsPowers", spec := "wordsPowers", inPlace := ["math/bits.Add64"], unfollowed := true, recurses := true, named := ["internal/strconv.uint64pow10", "math/bits.deBruijn32tab", "math/bits.deBruijn64tab"], apart := false, laid := [("math/bits.deBruijn32tab", laid_math_bits_deBruijn32tab), ("math/bits.deBruijn64tab", laid_math_bits_deBruijn64tab), ("internal/strconv.uint64pow10", laid_internal_strconv_uint64pow10)] }
def WordsPowersSaid : Prop := wordsPowersRow.holds Tryd.pinned (OpenSpec.ofChange wordsPowersSpec)

/-- ITS FALSE NEIGHBOUR: 'it returns false'. Refute it at one input. -/
def wordsPowersWrong : ChangeSpec := { name := "wordsPowers", fn := fun _ => fun
  | [d] => { results := [.lit (.bool false)], args := [d] }
  | _ => none }
def WordsPowersWrongFalsely : Prop := wordsPowersRow.holds Tryd.pinned (OpenSpec.ofChange wordsPowersWrong)

/-- 'trestlelaw02.WordsTurns': WHATEVER THE INPUT: true; the input reads as it did. -/
def wordsTurnsSpec : ChangeSpec := { name := "wordsTurns", fn := fun _ => fun
  | [d1, d2, d3] => { results := [.lit (.bool true)], args := [d1, d2, d3] }
  | _ => none }
def wordsTurnsRow : OpenClaim := { program := "ytpppcoobibmlhaadoor", sum := "959217c7321da72288a186ea3e584ae03161d9970dcfa06005eca185cb81125e", func := "trestle/trestlelaw02.WordsTurns", spec := "wordsTurns", inPlace := ["math/bits.Add64"], unfollowed := true, recurses := true, named := ["internal/strconv.uint64pow10", "math/bits.deBruijn32tab", "math/bits.deBruijn64tab"], apart := false, laid := [("math/bits.deBruijn32tab", laid_math_bits_deBruijn32tab), ("math/bits.deBruijn64tab", laid_math_bits_deBruijn64tab), ("internal/strconv.uint64pow10", laid_internal_strconv_uint64pow10)] }
def WordsTurnsSaid : Prop := wordsTurnsRow.holds Tryd.pinned (OpenSpec.ofChange wordsTurnsSpec)

/-- ITS FALSE NEIGHBOUR: 'it returns false'. Refute it at one input. -/
def wordsTurnsWrong : ChangeSpec := { name := "wordsTurns", fn := fun _ => fun
  | [d1, d2, d3] => { results := [.lit (.bool false)], args := [d1, d2, d3] }
  | _ => none }
def WordsTurnsWrongFalsely : Prop := wordsTurnsRow.holds Tryd.pinned (OpenSpec.ofChange wordsTurnsWrong)

/-- 'trestlelaw02.WordsDoubles': WHATEVER THE INPUT: true; the input reads as it did. -/
def wordsDoublesSpec : ChangeSpec := { name := "wordsDoubles", fn := fun _ => fun
  | [d] => { results := [.lit (.bool true)], args := [d] }
  | _ => none }
def wordsDoublesRow : OpenClaim := { program := "ytpppcoobibmlhaadoor", sum := "959217c7321da72288a186ea3e584ae03161d9970dcfa06005eca185cb81125e", func := "trestle/trestlelaw02.WordsDoubles", spec := "wordsDoubles", inPlace := ["math/bits.Add64"], unfollowed := true, recurses := true, named := ["internal/strconv.uint64pow10", "math/bits.deBruijn32tab", "math/bits.deBruijn64tab"], apart := false, laid := [("math/bits.deBruijn32tab", laid_math_bits_deBruijn32tab), ("math/bits.deBruijn64tab", laid_math_bits_deBruijn64tab), ("internal/strconv.uint64pow10", laid_internal_strconv_uint64pow10)] }
def WordsDoublesSaid : Prop := wordsDoublesRow.holds Tryd.pinned (OpenSpec.ofChange wordsDoublesSpec)

/-- ITS FALSE NEIGHBOUR: 'it returns false'. Refute it at one input. -/
def wordsDoublesWrong : ChangeSpec := { name := "wordsDoubles", fn := fun _ => fun
  | [d] => { results := [.lit (.bool false)], args := [d] }
  | _ => none }
def WordsDoublesWrongFalsely : Prop := wordsDoublesRow.holds Tryd.pinned (OpenSpec.ofChange wordsDoublesWrong)

/-- 'trestlelaw03.BoxKinds': WHATEVER THE INPUT: true; the input reads as it did. -/
def boxKindsSpec : ChangeSpec := { name := "boxKinds", fn := fun _ => fun
  | [d1, d2] => { results := [.lit (.bool true)], args := [d1, d2] }
  | _ => none }
def boxKindsRow : OpenClaim := { program := "ytpppcoobibmlhaadoor", sum := "959217c7321da72288a186ea3e584ae03161d9970dcfa06005eca185cb81125e", func := "trestle/trestlelaw03.BoxKinds", spec := "boxKinds", unfollowed := true, recurses := true, named := ["internal/strconv.uint64pow10", "math/bits.deBruijn32tab", "math/bits.deBruijn64tab"], apart := false, laid := [("math/bits.deBruijn32tab", laid_math_bits_deBruijn32tab), ("math/bits.deBruijn64tab", laid_math_bits_deBruijn64tab), ("internal/strconv.uint64pow10", laid_internal_strconv_uint64pow10)] }
def BoxKindsSaid : Prop := boxKindsRow.holds Tryd.pinned (OpenSpec.ofChange boxKindsSpec)

/-- ITS FALSE NEIGHBOUR: 'it returns false'. Refute it at one input. -/
def boxKindsWrong : ChangeSpec := { name := "boxKinds", fn := fun _ => fun
  | [d1, d2] => { results := [.lit (.bool false)], args := [d1, d2] }
  | _ => none }
def BoxKindsWrongFalsely : Prop := boxKindsRow.holds Tryd.pinned (OpenSpec.ofChange boxKindsWrong)

/-- 'trestlelaw03.BoxPairs': WHATEVER THE INPUT: true; the input reads as it did. -/
def boxPairsSpec : ChangeSpec := { name := "boxPairs", fn := fun _ => fun
  | [d1, d2] => { results := [.lit (.bool true)], args := [d1, d2] }
  | _ => none }
def boxPairsRow : OpenClaim := { program := "ytpppcoobibmlhaadoor", sum := "959217c7321da72288a186ea3e584ae03161d9970dcfa06005eca185cb81125e", func := "trestle/trestlelaw03.BoxPairs", spec := "boxPairs", inPlace := ["internal/bytealg.abigen_runtime_cmpstring"], unfollowed := true, recurses := true, named := ["internal/strconv.uint64pow10", "math/bits.deBruijn32tab", "math/bits.deBruijn64tab"], apart := false, laid := [("math/bits.deBruijn32tab", laid_math_bits_deBruijn32tab), ("math/bits.deBruijn64tab", laid_math_bits_deBruijn64tab), ("internal/strconv.uint64pow10", laid_internal_strconv_uint64pow10)] }
def BoxPairsSaid : Prop := boxPairsRow.holds Tryd.pinned (OpenSpec.ofChange boxPairsSpec)

/-- ITS FALSE NEIGHBOUR: 'it returns false'. Refute it at one input. -/
def boxPairsWrong : ChangeSpec := { name := "boxPairs", fn := fun _ => fun
  | [d1, d2] => { results := [.lit (.bool false)], args := [d1, d2] }
  | _ => none }
def BoxPairsWrongFalsely : Prop := boxPairsRow.holds Tryd.pinned (OpenSpec.ofChange boxPairsWrong)

/-- 'trestlelaw03.BoxOne': WHATEVER THE INPUT: true; the input reads as it did. -/
def boxOneSpec : ChangeSpec := { name := "boxOne", fn := fun _ => fun
  | [d] => { results := [.lit (.bool true)], args := [d] }
  | _ => none }
def boxOneRow : OpenClaim := { program := "ytpppcoobibmlhaadoor", sum := "959217c7321da72288a186ea3e584ae03161d9970dcfa06005eca185cb81125e", func := "trestle/trestlelaw03.BoxOne", spec := "boxOne", unfollowed := true, recurses := true, named := ["internal/strconv.uint64pow10", "math/bits.deBruijn32tab", "math/bits.deBruijn64tab"], apart := false, laid := [("math/bits.deBruijn32tab", laid_math_bits_deBruijn32tab), ("math/bits.deBruijn64tab", laid_math_bits_deBruijn64tab), ("internal/strconv.uint64pow10", laid_internal_strconv_uint64pow10)] }
def BoxOneSaid : Prop := boxOneRow.holds Tryd.pinned (OpenSpec.ofChange boxOneSpec)

/-- ITS FALSE NEIGHBOUR: 'it returns false'. Refute it at one input. -/
def boxOneWrong : ChangeSpec := { name := "boxOne", fn := fun _ => fun
  | [d] => { results := [.lit (.bool false)], args := [d] }
  | _ => none }
def BoxOneWrongFalsely : Prop := boxOneRow.holds Tryd.pinned (OpenSpec.ofChange boxOneWrong)

/-- 'trestlelaw03.BoxOrders': WHATEVER THE INPUT: true; the input reads as it did. -/
def boxOrdersSpec : ChangeSpec := { name := "boxOrders", fn := fun _ => fun
  | [d1, d2, d3] => { results := [.lit (.bool true)], args := [d1, d2, d3] }
  | _ => none }
def boxOrdersRow : OpenClaim := { program := "ytpppcoobibmlhaadoor", sum := "959217c7321da72288a186ea3e584ae03161d9970dcfa06005eca185cb81125e", func := "trestle/trestlelaw03.BoxOrders", spec := "boxOrders", inPlace := ["internal/bytealg.abigen_runtime_cmpstring"], unfollowed := true, recurses := true, named := ["internal/strconv.uint64pow10", "math/bits.deBruijn32tab", "math/bits.deBruijn64tab"], apart := false, laid := [("math/bits.deBruijn32tab", laid_math_bits_deBruijn32tab), ("math/bits.deBruijn64tab", laid_math_bits_deBruijn64tab), ("internal/strconv.uint64pow10", laid_internal_strconv_uint64pow10)] }
def BoxOrdersSaid : Prop := boxOrdersRow.holds Tryd.pinned (OpenSpec.ofChange boxOrdersSpec)

/-- ITS FALSE NEIGHBOUR: 'it returns false'. Refute it at one input. -/
def boxOrdersWrong : ChangeSpec := { name := "boxOrders", fn := fun _ => fun
  | [d1, d2, d3] => { results := [.lit (.bool false)], args := [d1, d2, d3] }
  | _ => none }
def BoxOrdersWrongFalsely : Prop := boxOrdersRow.holds Tryd.pinned (OpenSpec.ofChange boxOrdersWrong)

/-- 'trestlelaw03.BoxForms': WHATEVER THE INPUT: true; the input reads as it did. -/
def boxFormsSpec : ChangeSpec := { name := "boxForms", fn := fun _ => fun
  | [d] => { results := [.lit (.bool true)], args := [d] }
  | _ => none }
def boxFormsRow : OpenClaim := { program := "ytpppcoobibmlhaadoor", sum := "959217c7321da72288a186ea3e584ae03161d9970dcfa06005eca185cb81125e", func := "trestle/trestlelaw03.BoxForms", spec := "boxForms", unfollowed := true, recurses := true, named := ["internal/strconv.uint64pow10", "math/bits.deBruijn32tab", "math/bits.deBruijn64tab"], apart := false, laid := [("math/bits.deBruijn32tab", laid_math_bits_deBruijn32tab), ("math/bits.deBruijn64tab", laid_math_bits_deBruijn64tab), ("internal/strconv.uint64pow10", laid_internal_strconv_uint64pow10)] }
def BoxFormsSaid : Prop := boxFormsRow.holds Tryd.pinned (OpenSpec.ofChange boxFormsSpec)

/-- ITS FALSE NEIGHBOUR: 'it returns false'. Refute it at one input. -/
def boxFormsWrong : ChangeSpec := { name := "boxForms", fn := fun _ => fun
  | [d] => { results := [.lit (.bool false)], args := [d] }
  | _ => none }
def BoxFormsWrongFalsely : Prop := boxFormsRow.holds Tryd.pinned (OpenSpec.ofChange boxFormsWrong)

/- THE SECOND FORM. 'bulk': how many values and letters a reading holds, each counted each time it is reached (what is shared counts as often as it is met; a slice's spare places count too). A statement '..UptoSaid' is the law's where the arguments, and the package variables that the reading takes, are together of bulk at most 1048576: NARROWER than '..Said'. Prove '..Said' where nothing that the law and all that it calls make is longer than what came in: it says more and counts as full. Else prove '..UptoSaid'. A law counts once. -/
mutual
def uptoBulk {H : Type} : DataW H → Nat
  | .lit (.string bytes) => bytes.length + 1
  | .lit _ => 1
  | .nil => 1
  | .ptr d => uptoBulk d + 1
  | .slice elems spare => uptoBulkAll elems + uptoBulkAll spare + 1
  | .agg parts => uptoBulkAll parts + 1
  | .iface _ d => uptoBulk d + 1
  | .map entries => uptoBulkEntries entries + 1
  | .held _ => 1
def uptoBulkAll {H : Type} : List (DataW H) → Nat
  | [] => 0
  | d :: r => uptoBulk d + uptoBulkAll r
def uptoBulkEntries {H : Type} : List (Lit × DataW H) → Nat
  | [] => 0
  | x :: r => uptoBulkEntry x + uptoBulkEntries r
def uptoBulkEntry {H : Type} : Lit × DataW H → Nat
  | (.string bytes, d) => bytes.length + uptoBulk d + 1
  | (_, d) => uptoBulk d + 1
 end
def uptoSmall : (H : Type) → List (DataW H) → Bool := fun _ ds => decide (uptoBulkAll ds ≤ 1048576)
def OpenSpec.upto (s : _root_.Go.ChangeSpec) : _root_.Go.OpenSpec := { _root_.Go.OpenSpec.ofChange s with cond := some uptoSmall }

/-- 'trestlelaw02.WordsTexts', WHERE WHAT IT READS IS OF BULK AT MOST 1048576: true; the input reads as it did. -/
def wordsTextsUptoRow : OpenClaim := { program := "ytpppcoobibmlhaadoor", sum := "959217c7321da72288a186ea3e584ae03161d9970dcfa06005eca185cb81125e", func := "trestle/trestlelaw02.WordsTexts", spec := "wordsTexts", inPlace := ["math/bits.Add64"], unfollowed := true, recurses := true, named := ["internal/strconv.uint64pow10", "math/bits.deBruijn32tab", "math/bits.deBruijn64tab"], apart := false, laid := [("math/bits.deBruijn32tab", laid_math_bits_deBruijn32tab), ("math/bits.deBruijn64tab", laid_math_bits_deBruijn64tab), ("internal/strconv.uint64pow10", laid_internal_strconv_uint64pow10)], narrowed := true }
def WordsTextsUptoSaid : Prop := wordsTextsUptoRow.holds Tryd.pinned (OpenSpec.upto wordsTextsSpec)

/-- 'trestlelaw02.WordsDigits', WHERE WHAT IT READS IS OF BULK AT MOST 1048576: true; the input reads as it did. -/
def wordsDigitsUptoRow : OpenClaim := { program := "ytpppcoobibmlhaadoor", sum := "959217c7321da72288a186ea3e584ae03161d9970dcfa06005eca185cb81125e", func := "trestle/trestlelaw02.WordsDigits", spec := "wordsDigits", inPlace := ["math/bits.Add64"], unfollowed := true, recurses := true, named := ["internal/strconv.uint64pow10", "math/bits.deBruijn32tab", "math/bits.deBruijn64tab"], apart := false, laid := [("math/bits.deBruijn32tab", laid_math_bits_deBruijn32tab), ("math/bits.deBruijn64tab", laid_math_bits_deBruijn64tab), ("internal/strconv.uint64pow10", laid_internal_strconv_uint64pow10)], narrowed := true }
def WordsDigitsUptoSaid : Prop := wordsDigitsUptoRow.holds Tryd.pinned (OpenSpec.upto wordsDigitsSpec)

/-- 'trestlelaw03.BoxJoins', WHERE WHAT IT READS IS OF BULK AT MOST 1048576: true; the input reads as it did. -/
def boxJoinsUptoRow : OpenClaim := { program := "ytpppcoobibmlhaadoor", sum := "959217c7321da72288a186ea3e584ae03161d9970dcfa06005eca185cb81125e", func := "trestle/trestlelaw03.BoxJoins", spec := "boxJoins", unfollowed := true, recurses := true, named := ["internal/strconv.uint64pow10", "math/bits.deBruijn32tab", "math/bits.deBruijn64tab"], apart := false, laid := [("math/bits.deBruijn32tab", laid_math_bits_deBruijn32tab), ("math/bits.deBruijn64tab", laid_math_bits_deBruijn64tab), ("internal/strconv.uint64pow10", laid_internal_strconv_uint64pow10)], narrowed := true }
def BoxJoinsUptoSaid : Prop := boxJoinsUptoRow.holds Tryd.pinned (OpenSpec.upto boxJoinsSpec)

/-- 'trestlelaw03.BoxTexts', WHERE WHAT IT READS IS OF BULK AT MOST 1048576: true; the input reads as it did. -/
def boxTextsUptoRow : OpenClaim := { program := "ytpppcoobibmlhaadoor", sum := "959217c7321da72288a186ea3e584ae03161d9970dcfa06005eca185cb81125e", func := "trestle/trestlelaw03.BoxTexts", spec := "boxTexts", unfollowed := true, recurses := true, named := ["internal/strconv.uint64pow10", "math/bits.deBruijn32tab", "math/bits.deBruijn64tab"], apart := false, laid := [("math/bits.deBruijn32tab", laid_math_bits_deBruijn32tab), ("math/bits.deBruijn64tab", laid_math_bits_deBruijn64tab), ("internal/strconv.uint64pow10", laid_internal_strconv_uint64pow10)], narrowed := true }
def BoxTextsUptoSaid : Prop := boxTextsUptoRow.holds Tryd.pinned (OpenSpec.upto boxTextsSpec)

/-- 'trestlelaw02.WordsSums', WHERE WHAT IT READS IS OF BULK AT MOST 1048576: true; the input reads as it did. -/
def wordsSumsUptoRow : OpenClaim := { program := "ytpppcoobibmlhaadoor", sum := "959217c7321da72288a186ea3e584ae03161d9970dcfa06005eca185cb81125e", func := "trestle/trestlelaw02.WordsSums", spec := "wordsSums", inPlace := ["math/bits.Add64"], unfollowed := true, recurses := true, named := ["internal/strconv.uint64pow10", "math/bits.deBruijn32tab", "math/bits.deBruijn64tab"], apart := false, laid := [("math/bits.deBruijn32tab", laid_math_bits_deBruijn32tab), ("math/bits.deBruijn64tab", laid_math_bits_deBruijn64tab), ("internal/strconv.uint64pow10", laid_internal_strconv_uint64pow10)], narrowed := true }
def WordsSumsUptoSaid : Prop := wordsSumsUptoRow.holds Tryd.pinned (OpenSpec.upto wordsSumsSpec)

/-- 'trestlelaw02.WordsRing', WHERE WHAT IT READS IS OF BULK AT MOST 1048576: true; the input reads as it did. -/
def wordsRingUptoRow : OpenClaim := { program := "ytpppcoobibmlhaadoor", sum := "959217c7321da72288a186ea3e584ae03161d9970dcfa06005eca185cb81125e", func := "trestle/trestlelaw02.WordsRing", spec := "wordsRing", inPlace := ["math/bits.Add64"], unfollowed := true, recurses := true, named := ["internal/strconv.uint64pow10", "math/bits.deBruijn32tab", "math/bits.deBruijn64tab"], apart := false, laid := [("math/bits.deBruijn32tab", laid_math_bits_deBruijn32tab), ("math/bits.deBruijn64tab", laid_math_bits_deBruijn64tab), ("internal/strconv.uint64pow10", laid_internal_strconv_uint64pow10)], narrowed := true }
def WordsRingUptoSaid : Prop := wordsRingUptoRow.holds Tryd.pinned (OpenSpec.upto wordsRingSpec)

/-- 'trestlelaw02.WordsPowers', WHERE WHAT IT READS IS OF BULK AT MOST 1048576: true; the input reads as it did. -/
def wordsPowersUptoRow : OpenClaim := { program := "ytpppcoobibmlhaadoor", sum := "959217c7321da72288a186ea3e584ae03161d9970dcfa06005eca185cb81125e", func := "trestle/trestlelaw02.WordsPowers", spec := "wordsPowers", inPlace := ["math/bits.Add64"], unfollowed := true, recurses := true, named := ["internal/strconv.uint64pow10", "math/bits.deBruijn32tab", "math/bits.deBruijn64tab"], apart := false, laid := [("math/bits.deBruijn32tab", laid_math_bits_deBruijn32tab), ("math/bits.deBruijn64tab", laid_math_bits_deBruijn64tab), ("internal/strconv.uint64pow10", laid_internal_strconv_uint64pow10)], narrowed := true }
def WordsPowersUptoSaid : Prop := wordsPowersUptoRow.holds Tryd.pinned (OpenSpec.upto wordsPowersSpec)

/-- 'trestlelaw02.WordsTurns', WHERE WHAT IT READS IS OF BULK AT MOST 1048576: true; the input reads as it did. -/
def wordsTurnsUptoRow : OpenClaim := { program := "ytpppcoobibmlhaadoor", sum := "959217c7321da72288a186ea3e584ae03161d9970dcfa06005eca185cb81125e", func := "trestle/trestlelaw02.WordsTurns", spec := "wordsTurns", inPlace := ["math/bits.Add64"], unfollowed := true, recurses := true, named := ["internal/strconv.uint64pow10", "math/bits.deBruijn32tab", "math/bits.deBruijn64tab"], apart := false, laid := [("math/bits.deBruijn32tab", laid_math_bits_deBruijn32tab), ("math/bits.deBruijn64tab", laid_math_bits_deBruijn64tab), ("internal/strconv.uint64pow10", laid_internal_strconv_uint64pow10)], narrowed := true }
def WordsTurnsUptoSaid : Prop := wordsTurnsUptoRow.holds Tryd.pinned (OpenSpec.upto wordsTurnsSpec)

/-- 'trestlelaw02.WordsDoubles', WHERE WHAT IT READS IS OF BULK AT MOST 1048576: true; the input reads as it did. -/
def wordsDoublesUptoRow : OpenClaim := { program := "ytpppcoobibmlhaadoor", sum := "959217c7321da72288a186ea3e584ae03161d9970dcfa06005eca185cb81125e", func := "trestle/trestlelaw02.WordsDoubles", spec := "wordsDoubles", inPlace := ["math/bits.Add64"], unfollowed := true, recurses := true, named := ["internal/strconv.uint64pow10", "math/bits.deBruijn32tab", "math/bits.deBruijn64tab"], apart := false, laid := [("math/bits.deBruijn32tab", laid_math_bits_deBruijn32tab), ("math/bits.deBruijn64tab", laid_math_bits_deBruijn64tab), ("internal/strconv.uint64pow10", laid_internal_strconv_uint64pow10)], narrowed := true }
def WordsDoublesUptoSaid : Prop := wordsDoublesUptoRow.holds Tryd.pinned (OpenSpec.upto wordsDoublesSpec)

/-- 'trestlelaw03.BoxKinds', WHERE WHAT IT READS IS OF BULK AT MOST 1048576: true; the input reads as it did. -/
def boxKindsUptoRow : OpenClaim := { program := "ytpppcoobibmlhaadoor", sum := "959217c7321da72288a186ea3e584ae03161d9970dcfa06005eca185cb81125e", func := "trestle/trestlelaw03.BoxKinds", spec := "boxKinds", unfollowed := true, recurses := true, named := ["internal/strconv.uint64pow10", "math/bits.deBruijn32tab", "math/bits.deBruijn64tab"], apart := false, laid := [("math/bits.deBruijn32tab", laid_math_bits_deBruijn32tab), ("math/bits.deBruijn64tab", laid_math_bits_deBruijn64tab), ("internal/strconv.uint64pow10", laid_internal_strconv_uint64pow10)], narrowed := true }
def BoxKindsUptoSaid : Prop := boxKindsUptoRow.holds Tryd.pinned (OpenSpec.upto boxKindsSpec)

/-- 'trestlelaw03.BoxPairs', WHERE WHAT IT READS IS OF BULK AT MOST 1048576: true; the input reads as it did. -/
def boxPairsUptoRow : OpenClaim := { program := "ytpppcoobibmlhaadoor", sum := "959217c7321da72288a186ea3e584ae03161d9970dcfa06005eca185cb81125e", func := "trestle/trestlelaw03.BoxPairs", spec := "boxPairs", inPlace := ["internal/bytealg.abigen_runtime_cmpstring"], unfollowed := true, recurses := true, named := ["internal/strconv.uint64pow10", "math/bits.deBruijn32tab", "math/bits.deBruijn64tab"], apart := false, laid := [("math/bits.deBruijn32tab", laid_math_bits_deBruijn32tab), ("math/bits.deBruijn64tab", laid_math_bits_deBruijn64tab), ("internal/strconv.uint64pow10", laid_internal_strconv_uint64pow10)], narrowed := true }
def BoxPairsUptoSaid : Prop := boxPairsUptoRow.holds Tryd.pinned (OpenSpec.upto boxPairsSpec)

/-- 'trestlelaw03.BoxOne', WHERE WHAT IT READS IS OF BULK AT MOST 1048576: true; the input reads as it did. -/
def boxOneUptoRow : OpenClaim := { program := "ytpppcoobibmlhaadoor", sum := "959217c7321da72288a186ea3e584ae03161d9970dcfa06005eca185cb81125e", func := "trestle/trestlelaw03.BoxOne", spec := "boxOne", unfollowed := true, recurses := true, named := ["internal/strconv.uint64pow10", "math/bits.deBruijn32tab", "math/bits.deBruijn64tab"], apart := false, laid := [("math/bits.deBruijn32tab", laid_math_bits_deBruijn32tab), ("math/bits.deBruijn64tab", laid_math_bits_deBruijn64tab), ("internal/strconv.uint64pow10", laid_internal_strconv_uint64pow10)], narrowed := true }
def BoxOneUptoSaid : Prop := boxOneUptoRow.holds Tryd.pinned (OpenSpec.upto boxOneSpec)

/-- 'trestlelaw03.BoxOrders', WHERE WHAT IT READS IS OF BULK AT MOST 1048576: true; the input reads as it did. -/
def boxOrdersUptoRow : OpenClaim := { program := "ytpppcoobibmlhaadoor", sum := "959217c7321da72288a186ea3e584ae03161d9970dcfa06005eca185cb81125e", func := "trestle/trestlelaw03.BoxOrders", spec := "boxOrders", inPlace := ["internal/bytealg.abigen_runtime_cmpstring"], unfollowed := true, recurses := true, named := ["internal/strconv.uint64pow10", "math/bits.deBruijn32tab", "math/bits.deBruijn64tab"], apart := false, laid := [("math/bits.deBruijn32tab", laid_math_bits_deBruijn32tab), ("math/bits.deBruijn64tab", laid_math_bits_deBruijn64tab), ("internal/strconv.uint64pow10", laid_internal_strconv_uint64pow10)], narrowed := true }
def BoxOrdersUptoSaid : Prop := boxOrdersUptoRow.holds Tryd.pinned (OpenSpec.upto boxOrdersSpec)

/-- 'trestlelaw03.BoxForms', WHERE WHAT IT READS IS OF BULK AT MOST 1048576: true; the input reads as it did. -/
def boxFormsUptoRow : OpenClaim := { program := "ytpppcoobibmlhaadoor", sum := "959217c7321da72288a186ea3e584ae03161d9970dcfa06005eca185cb81125e", func := "trestle/trestlelaw03.BoxForms", spec := "boxForms", unfollowed := true, recurses := true, named := ["internal/strconv.uint64pow10", "math/bits.deBruijn32tab", "math/bits.deBruijn64tab"], apart := false, laid := [("math/bits.deBruijn32tab", laid_math_bits_deBruijn32tab), ("math/bits.deBruijn64tab", laid_math_bits_deBruijn64tab), ("internal/strconv.uint64pow10", laid_internal_strconv_uint64pow10)], narrowed := true }
def BoxFormsUptoSaid : Prop := boxFormsUptoRow.holds Tryd.pinned (OpenSpec.upto boxFormsSpec)

end Rows
end Go.Proofs.YtpppcoobibmlhaaDoor
