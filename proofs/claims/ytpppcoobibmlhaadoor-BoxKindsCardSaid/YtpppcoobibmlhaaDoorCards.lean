/-
  DERIVED. GIVEN WITH THE SEED: THE CARDS: each row of YtpppcoobibmlhaaDoorRows.lean that lists a variable, with what it lists TIED to the program's text (the seventh form; the later family's looks); each row that meets fmt, with fmt's text TOLD by the authors' own Lean function (tested against real Go, not proved from fmt's source: count such statements apart). THE CARD IS WHAT COUNTS. Prove the row's statement (the work); the ties are given (YtpppcoobibmlhaaDoorTie.lean); close each card by the builder's one call (the guide's Derived/Test/ToyasCard.lean, 'card_holds'). Laid BY PROGRAM, IN A SANDBOX (cutbox-door.mjs). By AI agents, Wed Nov 11 2026. No macro, syntax, notation, axiom, sorry.
-/
import Derived.Test.YtpppcoobibmlhaaDoorRows
import GoSem.ClaimSeven
namespace Go.Proofs.YtpppcoobibmlhaaDoor
namespace Rows

/-- THE TIED CARD OF 'trestlelaw02.WordsTexts'. -/
def wordsTextsCard : Claim7 := { stood := { row := wordsTextsRow, standIns := [], harness := (true, "bf2a98c6216e4ce96f322940516374a8bf443b7bc5d6b2f87aecb37f7d8a569b"), looks := true }, kinds := [], alts := [], laidByText := true, laidKinds := [.data, .data, .data], laidTests := true, laidLooks := .later }
def WordsTextsCardSaid : Prop := Claim7.holds Tryd.pinned (.plain (OpenSpec.ofChange wordsTextsSpec)) wordsTextsCard

/-- THE TIED CARD OF 'trestlelaw02.WordsDigits'. -/
def wordsDigitsCard : Claim7 := { stood := { row := wordsDigitsRow, standIns := [], harness := (true, "bf2a98c6216e4ce96f322940516374a8bf443b7bc5d6b2f87aecb37f7d8a569b"), looks := true }, kinds := [], alts := [], laidByText := true, laidKinds := [.data, .data, .data], laidTests := true, laidLooks := .later }
def WordsDigitsCardSaid : Prop := Claim7.holds Tryd.pinned (.plain (OpenSpec.ofChange wordsDigitsSpec)) wordsDigitsCard

/-- THE TIED CARD OF 'trestlelaw03.BoxJoins'. -/
def boxJoinsCard : Claim7 := { stood := { row := boxJoinsRow, standIns := [], harness := (true, "bf2a98c6216e4ce96f322940516374a8bf443b7bc5d6b2f87aecb37f7d8a569b"), looks := true }, kinds := [], alts := [], laidByText := true, laidKinds := [.data, .data, .data], laidTests := true, laidLooks := .later }
def BoxJoinsCardSaid : Prop := Claim7.holds Tryd.pinned (.plain (OpenSpec.ofChange boxJoinsSpec)) boxJoinsCard

/-- THE TIED CARD OF 'trestlelaw03.BoxTexts'. -/
def boxTextsCard : Claim7 := { stood := { row := boxTextsRow, standIns := [], harness := (true, "bf2a98c6216e4ce96f322940516374a8bf443b7bc5d6b2f87aecb37f7d8a569b"), looks := true }, kinds := [], alts := [], laidByText := true, laidKinds := [.data, .data, .data], laidTests := true, laidLooks := .later }
def BoxTextsCardSaid : Prop := Claim7.holds Tryd.pinned (.plain (OpenSpec.ofChange boxTextsSpec)) boxTextsCard

/-- THE TIED CARD OF 'trestlelaw02.WordsSums'. -/
def wordsSumsCard : Claim7 := { stood := { row := wordsSumsRow, standIns := [], harness := (true, "bf2a98c6216e4ce96f322940516374a8bf443b7bc5d6b2f87aecb37f7d8a569b"), looks := true }, kinds := [], alts := [], laidByText := true, laidKinds := [.data, .data, .data], laidTests := true, laidLooks := .later }
def WordsSumsCardSaid : Prop := Claim7.holds Tryd.pinned (.plain (OpenSpec.ofChange wordsSumsSpec)) wordsSumsCard

/-- THE TIED CARD OF 'trestlelaw02.WordsRing'. -/
def wordsRingCard : Claim7 := { stood := { row := wordsRingRow, standIns := [], harness := (true, "bf2a98c6216e4ce96f322940516374a8bf443b7bc5d6b2f87aecb37f7d8a569b"), looks := true }, kinds := [], alts := [], laidByText := true, laidKinds := [.data, .data, .data], laidTests := true, laidLooks := .later }
def WordsRingCardSaid : Prop := Claim7.holds Tryd.pinned (.plain (OpenSpec.ofChange wordsRingSpec)) wordsRingCard

/-- THE TIED CARD OF 'trestlelaw02.WordsPowers'. -/
def wordsPowersCard : Claim7 := { stood := { row := wordsPowersRow, standIns := [], harness := (true, "bf2a98c6216e4ce96f322940516374a8bf443b7bc5d6b2f87aecb37f7d8a569b"), looks := true }, kinds := [], alts := [], laidByText := true, laidKinds := [.data, .data, .data], laidTests := true, laidLooks := .later }
def WordsPowersCardSaid : Prop := Claim7.holds Tryd.pinned (.plain (OpenSpec.ofChange wordsPowersSpec)) wordsPowersCard

/-- THE TIED CARD OF 'trestlelaw02.WordsTurns'. -/
def wordsTurnsCard : Claim7 := { stood := { row := wordsTurnsRow, standIns := [], harness := (true, "bf2a98c6216e4ce96f322940516374a8bf443b7bc5d6b2f87aecb37f7d8a569b"), looks := true }, kinds := [], alts := [], laidByText := true, laidKinds := [.data, .data, .data], laidTests := true, laidLooks := .later }
def WordsTurnsCardSaid : Prop := Claim7.holds Tryd.pinned (.plain (OpenSpec.ofChange wordsTurnsSpec)) wordsTurnsCard

/-- THE TIED CARD OF 'trestlelaw02.WordsDoubles'. -/
def wordsDoublesCard : Claim7 := { stood := { row := wordsDoublesRow, standIns := [], harness := (true, "bf2a98c6216e4ce96f322940516374a8bf443b7bc5d6b2f87aecb37f7d8a569b"), looks := true }, kinds := [], alts := [], laidByText := true, laidKinds := [.data, .data, .data], laidTests := true, laidLooks := .later }
def WordsDoublesCardSaid : Prop := Claim7.holds Tryd.pinned (.plain (OpenSpec.ofChange wordsDoublesSpec)) wordsDoublesCard

/-- THE TIED CARD OF 'trestlelaw03.BoxKinds'. -/
def boxKindsCard : Claim7 := { stood := { row := boxKindsRow, standIns := [], harness := (true, "bf2a98c6216e4ce96f322940516374a8bf443b7bc5d6b2f87aecb37f7d8a569b"), looks := true }, kinds := [], alts := [], laidByText := true, laidKinds := [.data, .data, .data], laidTests := true, laidLooks := .later }
def BoxKindsCardSaid : Prop := Claim7.holds Tryd.pinned (.plain (OpenSpec.ofChange boxKindsSpec)) boxKindsCard

/-- THE TIED CARD OF 'trestlelaw03.BoxPairs'. -/
def boxPairsCard : Claim7 := { stood := { row := boxPairsRow, standIns := [], harness := (true, "bf2a98c6216e4ce96f322940516374a8bf443b7bc5d6b2f87aecb37f7d8a569b"), looks := true }, kinds := [], alts := [], laidByText := true, laidKinds := [.data, .data, .data], laidTests := true, laidLooks := .later }
def BoxPairsCardSaid : Prop := Claim7.holds Tryd.pinned (.plain (OpenSpec.ofChange boxPairsSpec)) boxPairsCard

/-- THE TIED CARD OF 'trestlelaw03.BoxOne'. -/
def boxOneCard : Claim7 := { stood := { row := boxOneRow, standIns := [], harness := (true, "bf2a98c6216e4ce96f322940516374a8bf443b7bc5d6b2f87aecb37f7d8a569b"), looks := true }, kinds := [], alts := [], laidByText := true, laidKinds := [.data, .data, .data], laidTests := true, laidLooks := .later }
def BoxOneCardSaid : Prop := Claim7.holds Tryd.pinned (.plain (OpenSpec.ofChange boxOneSpec)) boxOneCard

/-- THE TIED CARD OF 'trestlelaw03.BoxOrders'. -/
def boxOrdersCard : Claim7 := { stood := { row := boxOrdersRow, standIns := [], harness := (true, "bf2a98c6216e4ce96f322940516374a8bf443b7bc5d6b2f87aecb37f7d8a569b"), looks := true }, kinds := [], alts := [], laidByText := true, laidKinds := [.data, .data, .data], laidTests := true, laidLooks := .later }
def BoxOrdersCardSaid : Prop := Claim7.holds Tryd.pinned (.plain (OpenSpec.ofChange boxOrdersSpec)) boxOrdersCard

/-- THE TIED CARD OF 'trestlelaw03.BoxForms'. -/
def boxFormsCard : Claim7 := { stood := { row := boxFormsRow, standIns := [], harness := (true, "bf2a98c6216e4ce96f322940516374a8bf443b7bc5d6b2f87aecb37f7d8a569b"), looks := true }, kinds := [], alts := [], laidByText := true, laidKinds := [.data, .data, .data], laidTests := true, laidLooks := .later }
def BoxFormsCardSaid : Prop := Claim7.holds Tryd.pinned (.plain (OpenSpec.ofChange boxFormsSpec)) boxFormsCard

/-- THE SECOND FORM's CARD OF 'trestlelaw02.WordsTexts'. -/
def wordsTextsUptoCard : Claim7 := { stood := { row := wordsTextsUptoRow, standIns := [], harness := (true, "bf2a98c6216e4ce96f322940516374a8bf443b7bc5d6b2f87aecb37f7d8a569b"), looks := true }, kinds := [], alts := [], laidByText := true, laidKinds := [.data, .data, .data], laidTests := true, laidLooks := .later }
def WordsTextsUptoCardSaid : Prop := Claim7.holds Tryd.pinned (.plain (OpenSpec.upto wordsTextsSpec)) wordsTextsUptoCard

/-- THE SECOND FORM's CARD OF 'trestlelaw02.WordsDigits'. -/
def wordsDigitsUptoCard : Claim7 := { stood := { row := wordsDigitsUptoRow, standIns := [], harness := (true, "bf2a98c6216e4ce96f322940516374a8bf443b7bc5d6b2f87aecb37f7d8a569b"), looks := true }, kinds := [], alts := [], laidByText := true, laidKinds := [.data, .data, .data], laidTests := true, laidLooks := .later }
def WordsDigitsUptoCardSaid : Prop := Claim7.holds Tryd.pinned (.plain (OpenSpec.upto wordsDigitsSpec)) wordsDigitsUptoCard

/-- THE SECOND FORM's CARD OF 'trestlelaw03.BoxJoins'. -/
def boxJoinsUptoCard : Claim7 := { stood := { row := boxJoinsUptoRow, standIns := [], harness := (true, "bf2a98c6216e4ce96f322940516374a8bf443b7bc5d6b2f87aecb37f7d8a569b"), looks := true }, kinds := [], alts := [], laidByText := true, laidKinds := [.data, .data, .data], laidTests := true, laidLooks := .later }
def BoxJoinsUptoCardSaid : Prop := Claim7.holds Tryd.pinned (.plain (OpenSpec.upto boxJoinsSpec)) boxJoinsUptoCard

/-- THE SECOND FORM's CARD OF 'trestlelaw03.BoxTexts'. -/
def boxTextsUptoCard : Claim7 := { stood := { row := boxTextsUptoRow, standIns := [], harness := (true, "bf2a98c6216e4ce96f322940516374a8bf443b7bc5d6b2f87aecb37f7d8a569b"), looks := true }, kinds := [], alts := [], laidByText := true, laidKinds := [.data, .data, .data], laidTests := true, laidLooks := .later }
def BoxTextsUptoCardSaid : Prop := Claim7.holds Tryd.pinned (.plain (OpenSpec.upto boxTextsSpec)) boxTextsUptoCard

/-- THE SECOND FORM's CARD OF 'trestlelaw02.WordsSums'. -/
def wordsSumsUptoCard : Claim7 := { stood := { row := wordsSumsUptoRow, standIns := [], harness := (true, "bf2a98c6216e4ce96f322940516374a8bf443b7bc5d6b2f87aecb37f7d8a569b"), looks := true }, kinds := [], alts := [], laidByText := true, laidKinds := [.data, .data, .data], laidTests := true, laidLooks := .later }
def WordsSumsUptoCardSaid : Prop := Claim7.holds Tryd.pinned (.plain (OpenSpec.upto wordsSumsSpec)) wordsSumsUptoCard

/-- THE SECOND FORM's CARD OF 'trestlelaw02.WordsRing'. -/
def wordsRingUptoCard : Claim7 := { stood := { row := wordsRingUptoRow, standIns := [], harness := (true, "bf2a98c6216e4ce96f322940516374a8bf443b7bc5d6b2f87aecb37f7d8a569b"), looks := true }, kinds := [], alts := [], laidByText := true, laidKinds := [.data, .data, .data], laidTests := true, laidLooks := .later }
def WordsRingUptoCardSaid : Prop := Claim7.holds Tryd.pinned (.plain (OpenSpec.upto wordsRingSpec)) wordsRingUptoCard

/-- THE SECOND FORM's CARD OF 'trestlelaw02.WordsPowers'. -/
def wordsPowersUptoCard : Claim7 := { stood := { row := wordsPowersUptoRow, standIns := [], harness := (true, "bf2a98c6216e4ce96f322940516374a8bf443b7bc5d6b2f87aecb37f7d8a569b"), looks := true }, kinds := [], alts := [], laidByText := true, laidKinds := [.data, .data, .data], laidTests := true, laidLooks := .later }
def WordsPowersUptoCardSaid : Prop := Claim7.holds Tryd.pinned (.plain (OpenSpec.upto wordsPowersSpec)) wordsPowersUptoCard

/-- THE SECOND FORM's CARD OF 'trestlelaw02.WordsTurns'. -/
def wordsTurnsUptoCard : Claim7 := { stood := { row := wordsTurnsUptoRow, standIns := [], harness := (true, "bf2a98c6216e4ce96f322940516374a8bf443b7bc5d6b2f87aecb37f7d8a569b"), looks := true }, kinds := [], alts := [], laidByText := true, laidKinds := [.data, .data, .data], laidTests := true, laidLooks := .later }
def WordsTurnsUptoCardSaid : Prop := Claim7.holds Tryd.pinned (.plain (OpenSpec.upto wordsTurnsSpec)) wordsTurnsUptoCard

/-- THE SECOND FORM's CARD OF 'trestlelaw02.WordsDoubles'. -/
def wordsDoublesUptoCard : Claim7 := { stood := { row := wordsDoublesUptoRow, standIns := [], harness := (true, "bf2a98c6216e4ce96f322940516374a8bf443b7bc5d6b2f87aecb37f7d8a569b"), looks := true }, kinds := [], alts := [], laidByText := true, laidKinds := [.data, .data, .data], laidTests := true, laidLooks := .later }
def WordsDoublesUptoCardSaid : Prop := Claim7.holds Tryd.pinned (.plain (OpenSpec.upto wordsDoublesSpec)) wordsDoublesUptoCard

/-- THE SECOND FORM's CARD OF 'trestlelaw03.BoxKinds'. -/
def boxKindsUptoCard : Claim7 := { stood := { row := boxKindsUptoRow, standIns := [], harness := (true, "bf2a98c6216e4ce96f322940516374a8bf443b7bc5d6b2f87aecb37f7d8a569b"), looks := true }, kinds := [], alts := [], laidByText := true, laidKinds := [.data, .data, .data], laidTests := true, laidLooks := .later }
def BoxKindsUptoCardSaid : Prop := Claim7.holds Tryd.pinned (.plain (OpenSpec.upto boxKindsSpec)) boxKindsUptoCard

/-- THE SECOND FORM's CARD OF 'trestlelaw03.BoxPairs'. -/
def boxPairsUptoCard : Claim7 := { stood := { row := boxPairsUptoRow, standIns := [], harness := (true, "bf2a98c6216e4ce96f322940516374a8bf443b7bc5d6b2f87aecb37f7d8a569b"), looks := true }, kinds := [], alts := [], laidByText := true, laidKinds := [.data, .data, .data], laidTests := true, laidLooks := .later }
def BoxPairsUptoCardSaid : Prop := Claim7.holds Tryd.pinned (.plain (OpenSpec.upto boxPairsSpec)) boxPairsUptoCard

/-- THE SECOND FORM's CARD OF 'trestlelaw03.BoxOne'. -/
def boxOneUptoCard : Claim7 := { stood := { row := boxOneUptoRow, standIns := [], harness := (true, "bf2a98c6216e4ce96f322940516374a8bf443b7bc5d6b2f87aecb37f7d8a569b"), looks := true }, kinds := [], alts := [], laidByText := true, laidKinds := [.data, .data, .data], laidTests := true, laidLooks := .later }
def BoxOneUptoCardSaid : Prop := Claim7.holds Tryd.pinned (.plain (OpenSpec.upto boxOneSpec)) boxOneUptoCard

/-- THE SECOND FORM's CARD OF 'trestlelaw03.BoxOrders'. -/
def boxOrdersUptoCard : Claim7 := { stood := { row := boxOrdersUptoRow, standIns := [], harness := (true, "bf2a98c6216e4ce96f322940516374a8bf443b7bc5d6b2f87aecb37f7d8a569b"), looks := true }, kinds := [], alts := [], laidByText := true, laidKinds := [.data, .data, .data], laidTests := true, laidLooks := .later }
def BoxOrdersUptoCardSaid : Prop := Claim7.holds Tryd.pinned (.plain (OpenSpec.upto boxOrdersSpec)) boxOrdersUptoCard

/-- THE SECOND FORM's CARD OF 'trestlelaw03.BoxForms'. -/
def boxFormsUptoCard : Claim7 := { stood := { row := boxFormsUptoRow, standIns := [], harness := (true, "bf2a98c6216e4ce96f322940516374a8bf443b7bc5d6b2f87aecb37f7d8a569b"), looks := true }, kinds := [], alts := [], laidByText := true, laidKinds := [.data, .data, .data], laidTests := true, laidLooks := .later }
def BoxFormsUptoCardSaid : Prop := Claim7.holds Tryd.pinned (.plain (OpenSpec.upto boxFormsSpec)) boxFormsUptoCard
end Rows
end Go.Proofs.YtpppcoobibmlhaaDoor
