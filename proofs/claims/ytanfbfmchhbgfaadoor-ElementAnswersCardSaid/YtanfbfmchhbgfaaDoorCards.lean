/-
  DERIVED. GIVEN WITH THE SEED: THE CARDS: each row of YtanfbfmchhbgfaaDoorRows.lean that lists a variable, with what it lists TIED to the program's text (the seventh form; the later family's looks); each row that meets fmt, with fmt's text TOLD by the authors' own Lean function (tested against real Go, not proved from fmt's source: count such statements apart). THE CARD IS WHAT COUNTS. Prove the row's statement (the work); the ties are given (YtanfbfmchhbgfaaDoorTie.lean); close each card by the builder's one call (the guide's Derived/Test/ToyasCard.lean, 'card_holds'). Laid BY PROGRAM, IN A SANDBOX (cutbox-door.mjs). By AI agents, Wed Nov 11 2026. No macro, syntax, notation, axiom, sorry.
-/
import Derived.Test.YtanfbfmchhbgfaaDoorRows
import GoSem.ClaimSeven
namespace Go.Proofs.YtanfbfmchhbgfaaDoor
namespace Rows

/-- THE TIED CARD OF 'synopticlaw04.ElementTexts'. -/
def elementTextsCard : Claim7 := { stood := { row := elementTextsRow, standIns := [], harness := (true, "d64b50622778d9b38f0dcf2764c85415d001dc935816b0af8c4aceaa9d5ac3a3"), looks := false }, kinds := [], alts := [], laidByText := true, laidKinds := [.data], laidTests := true, laidLooks := .later }
def ElementTextsCardSaid : Prop := Claim7.holds Tryd.pinned (.plain (OpenSpec.ofChange elementTextsSpec)) elementTextsCard

/-- THE TIED CARD OF 'synopticlaw04.ElementLetters'. -/
def elementLettersCard : Claim7 := { stood := { row := elementLettersRow, standIns := [], harness := (true, "d64b50622778d9b38f0dcf2764c85415d001dc935816b0af8c4aceaa9d5ac3a3"), looks := false }, kinds := [], alts := [], laidByText := true, laidKinds := [.data], laidTests := true, laidLooks := .later }
def ElementLettersCardSaid : Prop := Claim7.holds Tryd.pinned (.plain (OpenSpec.ofChange elementLettersSpec)) elementLettersCard

/-- THE TIED CARD OF 'synopticlaw04.ElementSorted'. -/
def elementSortedCard : Claim7 := { stood := { row := elementSortedRow, standIns := [], harness := (true, "d64b50622778d9b38f0dcf2764c85415d001dc935816b0af8c4aceaa9d5ac3a3"), looks := false }, kinds := [], alts := [], laidByText := true, laidKinds := [.data], laidTests := true, laidLooks := .later }
def ElementSortedCardSaid : Prop := Claim7.holds Tryd.pinned (.plain (OpenSpec.ofChange elementSortedSpec)) elementSortedCard

/-- THE TIED CARD OF 'synopticlaw04.ElementAnswers'. -/
def elementAnswersCard : Claim7 := { stood := { row := elementAnswersRow, standIns := [], harness := (true, "d64b50622778d9b38f0dcf2764c85415d001dc935816b0af8c4aceaa9d5ac3a3"), looks := false }, kinds := [], alts := [], laidByText := true, laidKinds := [.data], laidTests := true, laidLooks := .later }
def ElementAnswersCardSaid : Prop := Claim7.holds Tryd.pinned (.plain (OpenSpec.ofChange elementAnswersSpec)) elementAnswersCard

/-- THE TIED CARD OF 'synopticlaw04.ElementParts'. -/
def elementPartsCard : Claim7 := { stood := { row := elementPartsRow, standIns := [], harness := (true, "d64b50622778d9b38f0dcf2764c85415d001dc935816b0af8c4aceaa9d5ac3a3"), looks := false }, kinds := [], alts := [], laidByText := true, laidKinds := [.data], laidTests := true, laidLooks := .later }
def ElementPartsCardSaid : Prop := Claim7.holds Tryd.pinned (.plain (OpenSpec.ofChange elementPartsSpec)) elementPartsCard

/-- THE SECOND FORM's CARD OF 'synopticlaw04.ElementTexts'. -/
def elementTextsUptoCard : Claim7 := { stood := { row := elementTextsUptoRow, standIns := [], harness := (true, "d64b50622778d9b38f0dcf2764c85415d001dc935816b0af8c4aceaa9d5ac3a3"), looks := false }, kinds := [], alts := [], laidByText := true, laidKinds := [.data], laidTests := true, laidLooks := .later }
def ElementTextsUptoCardSaid : Prop := Claim7.holds Tryd.pinned (.plain (OpenSpec.upto elementTextsSpec)) elementTextsUptoCard

/-- THE SECOND FORM's CARD OF 'synopticlaw04.ElementLetters'. -/
def elementLettersUptoCard : Claim7 := { stood := { row := elementLettersUptoRow, standIns := [], harness := (true, "d64b50622778d9b38f0dcf2764c85415d001dc935816b0af8c4aceaa9d5ac3a3"), looks := false }, kinds := [], alts := [], laidByText := true, laidKinds := [.data], laidTests := true, laidLooks := .later }
def ElementLettersUptoCardSaid : Prop := Claim7.holds Tryd.pinned (.plain (OpenSpec.upto elementLettersSpec)) elementLettersUptoCard

/-- THE SECOND FORM's CARD OF 'synopticlaw04.ElementSorted'. -/
def elementSortedUptoCard : Claim7 := { stood := { row := elementSortedUptoRow, standIns := [], harness := (true, "d64b50622778d9b38f0dcf2764c85415d001dc935816b0af8c4aceaa9d5ac3a3"), looks := false }, kinds := [], alts := [], laidByText := true, laidKinds := [.data], laidTests := true, laidLooks := .later }
def ElementSortedUptoCardSaid : Prop := Claim7.holds Tryd.pinned (.plain (OpenSpec.upto elementSortedSpec)) elementSortedUptoCard

/-- THE SECOND FORM's CARD OF 'synopticlaw04.ElementAnswers'. -/
def elementAnswersUptoCard : Claim7 := { stood := { row := elementAnswersUptoRow, standIns := [], harness := (true, "d64b50622778d9b38f0dcf2764c85415d001dc935816b0af8c4aceaa9d5ac3a3"), looks := false }, kinds := [], alts := [], laidByText := true, laidKinds := [.data], laidTests := true, laidLooks := .later }
def ElementAnswersUptoCardSaid : Prop := Claim7.holds Tryd.pinned (.plain (OpenSpec.upto elementAnswersSpec)) elementAnswersUptoCard

/-- THE SECOND FORM's CARD OF 'synopticlaw04.ElementParts'. -/
def elementPartsUptoCard : Claim7 := { stood := { row := elementPartsUptoRow, standIns := [], harness := (true, "d64b50622778d9b38f0dcf2764c85415d001dc935816b0af8c4aceaa9d5ac3a3"), looks := false }, kinds := [], alts := [], laidByText := true, laidKinds := [.data], laidTests := true, laidLooks := .later }
def ElementPartsUptoCardSaid : Prop := Claim7.holds Tryd.pinned (.plain (OpenSpec.upto elementPartsSpec)) elementPartsUptoCard
end Rows
end Go.Proofs.YtanfbfmchhbgfaaDoor
