/-
  DERIVED. GIVEN WITH THE SEED: THE CARDS: each row of YtobaoekibnloiaaGreatDoorRows.lean that lists a variable, with what it lists TIED to the program's text (the seventh form; the later family's looks); each row that meets fmt, with fmt's text TOLD by the authors' own Lean function (tested against real Go, not proved from fmt's source: count such statements apart). THE CARD IS WHAT COUNTS. Prove the row's statement (the work); the ties are given (YtobaoekibnloiaaGreatDoorTie.lean); close each card by the builder's one call (the guide's Derived/Test/ToyasCard.lean, 'card_holds'). Laid BY PROGRAM, IN A SANDBOX (cutbox-door.mjs). By AI agents, Wed Nov 11 2026. No macro, syntax, notation, axiom, sorry.
-/
import Derived.Test.YtobaoekibnloiaaGreatDoorRows
import GoSem.ClaimSeven
namespace Go.Proofs.YtobaoekibnloiaaGreatDoor
namespace Rows

/-- THE TIED CARD OF 'synopticlaw41.ScriptTexts'. -/
def scriptTextsCard : Claim7 := { stood := { row := scriptTextsRow, standIns := [], harness := (true, "ea4acee1dbdccfd6344f159c64ac2110968657512576e3198c98386c718a93d5"), looks := true }, kinds := [], alts := [], laidByText := true, laidKinds := [.data, .data, .data, .data, .sentinel, .sentinel, .pinned], laidTests := true, laidLooks := .later }
def ScriptTextsCardSaid : Prop := Claim7.holds Tryz.pinned (.plain (OpenSpec.ofChange scriptTextsSpec)) scriptTextsCard

/-- THE TIED CARD OF 'synopticlaw41.ScriptReturns'. -/
def scriptReturnsCard : Claim7 := { stood := { row := scriptReturnsRow, standIns := [], harness := (true, "ea4acee1dbdccfd6344f159c64ac2110968657512576e3198c98386c718a93d5"), looks := true }, kinds := [], alts := [], laidByText := true, laidKinds := [.data, .data, .data, .data, .sentinel, .sentinel, .pinned], laidTests := true, laidLooks := .later }
def ScriptReturnsCardSaid : Prop := Claim7.holds Tryz.pinned (.plain (OpenSpec.ofChange scriptReturnsSpec)) scriptReturnsCard

/-- THE SECOND FORM's CARD OF 'synopticlaw41.ScriptTexts'. -/
def scriptTextsUptoCard : Claim7 := { stood := { row := scriptTextsUptoRow, standIns := [], harness := (true, "ea4acee1dbdccfd6344f159c64ac2110968657512576e3198c98386c718a93d5"), looks := true }, kinds := [], alts := [], laidByText := true, laidKinds := [.data, .data, .data, .data, .sentinel, .sentinel, .pinned], laidTests := true, laidLooks := .later }
def ScriptTextsUptoCardSaid : Prop := Claim7.holds Tryz.pinned (.plain (OpenSpec.upto scriptTextsSpec)) scriptTextsUptoCard

/-- THE SECOND FORM's CARD OF 'synopticlaw41.ScriptReturns'. -/
def scriptReturnsUptoCard : Claim7 := { stood := { row := scriptReturnsUptoRow, standIns := [], harness := (true, "ea4acee1dbdccfd6344f159c64ac2110968657512576e3198c98386c718a93d5"), looks := true }, kinds := [], alts := [], laidByText := true, laidKinds := [.data, .data, .data, .data, .sentinel, .sentinel, .pinned], laidTests := true, laidLooks := .later }
def ScriptReturnsUptoCardSaid : Prop := Claim7.holds Tryz.pinned (.plain (OpenSpec.upto scriptReturnsSpec)) scriptReturnsUptoCard
end Rows
end Go.Proofs.YtobaoekibnloiaaGreatDoor
