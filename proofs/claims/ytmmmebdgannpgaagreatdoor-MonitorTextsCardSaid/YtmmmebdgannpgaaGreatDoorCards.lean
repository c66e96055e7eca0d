/-
  DERIVED. GIVEN WITH THE SEED: THE CARDS: each row of YtmmmebdgannpgaaGreatDoorRows.lean that lists a variable, with what it lists TIED to the program's text (the seventh form; the later family's looks); each row that meets fmt, with fmt's text TOLD by the authors' own Lean function (tested against real Go, not proved from fmt's source: count such statements apart). THE CARD IS WHAT COUNTS. Prove the row's statement (the work); the ties are given (YtmmmebdgannpgaaGreatDoorTie.lean); close each card by the builder's one call (the guide's Derived/Test/ToyasCard.lean, 'card_holds'). Laid BY PROGRAM, IN A SANDBOX (cutbox-door.mjs). By AI agents, Wed Nov 11 2026. No macro, syntax, notation, axiom, sorry.
-/
import Derived.Test.YtmmmebdgannpgaaGreatDoorRows
import GoSem.ClaimSeven
namespace Go.Proofs.YtmmmebdgannpgaaGreatDoor
namespace Rows

/-- THE TIED CARD OF 'synopticlaw42.MonitorTexts'. -/
def monitorTextsCard : Claim7 := { stood := { row := monitorTextsRow, standIns := [], harness := (true, "856a4aedd9e3e7b51c6b6ca47663478b5f7a057229e7a5578cc899f86e17c5cd"), looks := false }, kinds := [], alts := [], laidByText := true, laidKinds := [.data, .data, .data, .data], laidTests := true, laidLooks := .later }
def MonitorTextsCardSaid : Prop := Claim7.holds Tryz.pinned (.plain (OpenSpec.ofChange monitorTextsSpec)) monitorTextsCard

/-- THE SECOND FORM's CARD OF 'synopticlaw42.MonitorTexts'. -/
def monitorTextsUptoCard : Claim7 := { stood := { row := monitorTextsUptoRow, standIns := [], harness := (true, "856a4aedd9e3e7b51c6b6ca47663478b5f7a057229e7a5578cc899f86e17c5cd"), looks := false }, kinds := [], alts := [], laidByText := true, laidKinds := [.data, .data, .data, .data], laidTests := true, laidLooks := .later }
def MonitorTextsUptoCardSaid : Prop := Claim7.holds Tryz.pinned (.plain (OpenSpec.upto monitorTextsSpec)) monitorTextsUptoCard
end Rows
end Go.Proofs.YtmmmebdgannpgaaGreatDoor
