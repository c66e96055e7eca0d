/-
  DERIVED. GIVEN WITH THE SEED: THE CARDS: each row of YtmmmebdgannpgaaDoorRows.lean that lists a variable, with what it lists TIED to the program's text (the seventh form; the later family's looks); each row that meets fmt, with fmt's text TOLD by the authors' own Lean function (tested against real Go, not proved from fmt's source: count such statements apart). THE CARD IS WHAT COUNTS. Prove the row's statement (the work); the ties are given (YtmmmebdgannpgaaDoorTie.lean); close each card by the builder's one call (the guide's Derived/Test/ToyasCard.lean, 'card_holds'). Laid BY PROGRAM, IN A SANDBOX (cutbox-door.mjs). By AI agents, Wed Nov 11 2026. No macro, syntax, notation, axiom, sorry.
-/
import Derived.Test.YtmmmebdgannpgaaDoorRows
import GoSem.ClaimSeven
namespace Go.Proofs.YtmmmebdgannpgaaDoor
namespace Rows

/-- THE TIED CARD OF 'synopticlaw42.MonitorMaps'. -/
def monitorMapsCard : Claim7 := { stood := { row := monitorMapsRow, standIns := [], harness := (true, "4a02d80df591ba1bf08b44ac6e97b6728f343a4957d84673c2c012fd92f4607f"), looks := false }, kinds := [], alts := [], laidByText := true, laidKinds := [.data, .data, .data], laidTests := true, laidLooks := .later }
def MonitorMapsCardSaid : Prop := Claim7.holds Tryd.pinned (.plain (OpenSpec.ofChange monitorMapsSpec)) monitorMapsCard

/-- THE SECOND FORM's CARD OF 'synopticlaw42.MonitorMaps'. -/
def monitorMapsUptoCard : Claim7 := { stood := { row := monitorMapsUptoRow, standIns := [], harness := (true, "4a02d80df591ba1bf08b44ac6e97b6728f343a4957d84673c2c012fd92f4607f"), looks := false }, kinds := [], alts := [], laidByText := true, laidKinds := [.data, .data, .data], laidTests := true, laidLooks := .later }
def MonitorMapsUptoCardSaid : Prop := Claim7.holds Tryd.pinned (.plain (OpenSpec.upto monitorMapsSpec)) monitorMapsUptoCard
end Rows
end Go.Proofs.YtmmmebdgannpgaaDoor
