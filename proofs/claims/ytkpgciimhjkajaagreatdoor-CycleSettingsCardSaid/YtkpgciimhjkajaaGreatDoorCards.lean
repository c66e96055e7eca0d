/-
  DERIVED. GIVEN WITH THE SEED: THE CARDS: each row of YtkpgciimhjkajaaGreatDoorRows.lean that lists a variable, with what it lists TIED to the program's text (the seventh form; the later family's looks); each row that meets fmt, with fmt's text TOLD by the authors' own Lean function (tested against real Go, not proved from fmt's source: count such statements apart). THE CARD IS WHAT COUNTS. Prove the row's statement (the work); the ties are given (YtkpgciimhjkajaaGreatDoorTie.lean); close each card by the builder's one call (the guide's Derived/Test/ToyasCard.lean, 'card_holds'). Laid BY PROGRAM, IN A SANDBOX (cutbox-door.mjs). By AI agents, Wed Nov 11 2026. No macro, syntax, notation, axiom, sorry.
-/
import Derived.Test.YtkpgciimhjkajaaGreatDoorRows
import GoSem.ClaimSeven
namespace Go.Proofs.YtkpgciimhjkajaaGreatDoor
namespace Rows

/-- THE TIED CARD OF 'synopticlaw34.CycleSettings'. -/
def cycleSettingsCard : Claim7 := { stood := { row := cycleSettingsRow, standIns := [], harness := (true, "c6189a49141cc3272710728c9e9d2435c89f92bb8eae31dfc8099d34d5199fea"), looks := false }, kinds := [], alts := [], laidByText := true, laidKinds := [.data], laidTests := true, laidLooks := .later }
def CycleSettingsCardSaid : Prop := Claim7.holds Tryz.pinned (.plain (OpenSpec.ofChange cycleSettingsSpec)) cycleSettingsCard

/-- THE SECOND FORM's CARD OF 'synopticlaw34.CycleSettings'. -/
def cycleSettingsUptoCard : Claim7 := { stood := { row := cycleSettingsUptoRow, standIns := [], harness := (true, "c6189a49141cc3272710728c9e9d2435c89f92bb8eae31dfc8099d34d5199fea"), looks := false }, kinds := [], alts := [], laidByText := true, laidKinds := [.data], laidTests := true, laidLooks := .later }
def CycleSettingsUptoCardSaid : Prop := Claim7.holds Tryz.pinned (.plain (OpenSpec.upto cycleSettingsSpec)) cycleSettingsUptoCard
end Rows
end Go.Proofs.YtkpgciimhjkajaaGreatDoor
