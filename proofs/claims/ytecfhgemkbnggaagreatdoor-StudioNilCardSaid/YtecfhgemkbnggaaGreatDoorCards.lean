/-
  DERIVED. GIVEN WITH THE SEED: THE CARDS: each row of YtecfhgemkbnggaaGreatDoorRows.lean that lists a variable, with what it lists TIED to the program's text (the seventh form; the later family's looks); each row that meets fmt, with fmt's text TOLD by the authors' own Lean function (tested against real Go, not proved from fmt's source: count such statements apart). THE CARD IS WHAT COUNTS. Prove the row's statement (the work); the ties are given (YtecfhgemkbnggaaGreatDoorTie.lean); close each card by the builder's one call (the guide's Derived/Test/ToyasCard.lean, 'card_holds'). Laid BY PROGRAM, IN A SANDBOX (cutbox-door.mjs). By AI agents, Wed Nov 11 2026. No macro, syntax, notation, axiom, sorry.
-/
import Derived.Test.YtecfhgemkbnggaaGreatDoorRows
import GoSem.ClaimSeven
namespace Go.Proofs.YtecfhgemkbnggaaGreatDoor
namespace Rows

/-- THE TIED CARD OF 'gouachelaw24.StudioNil'. -/
def studioNilCard : Claim7 := { stood := { row := studioNilRow, standIns := [], harness := (true, "27d14d6ae10ca6dd9d40d0e2c305d219ecfc7f423b14d60f067b4101ea5adb6c"), looks := true }, kinds := [], alts := [], laidByText := true, laidKinds := [.pinned, .data, .data, .data, .data], laidTests := true, laidLooks := .later }
def StudioNilCardSaid : Prop := Claim7.holds Tryz.pinned (.plain (OpenSpec.ofChange studioNilSpec)) studioNilCard

/-- THE SECOND FORM's CARD OF 'gouachelaw24.StudioNil'. -/
def studioNilUptoCard : Claim7 := { stood := { row := studioNilUptoRow, standIns := [], harness := (true, "27d14d6ae10ca6dd9d40d0e2c305d219ecfc7f423b14d60f067b4101ea5adb6c"), looks := true }, kinds := [], alts := [], laidByText := true, laidKinds := [.pinned, .data, .data, .data, .data], laidTests := true, laidLooks := .later }
def StudioNilUptoCardSaid : Prop := Claim7.holds Tryz.pinned (.plain (OpenSpec.upto studioNilSpec)) studioNilUptoCard
end Rows
end Go.Proofs.YtecfhgemkbnggaaGreatDoor
