/-
  DERIVED. GIVEN WITH THE SEED: THE CARDS: each row of YtfpighmafofoeaaGreatDoorRows.lean that lists a variable, with what it lists TIED to the program's text (the seventh form; the later family's looks); each row that meets fmt, with fmt's text TOLD by the authors' own Lean function (tested against real Go, not proved from fmt's source: count such statements apart). THE CARD IS WHAT COUNTS. Prove the row's statement (the work); the ties are given (YtfpighmafofoeaaGreatDoorTie.lean); close each card by the builder's one call (the guide's Derived/Test/ToyasCard.lean, 'card_holds'). Laid BY PROGRAM, IN A SANDBOX (cutbox-door.mjs). By AI agents, Wed Nov 11 2026. No macro, syntax, notation, axiom, sorry.
-/
import Derived.Test.YtfpighmafofoeaaGreatDoorRows
import GoSem.ClaimSeven
namespace Go.Proofs.YtfpighmafofoeaaGreatDoor
namespace Rows

/-- THE TIED CARD OF 'guichetlaw23.CutoverTells'. -/
def cutoverTellsCard : Claim7 := { stood := { row := cutoverTellsRow, standIns := [], harness := (true, "57a6f0c04bdbb0eab4241f93f02bc247a49141372750668e940683d0ffc56cff"), looks := false }, kinds := [], alts := [], laidByText := true, laidKinds := [.data, .data, .data], laidTests := true, laidLooks := .later }
def CutoverTellsCardSaid : Prop := Claim7.holds Tryz.pinned (.plain (OpenSpec.ofChange cutoverTellsSpec)) cutoverTellsCard

/-- THE SECOND FORM's CARD OF 'guichetlaw23.CutoverTells'. -/
def cutoverTellsUptoCard : Claim7 := { stood := { row := cutoverTellsUptoRow, standIns := [], harness := (true, "57a6f0c04bdbb0eab4241f93f02bc247a49141372750668e940683d0ffc56cff"), looks := false }, kinds := [], alts := [], laidByText := true, laidKinds := [.data, .data, .data], laidTests := true, laidLooks := .later }
def CutoverTellsUptoCardSaid : Prop := Claim7.holds Tryz.pinned (.plain (OpenSpec.upto cutoverTellsSpec)) cutoverTellsUptoCard
end Rows
end Go.Proofs.YtfpighmafofoeaaGreatDoor
