/-
  DERIVED. GIVEN WITH THE SEED: THE CARDS: each row of YtfpighmafofoeaaDoorRows.lean that lists a variable, with what it lists TIED to the program's text (the seventh form; the later family's looks); each row that meets fmt, with fmt's text TOLD by the authors' own Lean function (tested against real Go, not proved from fmt's source: count such statements apart). THE CARD IS WHAT COUNTS. Prove the row's statement (the work); the ties are given (YtfpighmafofoeaaDoorTie.lean); close each card by the builder's one call (the guide's Derived/Test/ToyasCard.lean, 'card_holds'). Laid BY PROGRAM, IN A SANDBOX (cutbox-door.mjs). By AI agents, Wed Nov 11 2026. No macro, syntax, notation, axiom, sorry.
-/
import Derived.Test.YtfpighmafofoeaaDoorRows
import GoSem.ClaimSeven
namespace Go.Proofs.YtfpighmafofoeaaDoor
namespace Rows

/-- THE TIED CARD OF 'guichetlaw23.DiffsTell'. -/
def diffsTellCard : Claim7 := { stood := { row := diffsTellRow, standIns := [], harness := (true, "5efc862fd867d35c3a85bf2a7c75a5261ea53f0d5c5f6ecbc25382ef9c0b2c97"), looks := false }, kinds := [], alts := [], laidByText := true, laidKinds := [.data, .data, .data], laidTests := true, laidLooks := .later }
def DiffsTellCardSaid : Prop := Claim7.holds Tryd.pinned (.plain (OpenSpec.ofChange diffsTellSpec)) diffsTellCard

/-- THE TIED CARD OF 'guichetlaw23.SettledTells'. -/
def settledTellsCard : Claim7 := { stood := { row := settledTellsRow, standIns := [], harness := (true, "5efc862fd867d35c3a85bf2a7c75a5261ea53f0d5c5f6ecbc25382ef9c0b2c97"), looks := false }, kinds := [], alts := [], laidByText := true, laidKinds := [.data, .data, .data], laidTests := true, laidLooks := .later }
def SettledTellsCardSaid : Prop := Claim7.holds Tryd.pinned (.plain (OpenSpec.ofChange settledTellsSpec)) settledTellsCard

/-- THE TIED CARD OF 'guichetlaw23.DiffsBack'. -/
def diffsBackCard : Claim7 := { stood := { row := diffsBackRow, standIns := [], harness := (true, "5efc862fd867d35c3a85bf2a7c75a5261ea53f0d5c5f6ecbc25382ef9c0b2c97"), looks := false }, kinds := [], alts := [], laidByText := true, laidKinds := [.data, .data, .data], laidTests := true, laidLooks := .later }
def DiffsBackCardSaid : Prop := Claim7.holds Tryd.pinned (.plain (OpenSpec.ofChange diffsBackSpec)) diffsBackCard

/-- THE SECOND FORM's CARD OF 'guichetlaw23.DiffsTell'. -/
def diffsTellUptoCard : Claim7 := { stood := { row := diffsTellUptoRow, standIns := [], harness := (true, "5efc862fd867d35c3a85bf2a7c75a5261ea53f0d5c5f6ecbc25382ef9c0b2c97"), looks := false }, kinds := [], alts := [], laidByText := true, laidKinds := [.data, .data, .data], laidTests := true, laidLooks := .later }
def DiffsTellUptoCardSaid : Prop := Claim7.holds Tryd.pinned (.plain (OpenSpec.upto diffsTellSpec)) diffsTellUptoCard

/-- THE SECOND FORM's CARD OF 'guichetlaw23.SettledTells'. -/
def settledTellsUptoCard : Claim7 := { stood := { row := settledTellsUptoRow, standIns := [], harness := (true, "5efc862fd867d35c3a85bf2a7c75a5261ea53f0d5c5f6ecbc25382ef9c0b2c97"), looks := false }, kinds := [], alts := [], laidByText := true, laidKinds := [.data, .data, .data], laidTests := true, laidLooks := .later }
def SettledTellsUptoCardSaid : Prop := Claim7.holds Tryd.pinned (.plain (OpenSpec.upto settledTellsSpec)) settledTellsUptoCard

/-- THE SECOND FORM's CARD OF 'guichetlaw23.DiffsBack'. -/
def diffsBackUptoCard : Claim7 := { stood := { row := diffsBackUptoRow, standIns := [], harness := (true, "5efc862fd867d35c3a85bf2a7c75a5261ea53f0d5c5f6ecbc25382ef9c0b2c97"), looks := false }, kinds := [], alts := [], laidByText := true, laidKinds := [.data, .data, .data], laidTests := true, laidLooks := .later }
def DiffsBackUptoCardSaid : Prop := Claim7.holds Tryd.pinned (.plain (OpenSpec.upto diffsBackSpec)) diffsBackUptoCard
end Rows
end Go.Proofs.YtfpighmafofoeaaDoor
