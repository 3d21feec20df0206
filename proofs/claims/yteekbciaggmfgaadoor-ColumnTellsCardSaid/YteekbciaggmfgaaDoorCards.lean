/-
  DERIVED. GIVEN WITH THE SEED: THE CARDS: each row of YteekbciaggmfgaaDoorRows.lean that lists a variable, with what it lists TIED to the program's text (the seventh form; the later family's looks); each row that meets fmt, with fmt's text TOLD by the authors' own Lean function (tested against real Go, not proved from fmt's source: count such statements apart). THE CARD IS WHAT COUNTS. Prove the row's statement (the work); the ties are given (YteekbciaggmfgaaDoorTie.lean); close each card by the builder's one call (the guide's Derived/Test/ToyasCard.lean, 'card_holds'). Laid BY PROGRAM, IN A SANDBOX (cutbox-door.mjs). By AI agents, Wed Nov 11 2026. No macro, syntax, notation, axiom, sorry.
-/
import Derived.Test.YteekbciaggmfgaaDoorRows
import GoSem.ClaimSeven
namespace Go.Proofs.YteekbciaggmfgaaDoor
namespace Rows

/-- THE TIED CARD OF 'winnowerlaw10.ColumnTells'. -/
def columnTellsCard : Claim7 := { stood := { row := columnTellsRow, standIns := [], harness := (true, "e46391ebeb42faee2d1c932c27191fef06e28c6f2cfc1e4d3d2810979675fde6"), looks := false }, kinds := [], alts := [], laidByText := true, laidKinds := [.data], laidTests := true, laidLooks := .later }
def ColumnTellsCardSaid : Prop := Claim7.holds Tryd.pinned (.plain (OpenSpec.ofChange columnTellsSpec)) columnTellsCard

/-- THE TIED CARD OF 'winnowerlaw10.ColumnBack'. -/
def columnBackCard : Claim7 := { stood := { row := columnBackRow, standIns := [], harness := (true, "e46391ebeb42faee2d1c932c27191fef06e28c6f2cfc1e4d3d2810979675fde6"), looks := false }, kinds := [], alts := [], laidByText := true, laidKinds := [.data], laidTests := true, laidLooks := .later }
def ColumnBackCardSaid : Prop := Claim7.holds Tryd.pinned (.plain (OpenSpec.ofChange columnBackSpec)) columnBackCard

/-- THE SECOND FORM's CARD OF 'winnowerlaw10.ColumnTells'. -/
def columnTellsUptoCard : Claim7 := { stood := { row := columnTellsUptoRow, standIns := [], harness := (true, "e46391ebeb42faee2d1c932c27191fef06e28c6f2cfc1e4d3d2810979675fde6"), looks := false }, kinds := [], alts := [], laidByText := true, laidKinds := [.data], laidTests := true, laidLooks := .later }
def ColumnTellsUptoCardSaid : Prop := Claim7.holds Tryd.pinned (.plain (OpenSpec.upto columnTellsSpec)) columnTellsUptoCard

/-- THE SECOND FORM's CARD OF 'winnowerlaw10.ColumnBack'. -/
def columnBackUptoCard : Claim7 := { stood := { row := columnBackUptoRow, standIns := [], harness := (true, "e46391ebeb42faee2d1c932c27191fef06e28c6f2cfc1e4d3d2810979675fde6"), looks := false }, kinds := [], alts := [], laidByText := true, laidKinds := [.data], laidTests := true, laidLooks := .later }
def ColumnBackUptoCardSaid : Prop := Claim7.holds Tryd.pinned (.plain (OpenSpec.upto columnBackSpec)) columnBackUptoCard
end Rows
end Go.Proofs.YteekbciaggmfgaaDoor
