/-
  DERIVED. GIVEN WITH THE SEED: THE CARDS: each row of YtojhkbbnkhfnhaaDoorRows.lean that lists a variable, with what it lists TIED to the program's text (the seventh form; the later family's looks); each row that meets fmt, with fmt's text TOLD by the authors' own Lean function (tested against real Go, not proved from fmt's source: count such statements apart). THE CARD IS WHAT COUNTS. Prove the row's statement (the work); the ties are given (YtojhkbbnkhfnhaaDoorTie.lean); close each card by the builder's one call (the guide's Derived/Test/ToyasCard.lean, 'card_holds'). Laid BY PROGRAM, IN A SANDBOX (cutbox-door.mjs). By AI agents, Wed Nov 11 2026. No macro, syntax, notation, axiom, sorry.
-/
import Derived.Test.YtojhkbbnkhfnhaaDoorRows
import GoSem.ClaimSeven
namespace Go.Proofs.YtojhkbbnkhfnhaaDoor
namespace Rows

/-- THE TIED CARD OF 'winnowerlaw17.FilterSeals'. -/
def filterSealsCard : Claim7 := { stood := { row := filterSealsRow, standIns := [], harness := (true, "579584706e1b8d4496858dfedb9a6987c9d7ef5dc84ad05c3069e542a8a27607"), looks := false }, kinds := [], alts := [], laidByText := true, laidKinds := [.data], laidTests := true, laidLooks := .later }
def FilterSealsCardSaid : Prop := Claim7.holds Tryd.pinned (.plain (OpenSpec.ofChange filterSealsSpec)) filterSealsCard

/-- THE TIED CARD OF 'winnowerlaw10.ColumnTells'. -/
def columnTellsCard : Claim7 := { stood := { row := columnTellsRow, standIns := [], harness := (true, "579584706e1b8d4496858dfedb9a6987c9d7ef5dc84ad05c3069e542a8a27607"), looks := false }, kinds := [], alts := [], laidByText := true, laidKinds := [.data], laidTests := true, laidLooks := .later }
def ColumnTellsCardSaid : Prop := Claim7.holds Tryd.pinned (.plain (OpenSpec.ofChange columnTellsSpec)) columnTellsCard

/-- THE TIED CARD OF 'winnowerlaw10.ColumnBack'. -/
def columnBackCard : Claim7 := { stood := { row := columnBackRow, standIns := [], harness := (true, "579584706e1b8d4496858dfedb9a6987c9d7ef5dc84ad05c3069e542a8a27607"), looks := false }, kinds := [], alts := [], laidByText := true, laidKinds := [.data], laidTests := true, laidLooks := .later }
def ColumnBackCardSaid : Prop := Claim7.holds Tryd.pinned (.plain (OpenSpec.ofChange columnBackSpec)) columnBackCard

/-- THE SECOND FORM's CARD OF 'winnowerlaw17.FilterSeals'. -/
def filterSealsUptoCard : Claim7 := { stood := { row := filterSealsUptoRow, standIns := [], harness := (true, "579584706e1b8d4496858dfedb9a6987c9d7ef5dc84ad05c3069e542a8a27607"), looks := false }, kinds := [], alts := [], laidByText := true, laidKinds := [.data], laidTests := true, laidLooks := .later }
def FilterSealsUptoCardSaid : Prop := Claim7.holds Tryd.pinned (.plain (OpenSpec.upto filterSealsSpec)) filterSealsUptoCard

/-- THE SECOND FORM's CARD OF 'winnowerlaw10.ColumnTells'. -/
def columnTellsUptoCard : Claim7 := { stood := { row := columnTellsUptoRow, standIns := [], harness := (true, "579584706e1b8d4496858dfedb9a6987c9d7ef5dc84ad05c3069e542a8a27607"), looks := false }, kinds := [], alts := [], laidByText := true, laidKinds := [.data], laidTests := true, laidLooks := .later }
def ColumnTellsUptoCardSaid : Prop := Claim7.holds Tryd.pinned (.plain (OpenSpec.upto columnTellsSpec)) columnTellsUptoCard

/-- THE SECOND FORM's CARD OF 'winnowerlaw10.ColumnBack'. -/
def columnBackUptoCard : Claim7 := { stood := { row := columnBackUptoRow, standIns := [], harness := (true, "579584706e1b8d4496858dfedb9a6987c9d7ef5dc84ad05c3069e542a8a27607"), looks := false }, kinds := [], alts := [], laidByText := true, laidKinds := [.data], laidTests := true, laidLooks := .later }
def ColumnBackUptoCardSaid : Prop := Claim7.holds Tryd.pinned (.plain (OpenSpec.upto columnBackSpec)) columnBackUptoCard
end Rows
end Go.Proofs.YtojhkbbnkhfnhaaDoor
