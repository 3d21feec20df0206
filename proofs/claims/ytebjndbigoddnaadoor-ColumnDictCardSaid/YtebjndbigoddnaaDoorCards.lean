/-
  DERIVED. GIVEN WITH THE SEED: THE CARDS: each row of YtebjndbigoddnaaDoorRows.lean that lists a variable, with what it lists TIED to the program's text (the seventh form; the later family's looks); each row that meets fmt, with fmt's text TOLD by the authors' own Lean function (tested against real Go, not proved from fmt's source: count such statements apart). THE CARD IS WHAT COUNTS. Prove the row's statement (the work); the ties are given (YtebjndbigoddnaaDoorTie.lean); close each card by the builder's one call (the guide's Derived/Test/ToyasCard.lean, 'card_holds'). Laid BY PROGRAM, IN A SANDBOX (cutbox-door.mjs). By AI agents, Wed Nov 11 2026. No macro, syntax, notation, axiom, sorry.
-/
import Derived.Test.YtebjndbigoddnaaDoorRows
import GoSem.ClaimSeven
namespace Go.Proofs.YtebjndbigoddnaaDoor
namespace Rows

/-- THE TIED CARD OF 'winnowerlaw17.FilterParts'. -/
def filterPartsCard : Claim7 := { stood := { row := filterPartsRow, standIns := [], harness := (true, "5a482563df7090dec8b76c3e97e3d819bef82b87e61e06743891f1415f02e6eb"), looks := false }, kinds := [], alts := [], laidByText := true, laidKinds := [.data], laidTests := true, laidLooks := .later }
def FilterPartsCardSaid : Prop := Claim7.holds Tryd.pinned (.plain (OpenSpec.ofChange filterPartsSpec)) filterPartsCard

/-- THE TIED CARD OF 'winnowerlaw17.FilterSeals'. -/
def filterSealsCard : Claim7 := { stood := { row := filterSealsRow, standIns := [], harness := (true, "5a482563df7090dec8b76c3e97e3d819bef82b87e61e06743891f1415f02e6eb"), looks := false }, kinds := [], alts := [], laidByText := true, laidKinds := [.data], laidTests := true, laidLooks := .later }
def FilterSealsCardSaid : Prop := Claim7.holds Tryd.pinned (.plain (OpenSpec.ofChange filterSealsSpec)) filterSealsCard

/-- THE TIED CARD OF 'winnowerlaw10.ColumnBuilds'. -/
def columnBuildsCard : Claim7 := { stood := { row := columnBuildsRow, standIns := [], harness := (true, "5a482563df7090dec8b76c3e97e3d819bef82b87e61e06743891f1415f02e6eb"), looks := false }, kinds := [], alts := [], laidByText := true, laidKinds := [.data], laidTests := true, laidLooks := .later }
def ColumnBuildsCardSaid : Prop := Claim7.holds Tryd.pinned (.plain (OpenSpec.ofChange columnBuildsSpec)) columnBuildsCard

/-- THE TIED CARD OF 'winnowerlaw10.ColumnDict'. -/
def columnDictCard : Claim7 := { stood := { row := columnDictRow, standIns := [], harness := (true, "5a482563df7090dec8b76c3e97e3d819bef82b87e61e06743891f1415f02e6eb"), looks := false }, kinds := [], alts := [], laidByText := true, laidKinds := [.data], laidTests := true, laidLooks := .later }
def ColumnDictCardSaid : Prop := Claim7.holds Tryd.pinned (.plain (OpenSpec.ofChange columnDictSpec)) columnDictCard

/-- THE TIED CARD OF 'winnowerlaw10.ColumnParts'. -/
def columnPartsCard : Claim7 := { stood := { row := columnPartsRow, standIns := [], harness := (true, "5a482563df7090dec8b76c3e97e3d819bef82b87e61e06743891f1415f02e6eb"), looks := false }, kinds := [], alts := [], laidByText := true, laidKinds := [.data], laidTests := true, laidLooks := .later }
def ColumnPartsCardSaid : Prop := Claim7.holds Tryd.pinned (.plain (OpenSpec.ofChange columnPartsSpec)) columnPartsCard

/-- THE TIED CARD OF 'winnowerlaw10.ColumnTells'. -/
def columnTellsCard : Claim7 := { stood := { row := columnTellsRow, standIns := [], harness := (true, "5a482563df7090dec8b76c3e97e3d819bef82b87e61e06743891f1415f02e6eb"), looks := false }, kinds := [], alts := [], laidByText := true, laidKinds := [.data], laidTests := true, laidLooks := .later }
def ColumnTellsCardSaid : Prop := Claim7.holds Tryd.pinned (.plain (OpenSpec.ofChange columnTellsSpec)) columnTellsCard

/-- THE SECOND FORM's CARD OF 'winnowerlaw17.FilterParts'. -/
def filterPartsUptoCard : Claim7 := { stood := { row := filterPartsUptoRow, standIns := [], harness := (true, "5a482563df7090dec8b76c3e97e3d819bef82b87e61e06743891f1415f02e6eb"), looks := false }, kinds := [], alts := [], laidByText := true, laidKinds := [.data], laidTests := true, laidLooks := .later }
def FilterPartsUptoCardSaid : Prop := Claim7.holds Tryd.pinned (.plain (OpenSpec.upto filterPartsSpec)) filterPartsUptoCard

/-- THE SECOND FORM's CARD OF 'winnowerlaw17.FilterSeals'. -/
def filterSealsUptoCard : Claim7 := { stood := { row := filterSealsUptoRow, standIns := [], harness := (true, "5a482563df7090dec8b76c3e97e3d819bef82b87e61e06743891f1415f02e6eb"), looks := false }, kinds := [], alts := [], laidByText := true, laidKinds := [.data], laidTests := true, laidLooks := .later }
def FilterSealsUptoCardSaid : Prop := Claim7.holds Tryd.pinned (.plain (OpenSpec.upto filterSealsSpec)) filterSealsUptoCard

/-- THE SECOND FORM's CARD OF 'winnowerlaw10.ColumnBuilds'. -/
def columnBuildsUptoCard : Claim7 := { stood := { row := columnBuildsUptoRow, standIns := [], harness := (true, "5a482563df7090dec8b76c3e97e3d819bef82b87e61e06743891f1415f02e6eb"), looks := false }, kinds := [], alts := [], laidByText := true, laidKinds := [.data], laidTests := true, laidLooks := .later }
def ColumnBuildsUptoCardSaid : Prop := Claim7.holds Tryd.pinned (.plain (OpenSpec.upto columnBuildsSpec)) columnBuildsUptoCard

/-- THE SECOND FORM's CARD OF 'winnowerlaw10.ColumnDict'. -/
def columnDictUptoCard : Claim7 := { stood := { row := columnDictUptoRow, standIns := [], harness := (true, "5a482563df7090dec8b76c3e97e3d819bef82b87e61e06743891f1415f02e6eb"), looks := false }, kinds := [], alts := [], laidByText := true, laidKinds := [.data], laidTests := true, laidLooks := .later }
def ColumnDictUptoCardSaid : Prop := Claim7.holds Tryd.pinned (.plain (OpenSpec.upto columnDictSpec)) columnDictUptoCard

/-- THE SECOND FORM's CARD OF 'winnowerlaw10.ColumnParts'. -/
def columnPartsUptoCard : Claim7 := { stood := { row := columnPartsUptoRow, standIns := [], harness := (true, "5a482563df7090dec8b76c3e97e3d819bef82b87e61e06743891f1415f02e6eb"), looks := false }, kinds := [], alts := [], laidByText := true, laidKinds := [.data], laidTests := true, laidLooks := .later }
def ColumnPartsUptoCardSaid : Prop := Claim7.holds Tryd.pinned (.plain (OpenSpec.upto columnPartsSpec)) columnPartsUptoCard

/-- THE SECOND FORM's CARD OF 'winnowerlaw10.ColumnTells'. -/
def columnTellsUptoCard : Claim7 := { stood := { row := columnTellsUptoRow, standIns := [], harness := (true, "5a482563df7090dec8b76c3e97e3d819bef82b87e61e06743891f1415f02e6eb"), looks := false }, kinds := [], alts := [], laidByText := true, laidKinds := [.data], laidTests := true, laidLooks := .later }
def ColumnTellsUptoCardSaid : Prop := Claim7.holds Tryd.pinned (.plain (OpenSpec.upto columnTellsSpec)) columnTellsUptoCard
end Rows
end Go.Proofs.YtebjndbigoddnaaDoor
