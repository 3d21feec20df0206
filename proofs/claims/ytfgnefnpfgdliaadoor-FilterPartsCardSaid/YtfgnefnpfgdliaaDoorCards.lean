/-
  DERIVED. GIVEN WITH THE SEED: THE CARDS: each row of YtfgnefnpfgdliaaDoorRows.lean that lists a variable, with what it lists TIED to the program's text (the seventh form; the later family's looks); each row that meets fmt, with fmt's text TOLD by the authors' own Lean function (tested against real Go, not proved from fmt's source: count such statements apart). THE CARD IS WHAT COUNTS. Prove the row's statement (the work); the ties are given (YtfgnefnpfgdliaaDoorTie.lean); close each card by the builder's one call (the guide's Derived/Test/ToyasCard.lean, 'card_holds'). Laid BY PROGRAM, IN A SANDBOX (cutbox-door.mjs). By AI agents, Wed Nov 11 2026. No macro, syntax, notation, axiom, sorry.
-/
import Derived.Test.YtfgnefnpfgdliaaDoorRows
import GoSem.ClaimSeven
namespace Go.Proofs.YtfgnefnpfgdliaaDoor
namespace Rows

/-- THE TIED CARD OF 'winnowerlaw17.FilterTells'. -/
def filterTellsCard : Claim7 := { stood := { row := filterTellsRow, standIns := [], harness := (true, "dc19542c026a170a5d10b86e8a02defd943fc1de4097a15d8f64584d69773883"), looks := false }, kinds := [], alts := [], laidByText := true, laidKinds := [.data], laidTests := true, laidLooks := .later }
def FilterTellsCardSaid : Prop := Claim7.holds Tryd.pinned (.plain (OpenSpec.ofChange filterTellsSpec)) filterTellsCard

/-- THE TIED CARD OF 'winnowerlaw17.FilterSets'. -/
def filterSetsCard : Claim7 := { stood := { row := filterSetsRow, standIns := [], harness := (true, "dc19542c026a170a5d10b86e8a02defd943fc1de4097a15d8f64584d69773883"), looks := false }, kinds := [], alts := [], laidByText := true, laidKinds := [.data], laidTests := true, laidLooks := .later }
def FilterSetsCardSaid : Prop := Claim7.holds Tryd.pinned (.plain (OpenSpec.ofChange filterSetsSpec)) filterSetsCard

/-- THE TIED CARD OF 'winnowerlaw17.FilterParts'. -/
def filterPartsCard : Claim7 := { stood := { row := filterPartsRow, standIns := [], harness := (true, "dc19542c026a170a5d10b86e8a02defd943fc1de4097a15d8f64584d69773883"), looks := false }, kinds := [], alts := [], laidByText := true, laidKinds := [.data], laidTests := true, laidLooks := .later }
def FilterPartsCardSaid : Prop := Claim7.holds Tryd.pinned (.plain (OpenSpec.ofChange filterPartsSpec)) filterPartsCard

/-- THE TIED CARD OF 'winnowerlaw17.FilterRows'. -/
def filterRowsCard : Claim7 := { stood := { row := filterRowsRow, standIns := [], harness := (true, "dc19542c026a170a5d10b86e8a02defd943fc1de4097a15d8f64584d69773883"), looks := false }, kinds := [], alts := [], laidByText := true, laidKinds := [.data], laidTests := true, laidLooks := .later }
def FilterRowsCardSaid : Prop := Claim7.holds Tryd.pinned (.plain (OpenSpec.ofChange filterRowsSpec)) filterRowsCard

/-- THE TIED CARD OF 'winnowerlaw16.QueryMore'. -/
def queryMoreCard : Claim7 := { stood := { row := queryMoreRow, standIns := [], harness := (true, "dc19542c026a170a5d10b86e8a02defd943fc1de4097a15d8f64584d69773883"), looks := false }, kinds := [], alts := [], laidByText := true, laidKinds := [.data, .pinned], laidTests := true, laidLooks := .later }
def QueryMoreCardSaid : Prop := Claim7.holds Tryd.pinned (.plain (OpenSpec.ofChange queryMoreSpec)) queryMoreCard

/-- THE TIED CARD OF 'winnowerlaw16.QueryLess'. -/
def queryLessCard : Claim7 := { stood := { row := queryLessRow, standIns := [], harness := (true, "dc19542c026a170a5d10b86e8a02defd943fc1de4097a15d8f64584d69773883"), looks := false }, kinds := [], alts := [], laidByText := true, laidKinds := [.data, .pinned], laidTests := true, laidLooks := .later }
def QueryLessCardSaid : Prop := Claim7.holds Tryd.pinned (.plain (OpenSpec.ofChange queryLessSpec)) queryLessCard

/-- THE SECOND FORM's CARD OF 'winnowerlaw17.FilterTells'. -/
def filterTellsUptoCard : Claim7 := { stood := { row := filterTellsUptoRow, standIns := [], harness := (true, "dc19542c026a170a5d10b86e8a02defd943fc1de4097a15d8f64584d69773883"), looks := false }, kinds := [], alts := [], laidByText := true, laidKinds := [.data], laidTests := true, laidLooks := .later }
def FilterTellsUptoCardSaid : Prop := Claim7.holds Tryd.pinned (.plain (OpenSpec.upto filterTellsSpec)) filterTellsUptoCard

/-- THE SECOND FORM's CARD OF 'winnowerlaw17.FilterSets'. -/
def filterSetsUptoCard : Claim7 := { stood := { row := filterSetsUptoRow, standIns := [], harness := (true, "dc19542c026a170a5d10b86e8a02defd943fc1de4097a15d8f64584d69773883"), looks := false }, kinds := [], alts := [], laidByText := true, laidKinds := [.data], laidTests := true, laidLooks := .later }
def FilterSetsUptoCardSaid : Prop := Claim7.holds Tryd.pinned (.plain (OpenSpec.upto filterSetsSpec)) filterSetsUptoCard

/-- THE SECOND FORM's CARD OF 'winnowerlaw17.FilterParts'. -/
def filterPartsUptoCard : Claim7 := { stood := { row := filterPartsUptoRow, standIns := [], harness := (true, "dc19542c026a170a5d10b86e8a02defd943fc1de4097a15d8f64584d69773883"), looks := false }, kinds := [], alts := [], laidByText := true, laidKinds := [.data], laidTests := true, laidLooks := .later }
def FilterPartsUptoCardSaid : Prop := Claim7.holds Tryd.pinned (.plain (OpenSpec.upto filterPartsSpec)) filterPartsUptoCard

/-- THE SECOND FORM's CARD OF 'winnowerlaw17.FilterRows'. -/
def filterRowsUptoCard : Claim7 := { stood := { row := filterRowsUptoRow, standIns := [], harness := (true, "dc19542c026a170a5d10b86e8a02defd943fc1de4097a15d8f64584d69773883"), looks := false }, kinds := [], alts := [], laidByText := true, laidKinds := [.data], laidTests := true, laidLooks := .later }
def FilterRowsUptoCardSaid : Prop := Claim7.holds Tryd.pinned (.plain (OpenSpec.upto filterRowsSpec)) filterRowsUptoCard

/-- THE SECOND FORM's CARD OF 'winnowerlaw16.QueryMore'. -/
def queryMoreUptoCard : Claim7 := { stood := { row := queryMoreUptoRow, standIns := [], harness := (true, "dc19542c026a170a5d10b86e8a02defd943fc1de4097a15d8f64584d69773883"), looks := false }, kinds := [], alts := [], laidByText := true, laidKinds := [.data, .pinned], laidTests := true, laidLooks := .later }
def QueryMoreUptoCardSaid : Prop := Claim7.holds Tryd.pinned (.plain (OpenSpec.upto queryMoreSpec)) queryMoreUptoCard

/-- THE SECOND FORM's CARD OF 'winnowerlaw16.QueryLess'. -/
def queryLessUptoCard : Claim7 := { stood := { row := queryLessUptoRow, standIns := [], harness := (true, "dc19542c026a170a5d10b86e8a02defd943fc1de4097a15d8f64584d69773883"), looks := false }, kinds := [], alts := [], laidByText := true, laidKinds := [.data, .pinned], laidTests := true, laidLooks := .later }
def QueryLessUptoCardSaid : Prop := Claim7.holds Tryd.pinned (.plain (OpenSpec.upto queryLessSpec)) queryLessUptoCard
end Rows
end Go.Proofs.YtfgnefnpfgdliaaDoor
