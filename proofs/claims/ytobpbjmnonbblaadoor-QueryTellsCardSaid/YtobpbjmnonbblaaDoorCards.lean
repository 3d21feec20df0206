/-
  DERIVED. GIVEN WITH THE SEED: THE CARDS: each row of YtobpbjmnonbblaaDoorRows.lean that lists a variable, with what it lists TIED to the program's text (the seventh form; the later family's looks); each row that meets fmt, with fmt's text TOLD by the authors' own Lean function (tested against real Go, not proved from fmt's source: count such statements apart). THE CARD IS WHAT COUNTS. Prove the row's statement (the work); the ties are given (YtobpbjmnonbblaaDoorTie.lean); close each card by the builder's one call (the guide's Derived/Test/ToyasCard.lean, 'card_holds'). Laid BY PROGRAM, IN A SANDBOX (cutbox-door.mjs). By AI agents, Wed Nov 11 2026. No macro, syntax, notation, axiom, sorry.
-/
import Derived.Test.YtobpbjmnonbblaaDoorRows
import GoSem.ClaimSeven
namespace Go.Proofs.YtobpbjmnonbblaaDoor
namespace Rows

/-- THE TIED CARD OF 'winnowerlaw16.QueryMore'. -/
def queryMoreCard : Claim7 := { stood := { row := queryMoreRow, standIns := [], harness := (true, "48fecce45b4dc4b41d55e99a513468d6cd0307ff376a3bc4c3151e4347e88bb0"), looks := false }, kinds := [], alts := [], laidByText := true, laidKinds := [.data, .pinned], laidTests := true, laidLooks := .later }
def QueryMoreCardSaid : Prop := Claim7.holds Tryd.pinned (.plain (OpenSpec.ofChange queryMoreSpec)) queryMoreCard

/-- THE TIED CARD OF 'winnowerlaw16.QueryLess'. -/
def queryLessCard : Claim7 := { stood := { row := queryLessRow, standIns := [], harness := (true, "48fecce45b4dc4b41d55e99a513468d6cd0307ff376a3bc4c3151e4347e88bb0"), looks := false }, kinds := [], alts := [], laidByText := true, laidKinds := [.data, .pinned], laidTests := true, laidLooks := .later }
def QueryLessCardSaid : Prop := Claim7.holds Tryd.pinned (.plain (OpenSpec.ofChange queryLessSpec)) queryLessCard

/-- THE TIED CARD OF 'winnowerlaw16.QueryTells'. -/
def queryTellsCard : Claim7 := { stood := { row := queryTellsRow, standIns := [], harness := (true, "48fecce45b4dc4b41d55e99a513468d6cd0307ff376a3bc4c3151e4347e88bb0"), looks := false }, kinds := [], alts := [], laidByText := true, laidKinds := [.data, .pinned], laidTests := true, laidLooks := .later }
def QueryTellsCardSaid : Prop := Claim7.holds Tryd.pinned (.plain (OpenSpec.ofChange queryTellsSpec)) queryTellsCard

/-- THE TIED CARD OF 'winnowerlaw16.QueryNames'. -/
def queryNamesCard : Claim7 := { stood := { row := queryNamesRow, standIns := [], harness := (true, "48fecce45b4dc4b41d55e99a513468d6cd0307ff376a3bc4c3151e4347e88bb0"), looks := false }, kinds := [], alts := [], laidByText := true, laidKinds := [.data, .pinned], laidTests := true, laidLooks := .later }
def QueryNamesCardSaid : Prop := Claim7.holds Tryd.pinned (.plain (OpenSpec.ofChange queryNamesSpec)) queryNamesCard

/-- THE SECOND FORM's CARD OF 'winnowerlaw16.QueryMore'. -/
def queryMoreUptoCard : Claim7 := { stood := { row := queryMoreUptoRow, standIns := [], harness := (true, "48fecce45b4dc4b41d55e99a513468d6cd0307ff376a3bc4c3151e4347e88bb0"), looks := false }, kinds := [], alts := [], laidByText := true, laidKinds := [.data, .pinned], laidTests := true, laidLooks := .later }
def QueryMoreUptoCardSaid : Prop := Claim7.holds Tryd.pinned (.plain (OpenSpec.upto queryMoreSpec)) queryMoreUptoCard

/-- THE SECOND FORM's CARD OF 'winnowerlaw16.QueryLess'. -/
def queryLessUptoCard : Claim7 := { stood := { row := queryLessUptoRow, standIns := [], harness := (true, "48fecce45b4dc4b41d55e99a513468d6cd0307ff376a3bc4c3151e4347e88bb0"), looks := false }, kinds := [], alts := [], laidByText := true, laidKinds := [.data, .pinned], laidTests := true, laidLooks := .later }
def QueryLessUptoCardSaid : Prop := Claim7.holds Tryd.pinned (.plain (OpenSpec.upto queryLessSpec)) queryLessUptoCard

/-- THE SECOND FORM's CARD OF 'winnowerlaw16.QueryTells'. -/
def queryTellsUptoCard : Claim7 := { stood := { row := queryTellsUptoRow, standIns := [], harness := (true, "48fecce45b4dc4b41d55e99a513468d6cd0307ff376a3bc4c3151e4347e88bb0"), looks := false }, kinds := [], alts := [], laidByText := true, laidKinds := [.data, .pinned], laidTests := true, laidLooks := .later }
def QueryTellsUptoCardSaid : Prop := Claim7.holds Tryd.pinned (.plain (OpenSpec.upto queryTellsSpec)) queryTellsUptoCard

/-- THE SECOND FORM's CARD OF 'winnowerlaw16.QueryNames'. -/
def queryNamesUptoCard : Claim7 := { stood := { row := queryNamesUptoRow, standIns := [], harness := (true, "48fecce45b4dc4b41d55e99a513468d6cd0307ff376a3bc4c3151e4347e88bb0"), looks := false }, kinds := [], alts := [], laidByText := true, laidKinds := [.data, .pinned], laidTests := true, laidLooks := .later }
def QueryNamesUptoCardSaid : Prop := Claim7.holds Tryd.pinned (.plain (OpenSpec.upto queryNamesSpec)) queryNamesUptoCard
end Rows
end Go.Proofs.YtobpbjmnonbblaaDoor
