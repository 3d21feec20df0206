/-
  DERIVED. GIVEN WITH THE SEED: THE CARDS: each row of YtojhkbbnkhfnhaaGreatDoorRows.lean that lists a variable, with what it lists TIED to the program's text (the seventh form; the later family's looks); each row that meets fmt, with fmt's text TOLD by the authors' own Lean function (tested against real Go, not proved from fmt's source: count such statements apart). THE CARD IS WHAT COUNTS. Prove the row's statement (the work); the ties are given (YtojhkbbnkhfnhaaGreatDoorTie.lean); close each card by the builder's one call (the guide's Derived/Test/ToyasCard.lean, 'card_holds'). Laid BY PROGRAM, IN A SANDBOX (cutbox-door.mjs). By AI agents, Wed Nov 11 2026. No macro, syntax, notation, axiom, sorry.
-/
import Derived.Test.YtojhkbbnkhfnhaaGreatDoorRows
import GoSem.ClaimSeven
namespace Go.Proofs.YtojhkbbnkhfnhaaGreatDoor
namespace Rows

/-- THE TIED CARD OF 'winnowerlaw17.FilterSame'. -/
def filterSameCard : Claim7 := { stood := { row := filterSameRow, standIns := [], harness := (true, "f82ca37e070e25bcb7baf150c0b887875d994b6bfac85511b91cbd3408421d2b"), looks := false }, kinds := [], alts := [], laidByText := true, laidKinds := [.data, .data, .pinned], laidTests := true, laidLooks := .later }
def FilterSameCardSaid : Prop := Claim7.holds Tryz.pinned (.plain (OpenSpec.ofChange filterSameSpec)) filterSameCard

/-- THE TIED CARD OF 'winnowerlaw12.SealTells'. -/
def sealTellsCard : Claim7 := { stood := { row := sealTellsRow, standIns := [], harness := (true, "f82ca37e070e25bcb7baf150c0b887875d994b6bfac85511b91cbd3408421d2b"), looks := false }, kinds := [], alts := [], laidByText := true, laidKinds := [.data, .pinned], laidTests := true, laidLooks := .later }
def SealTellsCardSaid : Prop := Claim7.holds Tryz.pinned (.plain (OpenSpec.ofChange sealTellsSpec)) sealTellsCard

/-- THE TIED CARD OF 'winnowerlaw12.SealRows'. -/
def sealRowsCard : Claim7 := { stood := { row := sealRowsRow, standIns := [], harness := (true, "f82ca37e070e25bcb7baf150c0b887875d994b6bfac85511b91cbd3408421d2b"), looks := false }, kinds := [], alts := [], laidByText := true, laidKinds := [.data, .pinned], laidTests := true, laidLooks := .later }
def SealRowsCardSaid : Prop := Claim7.holds Tryz.pinned (.plain (OpenSpec.ofChange sealRowsSpec)) sealRowsCard

/-- THE SECOND FORM's CARD OF 'winnowerlaw17.FilterSame'. -/
def filterSameUptoCard : Claim7 := { stood := { row := filterSameUptoRow, standIns := [], harness := (true, "f82ca37e070e25bcb7baf150c0b887875d994b6bfac85511b91cbd3408421d2b"), looks := false }, kinds := [], alts := [], laidByText := true, laidKinds := [.data, .data, .pinned], laidTests := true, laidLooks := .later }
def FilterSameUptoCardSaid : Prop := Claim7.holds Tryz.pinned (.plain (OpenSpec.upto filterSameSpec)) filterSameUptoCard

/-- THE SECOND FORM's CARD OF 'winnowerlaw12.SealTells'. -/
def sealTellsUptoCard : Claim7 := { stood := { row := sealTellsUptoRow, standIns := [], harness := (true, "f82ca37e070e25bcb7baf150c0b887875d994b6bfac85511b91cbd3408421d2b"), looks := false }, kinds := [], alts := [], laidByText := true, laidKinds := [.data, .pinned], laidTests := true, laidLooks := .later }
def SealTellsUptoCardSaid : Prop := Claim7.holds Tryz.pinned (.plain (OpenSpec.upto sealTellsSpec)) sealTellsUptoCard

/-- THE SECOND FORM's CARD OF 'winnowerlaw12.SealRows'. -/
def sealRowsUptoCard : Claim7 := { stood := { row := sealRowsUptoRow, standIns := [], harness := (true, "f82ca37e070e25bcb7baf150c0b887875d994b6bfac85511b91cbd3408421d2b"), looks := false }, kinds := [], alts := [], laidByText := true, laidKinds := [.data, .pinned], laidTests := true, laidLooks := .later }
def SealRowsUptoCardSaid : Prop := Claim7.holds Tryz.pinned (.plain (OpenSpec.upto sealRowsSpec)) sealRowsUptoCard
end Rows
end Go.Proofs.YtojhkbbnkhfnhaaGreatDoor
