/-
  DERIVED. GIVEN WITH THE SEED: THE CARDS: each row of YtmbgfbomgbdjeaaGreatDoorRows.lean that lists a variable, with what it lists TIED to the program's text (the seventh form; the later family's looks); each row that meets fmt, with fmt's text TOLD by the authors' own Lean function (tested against real Go, not proved from fmt's source: count such statements apart). THE CARD IS WHAT COUNTS. Prove the row's statement (the work); the ties are given (YtmbgfbomgbdjeaaGreatDoorTie.lean); close each card by the builder's one call (the guide's Derived/Test/ToyasCard.lean, 'card_holds'). Laid BY PROGRAM, IN A SANDBOX (cutbox-door.mjs). By AI agents, Wed Nov 11 2026. No macro, syntax, notation, axiom, sorry.
-/
import Derived.Test.YtmbgfbomgbdjeaaGreatDoorRows
import GoSem.ClaimSeven
namespace Go.Proofs.YtmbgfbomgbdjeaaGreatDoor
namespace Rows

/-- THE TIED CARD OF 'winnowerlaw12.SealBuilds'. -/
def sealBuildsCard : Claim7 := { stood := { row := sealBuildsRow, standIns := [], harness := (true, "78e678fb8522d5b59ddeb9a9cad3979578020dfe9dfa189a6c8248dcbb434759"), looks := false }, kinds := [], alts := [], laidByText := true, laidKinds := [.data, .pinned], laidTests := true, laidLooks := .later }
def SealBuildsCardSaid : Prop := Claim7.holds Tryz.pinned (.plain (OpenSpec.ofChange sealBuildsSpec)) sealBuildsCard

/-- THE TIED CARD OF 'winnowerlaw12.SealTells'. -/
def sealTellsCard : Claim7 := { stood := { row := sealTellsRow, standIns := [], harness := (true, "78e678fb8522d5b59ddeb9a9cad3979578020dfe9dfa189a6c8248dcbb434759"), looks := false }, kinds := [], alts := [], laidByText := true, laidKinds := [.data, .pinned], laidTests := true, laidLooks := .later }
def SealTellsCardSaid : Prop := Claim7.holds Tryz.pinned (.plain (OpenSpec.ofChange sealTellsSpec)) sealTellsCard

/-- THE TIED CARD OF 'winnowerlaw12.SealBack'. -/
def sealBackCard : Claim7 := { stood := { row := sealBackRow, standIns := [], harness := (true, "78e678fb8522d5b59ddeb9a9cad3979578020dfe9dfa189a6c8248dcbb434759"), looks := false }, kinds := [], alts := [], laidByText := true, laidKinds := [.data, .pinned], laidTests := true, laidLooks := .later }
def SealBackCardSaid : Prop := Claim7.holds Tryz.pinned (.plain (OpenSpec.ofChange sealBackSpec)) sealBackCard

/-- THE TIED CARD OF 'winnowerlaw12.SealSorts'. -/
def sealSortsCard : Claim7 := { stood := { row := sealSortsRow, standIns := [], harness := (true, "78e678fb8522d5b59ddeb9a9cad3979578020dfe9dfa189a6c8248dcbb434759"), looks := false }, kinds := [], alts := [], laidByText := true, laidKinds := [.data, .pinned], laidTests := true, laidLooks := .later }
def SealSortsCardSaid : Prop := Claim7.holds Tryz.pinned (.plain (OpenSpec.ofChange sealSortsSpec)) sealSortsCard

/-- THE TIED CARD OF 'winnowerlaw12.SealOnce'. -/
def sealOnceCard : Claim7 := { stood := { row := sealOnceRow, standIns := [], harness := (true, "78e678fb8522d5b59ddeb9a9cad3979578020dfe9dfa189a6c8248dcbb434759"), looks := false }, kinds := [], alts := [], laidByText := true, laidKinds := [.data, .pinned], laidTests := true, laidLooks := .later }
def SealOnceCardSaid : Prop := Claim7.holds Tryz.pinned (.plain (OpenSpec.ofChange sealOnceSpec)) sealOnceCard

/-- THE TIED CARD OF 'winnowerlaw12.SealRows'. -/
def sealRowsCard : Claim7 := { stood := { row := sealRowsRow, standIns := [], harness := (true, "78e678fb8522d5b59ddeb9a9cad3979578020dfe9dfa189a6c8248dcbb434759"), looks := false }, kinds := [], alts := [], laidByText := true, laidKinds := [.data, .pinned], laidTests := true, laidLooks := .later }
def SealRowsCardSaid : Prop := Claim7.holds Tryz.pinned (.plain (OpenSpec.ofChange sealRowsSpec)) sealRowsCard

/-- THE SECOND FORM's CARD OF 'winnowerlaw12.SealBuilds'. -/
def sealBuildsUptoCard : Claim7 := { stood := { row := sealBuildsUptoRow, standIns := [], harness := (true, "78e678fb8522d5b59ddeb9a9cad3979578020dfe9dfa189a6c8248dcbb434759"), looks := false }, kinds := [], alts := [], laidByText := true, laidKinds := [.data, .pinned], laidTests := true, laidLooks := .later }
def SealBuildsUptoCardSaid : Prop := Claim7.holds Tryz.pinned (.plain (OpenSpec.upto sealBuildsSpec)) sealBuildsUptoCard

/-- THE SECOND FORM's CARD OF 'winnowerlaw12.SealTells'. -/
def sealTellsUptoCard : Claim7 := { stood := { row := sealTellsUptoRow, standIns := [], harness := (true, "78e678fb8522d5b59ddeb9a9cad3979578020dfe9dfa189a6c8248dcbb434759"), looks := false }, kinds := [], alts := [], laidByText := true, laidKinds := [.data, .pinned], laidTests := true, laidLooks := .later }
def SealTellsUptoCardSaid : Prop := Claim7.holds Tryz.pinned (.plain (OpenSpec.upto sealTellsSpec)) sealTellsUptoCard

/-- THE SECOND FORM's CARD OF 'winnowerlaw12.SealBack'. -/
def sealBackUptoCard : Claim7 := { stood := { row := sealBackUptoRow, standIns := [], harness := (true, "78e678fb8522d5b59ddeb9a9cad3979578020dfe9dfa189a6c8248dcbb434759"), looks := false }, kinds := [], alts := [], laidByText := true, laidKinds := [.data, .pinned], laidTests := true, laidLooks := .later }
def SealBackUptoCardSaid : Prop := Claim7.holds Tryz.pinned (.plain (OpenSpec.upto sealBackSpec)) sealBackUptoCard

/-- THE SECOND FORM's CARD OF 'winnowerlaw12.SealSorts'. -/
def sealSortsUptoCard : Claim7 := { stood := { row := sealSortsUptoRow, standIns := [], harness := (true, "78e678fb8522d5b59ddeb9a9cad3979578020dfe9dfa189a6c8248dcbb434759"), looks := false }, kinds := [], alts := [], laidByText := true, laidKinds := [.data, .pinned], laidTests := true, laidLooks := .later }
def SealSortsUptoCardSaid : Prop := Claim7.holds Tryz.pinned (.plain (OpenSpec.upto sealSortsSpec)) sealSortsUptoCard

/-- THE SECOND FORM's CARD OF 'winnowerlaw12.SealOnce'. -/
def sealOnceUptoCard : Claim7 := { stood := { row := sealOnceUptoRow, standIns := [], harness := (true, "78e678fb8522d5b59ddeb9a9cad3979578020dfe9dfa189a6c8248dcbb434759"), looks := false }, kinds := [], alts := [], laidByText := true, laidKinds := [.data, .pinned], laidTests := true, laidLooks := .later }
def SealOnceUptoCardSaid : Prop := Claim7.holds Tryz.pinned (.plain (OpenSpec.upto sealOnceSpec)) sealOnceUptoCard

/-- THE SECOND FORM's CARD OF 'winnowerlaw12.SealRows'. -/
def sealRowsUptoCard : Claim7 := { stood := { row := sealRowsUptoRow, standIns := [], harness := (true, "78e678fb8522d5b59ddeb9a9cad3979578020dfe9dfa189a6c8248dcbb434759"), looks := false }, kinds := [], alts := [], laidByText := true, laidKinds := [.data, .pinned], laidTests := true, laidLooks := .later }
def SealRowsUptoCardSaid : Prop := Claim7.holds Tryz.pinned (.plain (OpenSpec.upto sealRowsSpec)) sealRowsUptoCard
end Rows
end Go.Proofs.YtmbgfbomgbdjeaaGreatDoor
