/-
  NARROWER THAN 'FOR EVERY INPUT', by the rows' own cells (each row's printed sentence says how): SealBuilds: laid · SealTells: laid · SealBack: laid · SealSorts: laid · SealOnce: laid · SealRows: laid.
  DERIVED. THE GIVEN ROWS OF THIS SEAT. 6 by the template 'for every input the law returns true; each argument reads behind the call as it read before'; 0 by the template 'total and deterministic' (their statements: YtmbgfbomgbdjeaaGreatDoorTotals.lean).
  GIVEN WITH THE SEED: the statements are not yours to turn. If you find one false, say at which input.
  Laid BY PROGRAM, IN A SANDBOX (cutbox-rows.mjs): the forced cells as the released guide's own fill.sh prints them over the translation f7600667054b50c7… (all of the seat's roots in one cut). By AI agents, Wed Nov 11 2026. No macro, syntax, notation, axiom, sorry.
-/
import Derived.Test.YtmbgfbomgbdjeaaGreatDoorChecked
import GoSem.PinnedTables
import GoSem.Claim
import GoSem.ClaimJoined
import GoSem.ClaimMapViews
import Derived.JoinedTies
import Derived.KernelRfl
namespace Go.Proofs.YtmbgfbomgbdjeaaGreatDoor
/- THE CELL 'sum', in the pinned program and in every row, IS THE sha256 OF THE DUMP (.gsa) THAT YtmbgfbomgbdjeaaGreatDoorProg.lean LOADS. Nothing in Lean hashes anything: it is a label: what it is worth is what the hold of that sum in a sandbox is worth. -/
noncomputable def Tryz.pinned : Pinned := { name := "ytmbgfbomgbdjeaagreatdoor", sum := "f7600667054b50c77924f2aa3f9c043f33206ee0935ed80f78ef13dfd69d9faa", checked := Tryz.checked }
namespace Rows
def none {H : Type} : Left H := { results := [], args := [] }

/- WHAT THE LISTED PACKAGE-LEVEL VARIABLES READ AS WHEN THE CALL BEGINS. Each datum BY PROGRAM (the guide's laid-datum.mjs) off the statement by which the dump's own 'gosem.cut.vars' lays the variable. In a bare row this is a premise. The card (YtmbgfbomgbdjeaaGreatDoorCards.lean) ties it to the program's text. -/
def laid_unicode_utf8_acceptRanges {H : Type} : DataW H := .agg [.agg [.lit (.int .u8 128), .lit (.int .u8 191)], .agg [.lit (.int .u8 160), .lit (.int .u8 191)], .agg [.lit (.int .u8 128), .lit (.int .u8 159)], .agg [.lit (.int .u8 144), .lit (.int .u8 191)], .agg [.lit (.int .u8 128), .lit (.int .u8 143)], .agg [.lit (.int .u8 0), .lit (.int .u8 0)], .agg [.lit (.int .u8 0), .lit (.int .u8 0)], .agg [.lit (.int .u8 0), .lit (.int .u8 0)], .agg [.lit (.int .u8 0), .lit (.int .u8 0)], .agg [.lit (.int .u8 0), .lit (.int .u8 0)], .agg [.lit (.int .u8 0), .lit (.int .u8 0)], .agg [.lit (.int .u8 0), .lit (.int .u8 0)], .agg [.lit (.int .u8 0), .lit (.int .u8 0)], .agg [.lit (.int .u8 0), .lit (.int .u8 0)], .agg [.lit (.int .u8 0), .lit (.int .u8 0)], .agg [.lit (.int .u8 0), .lit (.int .u8 0)]]
/-- One of Go's own tables, pinned by name: the form's constant. -/
def laid_unicode_utf8_first : DataW Unit := Go.Pinned.utf8First

/-- 'winnowerlaw12.SealBuilds': WHATEVER THE INPUT: true; the input reads as it did. -/
def sealBuildsSpec : ChangeSpec := { name := "sealBuilds", fn := fun _ => fun
  | [d1, d2, d3, d4] => { results := [.lit (.bool true)], args := [d1, d2, d3, d4] }
  | _ => none }
def sealBuildsRow : OpenClaim := { program := "ytmbgfbomgbdjeaagreatdoor", sum := "f7600667054b50c77924f2aa3f9c043f33206ee0935ed80f78ef13dfd69d9faa", func := "winnower/winnowerlaw12.SealBuilds", spec := "sealBuilds", inPlace := ["internal/bytealg.IndexByteString", "internal/bytealg.IndexString"], unfollowed := true, recurses := true, named := ["unicode/utf8.first", "unicode/utf8.acceptRanges", "internal/bytealg.MaxLen"], plainKeys := false, apart := false, laid := [("unicode/utf8.acceptRanges", laid_unicode_utf8_acceptRanges), ("unicode/utf8.first", laid_unicode_utf8_first)] }
def SealBuildsSaid : Prop := sealBuildsRow.holds Tryz.pinned (OpenSpec.ofChange sealBuildsSpec)

/-- ITS FALSE NEIGHBOUR: 'it returns false'. Refute it at one input. -/
def sealBuildsWrong : ChangeSpec := { name := "sealBuilds", fn := fun _ => fun
  | [d1, d2, d3, d4] => { results := [.lit (.bool false)], args := [d1, d2, d3, d4] }
  | _ => none }
def SealBuildsWrongFalsely : Prop := sealBuildsRow.holds Tryz.pinned (OpenSpec.ofChange sealBuildsWrong)

/-- 'winnowerlaw12.SealTells': WHATEVER THE INPUT: true; the input reads as it did. -/
def sealTellsSpec : ChangeSpec := { name := "sealTells", fn := fun _ => fun
  | [d1, d2, d3] => { results := [.lit (.bool true)], args := [d1, d2, d3] }
  | _ => none }
def sealTellsRow : OpenClaim := { program := "ytmbgfbomgbdjeaagreatdoor", sum := "f7600667054b50c77924f2aa3f9c043f33206ee0935ed80f78ef13dfd69d9faa", func := "winnower/winnowerlaw12.SealTells", spec := "sealTells", inPlace := ["internal/bytealg.IndexByteString", "internal/bytealg.IndexString"], unfollowed := true, recurses := true, named := ["unicode/utf8.first", "unicode/utf8.acceptRanges", "internal/bytealg.MaxLen"], plainKeys := false, apart := false, laid := [("unicode/utf8.acceptRanges", laid_unicode_utf8_acceptRanges), ("unicode/utf8.first", laid_unicode_utf8_first)] }
def SealTellsSaid : Prop := sealTellsRow.holds Tryz.pinned (OpenSpec.ofChange sealTellsSpec)

/-- ITS FALSE NEIGHBOUR: 'it returns false'. Refute it at one input. -/
def sealTellsWrong : ChangeSpec := { name := "sealTells", fn := fun _ => fun
  | [d1, d2, d3] => { results := [.lit (.bool false)], args := [d1, d2, d3] }
  | _ => none }
def SealTellsWrongFalsely : Prop := sealTellsRow.holds Tryz.pinned (OpenSpec.ofChange sealTellsWrong)

/-- 'winnowerlaw12.SealBack': WHATEVER THE INPUT: true; the input reads as it did. -/
def sealBackSpec : ChangeSpec := { name := "sealBack", fn := fun _ => fun
  | [d1, d2, d3] => { results := [.lit (.bool true)], args := [d1, d2, d3] }
  | _ => none }
def sealBackRow : OpenClaim := { program := "ytmbgfbomgbdjeaagreatdoor", sum := "f7600667054b50c77924f2aa3f9c043f33206ee0935ed80f78ef13dfd69d9faa", func := "winnower/winnowerlaw12.SealBack", spec := "sealBack", inPlace := ["internal/bytealg.IndexByteString", "internal/bytealg.IndexString"], unfollowed := true, recurses := true, named := ["unicode/utf8.first", "unicode/utf8.acceptRanges", "internal/bytealg.MaxLen"], plainKeys := false, apart := false, laid := [("unicode/utf8.acceptRanges", laid_unicode_utf8_acceptRanges), ("unicode/utf8.first", laid_unicode_utf8_first)] }
def SealBackSaid : Prop := sealBackRow.holds Tryz.pinned (OpenSpec.ofChange sealBackSpec)

/-- ITS FALSE NEIGHBOUR: 'it returns false'. Refute it at one input. -/
def sealBackWrong : ChangeSpec := { name := "sealBack", fn := fun _ => fun
  | [d1, d2, d3] => { results := [.lit (.bool false)], args := [d1, d2, d3] }
  | _ => none }
def SealBackWrongFalsely : Prop := sealBackRow.holds Tryz.pinned (OpenSpec.ofChange sealBackWrong)

/-- 'winnowerlaw12.SealSorts': WHATEVER THE INPUT: true; the input reads as it did. -/
def sealSortsSpec : ChangeSpec := { name := "sealSorts", fn := fun _ => fun
  | [d1, d2] => { results := [.lit (.bool true)], args := [d1, d2] }
  | _ => none }
def sealSortsRow : OpenClaim := { program := "ytmbgfbomgbdjeaagreatdoor", sum := "f7600667054b50c77924f2aa3f9c043f33206ee0935ed80f78ef13dfd69d9faa", func := "winnower/winnowerlaw12.SealSorts", spec := "sealSorts", inPlace := ["internal/bytealg.IndexByteString", "internal/bytealg.IndexString"], unfollowed := true, recurses := true, named := ["unicode/utf8.first", "unicode/utf8.acceptRanges", "internal/bytealg.MaxLen"], plainKeys := false, apart := false, laid := [("unicode/utf8.acceptRanges", laid_unicode_utf8_acceptRanges), ("unicode/utf8.first", laid_unicode_utf8_first)] }
def SealSortsSaid : Prop := sealSortsRow.holds Tryz.pinned (OpenSpec.ofChange sealSortsSpec)

/-- ITS FALSE NEIGHBOUR: 'it returns false'. Refute it at one input. -/
def sealSortsWrong : ChangeSpec := { name := "sealSorts", fn := fun _ => fun
  | [d1, d2] => { results := [.lit (.bool false)], args := [d1, d2] }
  | _ => none }
def SealSortsWrongFalsely : Prop := sealSortsRow.holds Tryz.pinned (OpenSpec.ofChange sealSortsWrong)

/-- 'winnowerlaw12.SealOnce': WHATEVER THE INPUT: true; the input reads as it did. -/
def sealOnceSpec : ChangeSpec := { name := "sealOnce", fn := fun _ => fun
  | [d1, d2, d3] => { results := [.lit (.bool true)], args := [d1, d2, d3] }
  | _ => none }
def sealOnceRow : OpenClaim := { program := "ytmbgfbomgbdjeaagreatdoor", sum := "f7600667054b50c77924f2aa3f9c043f33206ee0935ed80f78ef13dfd69d9faa", func := "winnower/winnowerlaw12.SealOnce", spec := "sealOnce", inPlace := ["internal/bytealg.IndexByteString", "internal/bytealg.IndexString"], unfollowed := true, recurses := true, named := ["unicode/utf8.first", "unicode/utf8.acceptRanges", "internal/bytealg.MaxLen"], plainKeys := false, apart := false, laid := [("unicode/utf8.acceptRanges", laid_unicode_utf8_acceptRanges), ("unicode/utf8.first", laid_unicode_utf8_first)] }
def SealOnceSaid : Prop := sealOnceRow.holds Tryz.pinned (OpenSpec.ofChange sealOnceSpec)

/-- ITS FALSE NEIGHBOUR: 'it returns false'. Refute it at one input. -/
def sealOnceWrong : ChangeSpec := { name := "sealOnce", fn := fun _ => fun
  | [d1, d2, d3] => { results := [.lit (.bool false)], args := [d1, d2, d3] }
  | _ => none }
def SealOnceWrongFalsely : Prop := sealOnceRow.holds Tryz.pinned (OpenSpec.ofChange sealOnceWrong)

/-- 'winnowerlaw12.SealRows': WHATEVER THE INPUT: true; the input reads as it did. -/
def sealRowsSpec : ChangeSpec := { name := "sealRows", fn := fun _ => fun
  | [d1, d2] => { results := [.lit (.bool true)], args := [d1, d2] }
  | _ => none }
def sealRowsRow : OpenClaim := { program := "ytmbgfbomgbdjeaagreatdoor", sum := "f7600667054b50c77924f2aa3f9c043f33206ee0935ed80f78ef13dfd69d9faa", func := "winnower/winnowerlaw12.SealRows", spec := "sealRows", inPlace := ["internal/bytealg.IndexByteString", "internal/bytealg.IndexString"], unfollowed := true, recurses := true, named := ["unicode/utf8.first", "unicode/utf8.acceptRanges", "internal/bytealg.MaxLen"], plainKeys := false, apart := false, laid := [("unicode/utf8.acceptRanges", laid_unicode_utf8_acceptRanges), ("unicode/utf8.first", laid_unicode_utf8_first)] }
def SealRowsSaid : Prop := sealRowsRow.holds Tryz.pinned (OpenSpec.ofChange sealRowsSpec)

/-- ITS FALSE NEIGHBOUR: 'it returns false'. Refute it at one input. -/
def sealRowsWrong : ChangeSpec := { name := "sealRows", fn := fun _ => fun
  | [d1, d2] => { results := [.lit (.bool false)], args := [d1, d2] }
  | _ => none }
def SealRowsWrongFalsely : Prop := sealRowsRow.holds Tryz.pinned (OpenSpec.ofChange sealRowsWrong)

/- THE SECOND FORM. 'bulk': how many values and letters a reading holds, each counted each time it is reached (what is shared counts as often as it is met; a slice's spare places count too). A statement '..UptoSaid' is the law's where the arguments, and the package variables that the reading takes, are together of bulk at most 1048576: NARROWER than '..Said'. Prove '..Said' where nothing that the law and all that it calls make is longer than what came in: it says more and counts as full. Else prove '..UptoSaid'. A law counts once. -/
mutual
def uptoBulk {H : Type} : DataW H → Nat
  | .lit (.string bytes) => bytes.length + 1
  | .lit _ => 1
  | .nil => 1
  | .ptr d => uptoBulk d + 1
  | .slice elems spare => uptoBulkAll elems + uptoBulkAll spare + 1
  | .agg parts => uptoBulkAll parts + 1
  | .iface _ d => uptoBulk d + 1
  | .map entries => uptoBulkEntries entries + 1
  | .held _ => 1
def uptoBulkAll {H : Type} : List (DataW H) → Nat
  | [] => 0
  | d :: r => uptoBulk d + uptoBulkAll r
def uptoBulkEntries {H : Type} : List (Lit × DataW H) → Nat
  | [] => 0
  | x :: r => uptoBulkEntry x + uptoBulkEntries r
def uptoBulkEntry {H : Type} : Lit × DataW H → Nat
  | (.string bytes, d) => bytes.length + uptoBulk d + 1
  | (_, d) => uptoBulk d + 1
 end
def uptoSmall : (H : Type) → List (DataW H) → Bool := fun _ ds => decide (uptoBulkAll ds ≤ 1048576)
def OpenSpec.upto (s : _root_.Go.ChangeSpec) : _root_.Go.OpenSpec := { _root_.Go.OpenSpec.ofChange s with cond := some uptoSmall }

/-- 'winnowerlaw12.SealBuilds', WHERE WHAT IT READS IS OF BULK AT MOST 1048576: true; the input reads as it did. -/
def sealBuildsUptoRow : OpenClaim := { program := "ytmbgfbomgbdjeaagreatdoor", sum := "f7600667054b50c77924f2aa3f9c043f33206ee0935ed80f78ef13dfd69d9faa", func := "winnower/winnowerlaw12.SealBuilds", spec := "sealBuilds", inPlace := ["internal/bytealg.IndexByteString", "internal/bytealg.IndexString"], unfollowed := true, recurses := true, named := ["unicode/utf8.first", "unicode/utf8.acceptRanges", "internal/bytealg.MaxLen"], plainKeys := false, apart := false, laid := [("unicode/utf8.acceptRanges", laid_unicode_utf8_acceptRanges), ("unicode/utf8.first", laid_unicode_utf8_first)], narrowed := true }
def SealBuildsUptoSaid : Prop := sealBuildsUptoRow.holds Tryz.pinned (OpenSpec.upto sealBuildsSpec)

/-- 'winnowerlaw12.SealTells', WHERE WHAT IT READS IS OF BULK AT MOST 1048576: true; the input reads as it did. -/
def sealTellsUptoRow : OpenClaim := { program := "ytmbgfbomgbdjeaagreatdoor", sum := "f7600667054b50c77924f2aa3f9c043f33206ee0935ed80f78ef13dfd69d9faa", func := "winnower/winnowerlaw12.SealTells", spec := "sealTells", inPlace := ["internal/bytealg.IndexByteString", "internal/bytealg.IndexString"], unfollowed := true, recurses := true, named := ["unicode/utf8.first", "unicode/utf8.acceptRanges", "internal/bytealg.MaxLen"], plainKeys := false, apart := false, laid := [("unicode/utf8.acceptRanges", laid_unicode_utf8_acceptRanges), ("unicode/utf8.first", laid_unicode_utf8_first)], narrowed := true }
def SealTellsUptoSaid : Prop := sealTellsUptoRow.holds Tryz.pinned (OpenSpec.upto sealTellsSpec)

/-- 'winnowerlaw12.SealBack', WHERE WHAT IT READS IS OF BULK AT MOST 1048576: true; the input reads as it did. -/
def sealBackUptoRow : OpenClaim := { program := "ytmbgfbomgbdjeaagreatdoor", sum := "f7600667054b50c77924f2aa3f9c043f33206ee0935ed80f78ef13dfd69d9faa", func := "winnower/winnowerlaw12.SealBack", spec := "sealBack", inPlace := ["internal/bytealg.IndexByteString", "internal/bytealg.IndexString"], unfollowed := true, recurses := true, named := ["unicode/utf8.first", "unicode/utf8.acceptRanges", "internal/bytealg.MaxLen"], plainKeys := false, apart := false, laid := [("unicode/utf8.acceptRanges", laid_unicode_utf8_acceptRanges), ("unicode/utf8.first", laid_unicode_utf8_first)], narrowed := true }
def SealBackUptoSaid : Prop := sealBackUptoRow.holds Tryz.pinned (OpenSpec.upto sealBackSpec)

/-- 'winnowerlaw12.SealSorts', WHERE WHAT IT READS IS OF BULK AT MOST 1048576: true; the input reads as it did. -/
def sealSortsUptoRow : OpenClaim := { program := "ytmbgfbomgbdjeaagreatdoor", sum := "f7600667054b50c77924f2aa3f9c043f33206ee0935ed80f78ef13dfd69d9faa", func := "winnower/winnowerlaw12.SealSorts", spec := "sealSorts", inPlace := ["internal/bytealg.IndexByteString", "internal/bytealg.IndexString"], unfollowed := true, recurses := true, named := ["unicode/utf8.first", "unicode/utf8.acceptRanges", "internal/bytealg.MaxLen"], plainKeys := false, apart := false, laid := [("unicode/utf8.acceptRanges", laid_unicode_utf8_acceptRanges), ("unicode/utf8.first", laid_unicode_utf8_first)], narrowed := true }
def SealSortsUptoSaid : Prop := sealSortsUptoRow.holds Tryz.pinned (OpenSpec.upto sealSortsSpec)

/-- 'winnowerlaw12.SealOnce', WHERE WHAT IT READS IS OF BULK AT MOST 1048576: true; the input reads as it did. -/
def sealOnceUptoRow : OpenClaim := { program := "ytmbgfbomgbdjeaagreatdoor", sum := "f7600667054b50c77924f2aa3f9c043f33206ee0935ed80f78ef13dfd69d9faa", func := "winnower/winnowerlaw12.SealOnce", spec := "sealOnce", inPlace := ["internal/bytealg.IndexByteString", "internal/bytealg.IndexString"], unfollowed := true, recurses := true, named := ["unicode/utf8.first", "unicode/utf8.acceptRanges", "internal/bytealg.MaxLen"], plainKeys := false, apart := false, laid := [("unicode/utf8.acceptRanges", laid_unicode_utf8_acceptRanges), ("unicode/utf8.first", laid_unicode_utf8_first)], narrowed := true }
def SealOnceUptoSaid : Prop := sealOnceUptoRow.holds Tryz.pinned (OpenSpec.upto sealOnceSpec)

/-- 'winnowerlaw12.SealRows', WHERE WHAT IT READS IS OF BULK AT MOST 1048576: true; the input reads as it did. -/
def sealRowsUptoRow : OpenClaim := { program := "ytmbgfbomgbdjeaagreatdoor", sum := "f7600667054b50c77924f2aa3f9c043f33206ee0935ed80f78ef13dfd69d9faa", func := "winnower/winnowerlaw12.SealRows", spec := "sealRows", inPlace := ["internal/bytealg.IndexByteString", "internal/bytealg.IndexString"], unfollowed := true, recurses := true, named := ["unicode/utf8.first", "unicode/utf8.acceptRanges", "internal/bytealg.MaxLen"], plainKeys := false, apart := false, laid := [("unicode/utf8.acceptRanges", laid_unicode_utf8_acceptRanges), ("unicode/utf8.first", laid_unicode_utf8_first)], narrowed := true }
def SealRowsUptoSaid : Prop := sealRowsUptoRow.holds Tryz.pinned (OpenSpec.upto sealRowsSpec)

end Rows
end Go.Proofs.YtmbgfbomgbdjeaaGreatDoor
