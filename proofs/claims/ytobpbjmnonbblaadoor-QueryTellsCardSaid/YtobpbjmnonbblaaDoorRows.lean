/-
  NARROWER THAN 'FOR EVERY INPUT', by the rows' own cells (each row's printed sentence says how): QueryMore: laid · QueryLess: laid · QueryTells: laid · QueryNames: laid.
  DERIVED. THE GIVEN ROWS OF THIS SEAT. 4 by the template 'for every input the law returns true; each argument reads behind the call as it read before'; 0 by the template 'total and deterministic' (their statements: YtobpbjmnonbblaaDoorTotals.lean).
  GIVEN WITH THE SEED: the statements are not yours to turn. If you find one false, say at which input.
  Laid BY PROGRAM, IN A SANDBOX (cutbox-rows.mjs): the forced cells as the released guide's own fill.sh prints them over the translation e5baf5eafff2da16… (all of the seat's roots in one cut). By AI agents, Wed Nov 11 2026. No macro, syntax, notation, axiom, sorry.
-/
import Derived.Test.YtobpbjmnonbblaaDoorChecked
import GoSem.PinnedTables
import GoSem.Claim
import GoSem.ClaimJoined
import GoSem.ClaimMapViews
import Derived.JoinedTies
import Derived.KernelRfl
namespace Go.Proofs.YtobpbjmnonbblaaDoor
/- THE CELL 'sum', in the pinned program and in every row, IS THE sha256 OF THE DUMP (.gsa) THAT YtobpbjmnonbblaaDoorProg.lean LOADS. Nothing in Lean hashes anything: it is a label: what it is worth is what the hold of that sum in a sandbox is worth. -/
noncomputable def Tryd.pinned : Pinned := { name := "ytobpbjmnonbblaadoor", sum := "e5baf5eafff2da166dc2180077165befd7091aec4f548b2dec9790445cc39d55", checked := Tryd.checked }
namespace Rows
def none {H : Type} : Left H := { results := [], args := [] }

/- WHAT THE LISTED PACKAGE-LEVEL VARIABLES READ AS WHEN THE CALL BEGINS. Each datum BY PROGRAM (the guide's laid-datum.mjs) off the statement by which the dump's own 'gosem.cut.vars' lays the variable. In a bare row this is a premise. The card (YtobpbjmnonbblaaDoorCards.lean) ties it to the program's text. -/
def laid_unicode_utf8_acceptRanges {H : Type} : DataW H := .agg [.agg [.lit (.int .u8 128), .lit (.int .u8 191)], .agg [.lit (.int .u8 160), .lit (.int .u8 191)], .agg [.lit (.int .u8 128), .lit (.int .u8 159)], .agg [.lit (.int .u8 144), .lit (.int .u8 191)], .agg [.lit (.int .u8 128), .lit (.int .u8 143)], .agg [.lit (.int .u8 0), .lit (.int .u8 0)], .agg [.lit (.int .u8 0), .lit (.int .u8 0)], .agg [.lit (.int .u8 0), .lit (.int .u8 0)], .agg [.lit (.int .u8 0), .lit (.int .u8 0)], .agg [.lit (.int .u8 0), .lit (.int .u8 0)], .agg [.lit (.int .u8 0), .lit (.int .u8 0)], .agg [.lit (.int .u8 0), .lit (.int .u8 0)], .agg [.lit (.int .u8 0), .lit (.int .u8 0)], .agg [.lit (.int .u8 0), .lit (.int .u8 0)], .agg [.lit (.int .u8 0), .lit (.int .u8 0)], .agg [.lit (.int .u8 0), .lit (.int .u8 0)]]
/-- One of Go's own tables, pinned by name: the form's constant. -/
def laid_unicode_utf8_first : DataW Unit := Go.Pinned.utf8First

/-- 'winnowerlaw16.QueryMore': WHATEVER THE INPUT: true; the input reads as it did. -/
def queryMoreSpec : ChangeSpec := { name := "queryMore", fn := fun _ => fun
  | [d1, d2, d3, d4] => { results := [.lit (.bool true)], args := [d1, d2, d3, d4] }
  | _ => none }
def queryMoreRow : OpenClaim := { program := "ytobpbjmnonbblaadoor", sum := "e5baf5eafff2da166dc2180077165befd7091aec4f548b2dec9790445cc39d55", func := "winnower/winnowerlaw16.QueryMore", spec := "queryMore", inPlace := ["internal/bytealg.IndexByteString", "internal/bytealg.IndexString"], unfollowed := true, recurses := true, named := ["unicode/utf8.first", "unicode/utf8.acceptRanges", "internal/bytealg.MaxLen"], apart := false, laid := [("unicode/utf8.acceptRanges", laid_unicode_utf8_acceptRanges), ("unicode/utf8.first", laid_unicode_utf8_first)] }
def QueryMoreSaid : Prop := queryMoreRow.holds Tryd.pinned (OpenSpec.ofChange queryMoreSpec)

/-- ITS FALSE NEIGHBOUR: 'it returns false'. Refute it at one input. -/
def queryMoreWrong : ChangeSpec := { name := "queryMore", fn := fun _ => fun
  | [d1, d2, d3, d4] => { results := [.lit (.bool false)], args := [d1, d2, d3, d4] }
  | _ => none }
def QueryMoreWrongFalsely : Prop := queryMoreRow.holds Tryd.pinned (OpenSpec.ofChange queryMoreWrong)

/-- 'winnowerlaw16.QueryLess': WHATEVER THE INPUT: true; the input reads as it did. -/
def queryLessSpec : ChangeSpec := { name := "queryLess", fn := fun _ => fun
  | [d1, d2, d3] => { results := [.lit (.bool true)], args := [d1, d2, d3] }
  | _ => none }
def queryLessRow : OpenClaim := { program := "ytobpbjmnonbblaadoor", sum := "e5baf5eafff2da166dc2180077165befd7091aec4f548b2dec9790445cc39d55", func := "winnower/winnowerlaw16.QueryLess", spec := "queryLess", inPlace := ["internal/bytealg.IndexByteString", "internal/bytealg.IndexString"], unfollowed := true, recurses := true, named := ["unicode/utf8.first", "unicode/utf8.acceptRanges", "internal/bytealg.MaxLen"], apart := false, laid := [("unicode/utf8.acceptRanges", laid_unicode_utf8_acceptRanges), ("unicode/utf8.first", laid_unicode_utf8_first)] }
def QueryLessSaid : Prop := queryLessRow.holds Tryd.pinned (OpenSpec.ofChange queryLessSpec)

/-- ITS FALSE NEIGHBOUR: 'it returns false'. Refute it at one input. -/
def queryLessWrong : ChangeSpec := { name := "queryLess", fn := fun _ => fun
  | [d1, d2, d3] => { results := [.lit (.bool false)], args := [d1, d2, d3] }
  | _ => none }
def QueryLessWrongFalsely : Prop := queryLessRow.holds Tryd.pinned (OpenSpec.ofChange queryLessWrong)

/-- 'winnowerlaw16.QueryTells': WHATEVER THE INPUT: true; the input reads as it did. -/
def queryTellsSpec : ChangeSpec := { name := "queryTells", fn := fun _ => fun
  | [d1, d2] => { results := [.lit (.bool true)], args := [d1, d2] }
  | _ => none }
def queryTellsRow : OpenClaim := { program := "ytobpbjmnonbblaadoor", sum := "e5baf5eafff2da166dc2180077165befd7091aec4f548b2dec9790445cc39d55", func := "winnower/winnowerlaw16.QueryTells", spec := "queryTells", inPlace := ["internal/bytealg.IndexByteString", "internal/bytealg.IndexString"], unfollowed := true, recurses := true, named := ["unicode/utf8.first", "unicode/utf8.acceptRanges", "internal/bytealg.MaxLen"], apart := false, laid := [("unicode/utf8.acceptRanges", laid_unicode_utf8_acceptRanges), ("unicode/utf8.first", laid_unicode_utf8_first)] }
def QueryTellsSaid : Prop := queryTellsRow.holds Tryd.pinned (OpenSpec.ofChange queryTellsSpec)

/-- ITS FALSE NEIGHBOUR: 'it returns false'. Refute it at one input. -/
def queryTellsWrong : ChangeSpec := { name := "queryTells", fn := fun _ => fun
  | [d1, d2] => { results := [.lit (.bool false)], args := [d1, d2] }
  | _ => none }
def QueryTellsWrongFalsely : Prop := queryTellsRow.holds Tryd.pinned (OpenSpec.ofChange queryTellsWrong)

/-- 'winnowerlaw16.QueryNames': WHATEVER THE INPUT: true; the input reads as it did. -/
def queryNamesSpec : ChangeSpec := { name := "queryNames", fn := fun _ => fun
  | [d1, d2] => { results := [.lit (.bool true)], args := [d1, d2] }
  | _ => none }
def queryNamesRow : OpenClaim := { program := "ytobpbjmnonbblaadoor", sum := "e5baf5eafff2da166dc2180077165befd7091aec4f548b2dec9790445cc39d55", func := "winnower/winnowerlaw16.QueryNames", spec := "queryNames", inPlace := ["internal/bytealg.IndexByteString", "internal/bytealg.IndexString"], unfollowed := true, recurses := true, named := ["unicode/utf8.first", "unicode/utf8.acceptRanges", "internal/bytealg.MaxLen"], apart := false, laid := [("unicode/utf8.acceptRanges", laid_unicode_utf8_acceptRanges), ("unicode/utf8.first", laid_unicode_utf8_first)] }
def QueryNamesSaid : Prop := queryNamesRow.holds Tryd.pinned (OpenSpec.ofChange queryNamesSpec)

/-- ITS FALSE NEIGHBOUR: 'it returns false'. Refute it at one input. -/
def queryNamesWrong : ChangeSpec := { name := "queryNames", fn := fun _ => fun
  | [d1, d2] => { results := [.lit (.bool false)], args := [d1, d2] }
  | _ => none }
def QueryNamesWrongFalsely : Prop := queryNamesRow.holds Tryd.pinned (OpenSpec.ofChange queryNamesWrong)

/- THE SECOND FORM. 'bulk': how many values and letters a reading holds, each counted each time it is reached (what is shared counts as often as it is met; a slice's spare places count too). A statement '..UptoSaid' is the law's where the arguments, and the package variables that the reading takes, are together of bulk at most 1048576: NARROWER than '..Said'. Prove '..Said' where nothing that the law and all that it calls make is longer than what came in: it says more and counts as full. Else prove '..UptoSaid'. A law counts once. -/
mutual
def uptoBulk {H : Type} : DataW H → Nat
  | .lit (.string bytes) => bytes.length + 1
  | .lit _ => 1
  | .nil => 1
  | .ptr d => uptoBulk d + 1
  | .slice elems spare => uptoBulkAll elems + uptoBulkAll spare + 1
  | .agg parts => uptoBulkAll parts + 1
  | .iface _ d => uptoBulk d + 1
  | .map entries => uptoBulkEntries entries + 1
  | .held _ => 1
def uptoBulkAll {H : Type} : List (DataW H) → Nat
  | [] => 0
  | d :: r => uptoBulk d + uptoBulkAll r
def uptoBulkEntries {H : Type} : List (Lit × DataW H) → Nat
  | [] => 0
  | x :: r => uptoBulkEntry x + uptoBulkEntries r
def uptoBulkEntry {H : Type} : Lit × DataW H → Nat
  | (.string bytes, d) => bytes.length + uptoBulk d + 1
  | (_, d) => uptoBulk d + 1
 end
def uptoSmall : (H : Type) → List (DataW H) → Bool := fun _ ds => decide (uptoBulkAll ds ≤ 1048576)
def OpenSpec.upto (s : _root_.Go.ChangeSpec) : _root_.Go.OpenSpec := { _root_.Go.OpenSpec.ofChange s with cond := some uptoSmall }

/-- 'winnowerlaw16.QueryMore', WHERE WHAT IT READS IS OF BULK AT MOST 1048576: true; the input reads as it did. -/
def queryMoreUptoRow : OpenClaim := { program := "ytobpbjmnonbblaadoor", sum := "e5baf5eafff2da166dc2180077165befd7091aec4f548b2dec9790445cc39d55", func := "winnower/winnowerlaw16.QueryMore", spec := "queryMore", inPlace := ["internal/bytealg.IndexByteString", "internal/bytealg.IndexString"], unfollowed := true, recurses := true, named := ["unicode/utf8.first", "unicode/utf8.acceptRanges", "internal/bytealg.MaxLen"], apart := false, laid := [("unicode/utf8.acceptRanges", laid_unicode_utf8_acceptRanges), ("unicode/utf8.first", laid_unicode_utf8_first)], narrowed := true }
def QueryMoreUptoSaid : Prop := queryMoreUptoRow.holds Tryd.pinned (OpenSpec.upto queryMoreSpec)

/-- 'winnowerlaw16.QueryLess', WHERE WHAT IT READS IS OF BULK AT MOST 1048576: true; the input reads as it did. -/
def queryLessUptoRow : OpenClaim := { program := "ytobpbjmnonbblaadoor", sum := "e5baf5eafff2da166dc2180077165befd7091aec4f548b2dec9790445cc39d55", func := "winnower/winnowerlaw16.QueryLess", spec := "queryLess", inPlace := ["internal/bytealg.IndexByteString", "internal/bytealg.IndexString"], unfollowed := true, recurses := true, named := ["unicode/utf8.first", "unicode/utf8.acceptRanges", "internal/bytealg.MaxLen"], apart := false, laid := [("unicode/utf8.acceptRanges", laid_unicode_utf8_acceptRanges), ("unicode/utf8.first", laid_unicode_utf8_first)], narrowed := true }
def QueryLessUptoSaid : Prop := queryLessUptoRow.holds Tryd.pinned (OpenSpec.upto queryLessSpec)

/-- 'winnowerlaw16.QueryTells', WHERE WHAT IT READS IS OF BULK AT MOST 1048576: true; the input reads as it did. -/
def queryTellsUptoRow : OpenClaim := { program := "ytobpbjmnonbblaadoor", sum := "e5baf5eafff2da166dc2180077165befd7091aec4f548b2dec9790445cc39d55", func := "winnower/winnowerlaw16.QueryTells", spec := "queryTells", inPlace := ["internal/bytealg.IndexByteString", "internal/bytealg.IndexString"], unfollowed := true, recurses := true, named := ["unicode/utf8.first", "unicode/utf8.acceptRanges", "internal/bytealg.MaxLen"], apart := false, laid := [("unicode/utf8.acceptRanges", laid_unicode_utf8_acceptRanges), ("unicode/utf8.first", laid_unicode_utf8_first)], narrowed := true }
def QueryTellsUptoSaid : Prop := queryTellsUptoRow.holds Tryd.pinned (OpenSpec.upto queryTellsSpec)

/-- 'winnowerlaw16.QueryNames', WHERE WHAT IT READS IS OF BULK AT MOST 1048576: true; the input reads as it did. -/
def queryNamesUptoRow : OpenClaim := { program := "ytobpbjmnonbblaadoor", sum := "e5baf5eafff2da166dc2180077165befd7091aec4f548b2dec9790445cc39d55", func := "winnower/winnowerlaw16.QueryNames", spec := "queryNames", inPlace := ["internal/bytealg.IndexByteString", "internal/bytealg.IndexString"], unfollowed := true, recurses := true, named := ["unicode/utf8.first", "unicode/utf8.acceptRanges", "internal/bytealg.MaxLen"], apart := false, laid := [("unicode/utf8.acceptRanges", laid_unicode_utf8_acceptRanges), ("unicode/utf8.first", laid_unicode_utf8_first)], narrowed := true }
def QueryNamesUptoSaid : Prop := queryNamesUptoRow.holds Tryd.pinned (OpenSpec.upto queryNamesSpec)

end Rows
end Go.Proofs.YtobpbjmnonbblaaDoor
