/-
  NARROWER THAN 'FOR EVERY INPUT', by the rows' own cells (each row's printed sentence says how): BufPlays: laid · BufNew: laid · BufChanges: laid · BufLimit: laid · BufEmpty: laid.
  DERIVED. THE GIVEN ROWS OF THIS SEAT. 5 by the template 'for every input the law returns true; each argument reads behind the call as it read before'; 0 by the template 'total and deterministic' (their statements: YtnajkjgjeiodmaaGreatDoorTotals.lean).
  GIVEN WITH THE SEED: the statements are not yours to turn. If you find one false, say at which input.
  Laid BY PROGRAM, IN A SANDBOX (cutbox-rows.mjs): the forced cells as the released guide's own fill.sh prints them over the translation 2480734773a47b04… (all of the seat's roots in one cut). By AI agents, Wed Nov 11 2026. No macro, syntax, notation, axiom, sorry.
-/
import Derived.Test.YtnajkjgjeiodmaaGreatDoorChecked
import GoSem.PinnedTables
import GoSem.Claim
import GoSem.ClaimJoined
import GoSem.ClaimMapViews
import Derived.JoinedTies
import Derived.KernelRfl
namespace Go.Proofs.YtnajkjgjeiodmaaGreatDoor
/- THE CELL 'sum', in the pinned program and in every row, IS THE sha256 OF THE DUMP (.gsa) THAT YtnajkjgjeiodmaaGreatDoorProg.lean LOADS. Nothing in Lean hashes anything: it is a label: what it is worth is what the hold of that sum in a sandbox is worth. -/
noncomputable def Tryz.pinned : Pinned := { name := "ytnajkjgjeiodmaagreatdoor", sum := "2480734773a47b04f802107106a5330514233e6d8bfe2f502499c2585e650c39", checked := Tryz.checked }
namespace Rows
def none {H : Type} : Left H := { results := [], args := [] }

/- WHAT THE LISTED PACKAGE-LEVEL VARIABLES READ AS WHEN THE CALL BEGINS. Each datum BY PROGRAM (the guide's laid-datum.mjs) off the statement by which the dump's own 'gosem.cut.vars' lays the variable. In a bare row this is a premise. The card (YtnajkjgjeiodmaaGreatDoorCards.lean) ties it to the program's text. -/
def laid_unicode_utf8_acceptRanges {H : Type} : DataW H := .agg [.agg [.lit (.int .u8 128), .lit (.int .u8 191)], .agg [.lit (.int .u8 160), .lit (.int .u8 191)], .agg [.lit (.int .u8 128), .lit (.int .u8 159)], .agg [.lit (.int .u8 144), .lit (.int .u8 191)], .agg [.lit (.int .u8 128), .lit (.int .u8 143)], .agg [.lit (.int .u8 0), .lit (.int .u8 0)], .agg [.lit (.int .u8 0), .lit (.int .u8 0)], .agg [.lit (.int .u8 0), .lit (.int .u8 0)], .agg [.lit (.int .u8 0), .lit (.int .u8 0)], .agg [.lit (.int .u8 0), .lit (.int .u8 0)], .agg [.lit (.int .u8 0), .lit (.int .u8 0)], .agg [.lit (.int .u8 0), .lit (.int .u8 0)], .agg [.lit (.int .u8 0), .lit (.int .u8 0)], .agg [.lit (.int .u8 0), .lit (.int .u8 0)], .agg [.lit (.int .u8 0), .lit (.int .u8 0)], .agg [.lit (.int .u8 0), .lit (.int .u8 0)]]
/-- One of Go's own tables, pinned by name: the form's constant. -/
def laid_unicode_utf8_first : DataW Unit := Go.Pinned.utf8First

/-- 'foolscaplaw4.BufPlays': WHATEVER THE INPUT: true; the input reads as it did. -/
def bufPlaysSpec : ChangeSpec := { name := "bufPlays", fn := fun _ => fun
  | [d1, d2] => { results := [.lit (.bool true)], args := [d1, d2] }
  | _ => none }
def bufPlaysRow : OpenClaim := { program := "ytnajkjgjeiodmaagreatdoor", sum := "2480734773a47b04f802107106a5330514233e6d8bfe2f502499c2585e650c39", func := "foolscap/foolscaplaw4.BufPlays", spec := "bufPlays", inPlace := ["internal/bytealg.IndexByteString", "internal/bytealg.IndexString", "internal/abi.NoEscape", "internal/bytealg.MakeNoZero", "slices.overlaps[foolscap/piece.piece]", "slices.overlaps[int]", "internal/bytealg.CountString"], unfollowed := true, recurses := true, named := ["internal/bytealg.MaxLen", "unicode/utf8.first", "unicode/utf8.acceptRanges"], apart := false, laid := [("unicode/utf8.acceptRanges", laid_unicode_utf8_acceptRanges), ("unicode/utf8.first", laid_unicode_utf8_first)] }
def BufPlaysSaid : Prop := bufPlaysRow.holds Tryz.pinned (OpenSpec.ofChange bufPlaysSpec)

/-- ITS FALSE NEIGHBOUR: 'it returns false'. Refute it at one input. -/
def bufPlaysWrong : ChangeSpec := { name := "bufPlays", fn := fun _ => fun
  | [d1, d2] => { results := [.lit (.bool false)], args := [d1, d2] }
  | _ => none }
def BufPlaysWrongFalsely : Prop := bufPlaysRow.holds Tryz.pinned (OpenSpec.ofChange bufPlaysWrong)

/-- 'foolscaplaw4.BufNew': WHATEVER THE INPUT: true; the input reads as it did. -/
def bufNewSpec : ChangeSpec := { name := "bufNew", fn := fun _ => fun
  | [d1, d2, d3] => { results := [.lit (.bool true)], args := [d1, d2, d3] }
  | _ => none }
def bufNewRow : OpenClaim := { program := "ytnajkjgjeiodmaagreatdoor", sum := "2480734773a47b04f802107106a5330514233e6d8bfe2f502499c2585e650c39", func := "foolscap/foolscaplaw4.BufNew", spec := "bufNew", inPlace := ["internal/bytealg.IndexByteString", "internal/bytealg.IndexString", "internal/abi.NoEscape", "internal/bytealg.MakeNoZero", "slices.overlaps[foolscap/piece.piece]", "slices.overlaps[int]", "internal/bytealg.CountString"], unfollowed := true, recurses := true, named := ["internal/bytealg.MaxLen", "unicode/utf8.first", "unicode/utf8.acceptRanges"], apart := false, laid := [("unicode/utf8.acceptRanges", laid_unicode_utf8_acceptRanges), ("unicode/utf8.first", laid_unicode_utf8_first)] }
def BufNewSaid : Prop := bufNewRow.holds Tryz.pinned (OpenSpec.ofChange bufNewSpec)

/-- ITS FALSE NEIGHBOUR: 'it returns false'. Refute it at one input. -/
def bufNewWrong : ChangeSpec := { name := "bufNew", fn := fun _ => fun
  | [d1, d2, d3] => { results := [.lit (.bool false)], args := [d1, d2, d3] }
  | _ => none }
def BufNewWrongFalsely : Prop := bufNewRow.holds Tryz.pinned (OpenSpec.ofChange bufNewWrong)

/-- 'foolscaplaw4.BufChanges': WHATEVER THE INPUT: true; the input reads as it did. -/
def bufChangesSpec : ChangeSpec := { name := "bufChanges", fn := fun _ => fun
  | [d1, d2, d3, d4] => { results := [.lit (.bool true)], args := [d1, d2, d3, d4] }
  | _ => none }
def bufChangesRow : OpenClaim := { program := "ytnajkjgjeiodmaagreatdoor", sum := "2480734773a47b04f802107106a5330514233e6d8bfe2f502499c2585e650c39", func := "foolscap/foolscaplaw4.BufChanges", spec := "bufChanges", inPlace := ["internal/bytealg.IndexByteString", "internal/bytealg.IndexString", "internal/abi.NoEscape", "internal/bytealg.MakeNoZero", "slices.overlaps[foolscap/piece.piece]", "slices.overlaps[int]", "internal/bytealg.CountString"], unfollowed := true, recurses := true, named := ["internal/bytealg.MaxLen", "unicode/utf8.first", "unicode/utf8.acceptRanges"], apart := false, laid := [("unicode/utf8.acceptRanges", laid_unicode_utf8_acceptRanges), ("unicode/utf8.first", laid_unicode_utf8_first)] }
def BufChangesSaid : Prop := bufChangesRow.holds Tryz.pinned (OpenSpec.ofChange bufChangesSpec)

/-- ITS FALSE NEIGHBOUR: 'it returns false'. Refute it at one input. -/
def bufChangesWrong : ChangeSpec := { name := "bufChanges", fn := fun _ => fun
  | [d1, d2, d3, d4] => { results := [.lit (.bool false)], args := [d1, d2, d3, d4] }
  | _ => none }
def BufChangesWrongFalsely : Prop := bufChangesRow.holds Tryz.pinned (OpenSpec.ofChange bufChangesWrong)

/-- 'foolscaplaw4.BufLimit': WHATEVER THE INPUT: true; the input reads as it did. -/
def bufLimitSpec : ChangeSpec := { name := "bufLimit", fn := fun _ => fun
  | [d1, d2, d3] => { results := [.lit (.bool true)], args := [d1, d2, d3] }
  | _ => none }
def bufLimitRow : OpenClaim := { program := "ytnajkjgjeiodmaagreatdoor", sum := "2480734773a47b04f802107106a5330514233e6d8bfe2f502499c2585e650c39", func := "foolscap/foolscaplaw4.BufLimit", spec := "bufLimit", inPlace := ["internal/bytealg.IndexByteString", "internal/bytealg.IndexString", "internal/abi.NoEscape", "internal/bytealg.MakeNoZero", "slices.overlaps[foolscap/piece.piece]", "slices.overlaps[int]", "internal/bytealg.CountString"], unfollowed := true, recurses := true, named := ["internal/bytealg.MaxLen", "unicode/utf8.first", "unicode/utf8.acceptRanges"], apart := false, laid := [("unicode/utf8.acceptRanges", laid_unicode_utf8_acceptRanges), ("unicode/utf8.first", laid_unicode_utf8_first)] }
def BufLimitSaid : Prop := bufLimitRow.holds Tryz.pinned (OpenSpec.ofChange bufLimitSpec)

/-- ITS FALSE NEIGHBOUR: 'it returns false'. Refute it at one input. -/
def bufLimitWrong : ChangeSpec := { name := "bufLimit", fn := fun _ => fun
  | [d1, d2, d3] => { results := [.lit (.bool false)], args := [d1, d2, d3] }
  | _ => none }
def BufLimitWrongFalsely : Prop := bufLimitRow.holds Tryz.pinned (OpenSpec.ofChange bufLimitWrong)

/-- 'foolscaplaw4.BufEmpty': WHATEVER THE INPUT: true; the input reads as it did. -/
def bufEmptySpec : ChangeSpec := { name := "bufEmpty", fn := fun _ => fun
  | [d1, d2, d3] => { results := [.lit (.bool true)], args := [d1, d2, d3] }
  | _ => none }
def bufEmptyRow : OpenClaim := { program := "ytnajkjgjeiodmaagreatdoor", sum := "2480734773a47b04f802107106a5330514233e6d8bfe2f502499c2585e650c39", func := "foolscap/foolscaplaw4.BufEmpty", spec := "bufEmpty", inPlace := ["internal/bytealg.IndexByteString", "internal/bytealg.IndexString", "internal/abi.NoEscape", "internal/bytealg.MakeNoZero", "slices.overlaps[foolscap/piece.piece]", "slices.overlaps[int]", "internal/bytealg.CountString"], unfollowed := true, recurses := true, named := ["internal/bytealg.MaxLen", "unicode/utf8.first", "unicode/utf8.acceptRanges"], apart := false, laid := [("unicode/utf8.acceptRanges", laid_unicode_utf8_acceptRanges), ("unicode/utf8.first", laid_unicode_utf8_first)] }
def BufEmptySaid : Prop := bufEmptyRow.holds Tryz.pinned (OpenSpec.ofChange bufEmptySpec)

/-- ITS FALSE NEIGHBOUR: 'it returns false'. Refute it at one input. -/
def bufEmptyWrong : ChangeSpec := { name := "bufEmpty", fn := fun _ => fun
  | [d1, d2, d3] => { results := [.lit (.bool false)], args := [d1, d2, d3] }
  | _ => none }
def BufEmptyWrongFalsely : Prop := bufEmptyRow.holds Tryz.pinned (OpenSpec.ofChange bufEmptyWrong)

/- THE SECOND FORM. 'bulk': how many values and letters a reading holds, each counted each time it is reached (what is shared counts as often as it is met; a slice's spare places count too). A statement '..UptoSaid' is the law's where the arguments, and the package variables that the reading takes, are together of bulk at most 1048576: NARROWER than '..Said'. Prove '..Said' where nothing that the law and all that it calls make is longer than what came in: it says more and counts as full. Else prove '..UptoSaid'. A law counts once. -/
mutual
def uptoBulk {H : Type} : DataW H → Nat
  | .lit (.string bytes) => bytes.length + 1
  | .lit _ => 1
  | .nil => 1
  | .ptr d => uptoBulk d + 1
  | .slice elems spare => uptoBulkAll elems + uptoBulkAll spare + 1
  | .agg parts => uptoBulkAll parts + 1
  | .iface _ d => uptoBulk d + 1
  | .map entries => uptoBulkEntries entries + 1
  | .held _ => 1
def uptoBulkAll {H : Type} : List (DataW H) → Nat
  | [] => 0
  | d :: r => uptoBulk d + uptoBulkAll r
def uptoBulkEntries {H : Type} : List (Lit × DataW H) → Nat
  | [] => 0
  | x :: r => uptoBulkEntry x + uptoBulkEntries r
def uptoBulkEntry {H : Type} : Lit × DataW H → Nat
  | (.string bytes, d) => bytes.length + uptoBulk d + 1
  | (_, d) => uptoBulk d + 1
 end
def uptoSmall : (H : Type) → List (DataW H) → Bool := fun _ ds => decide (uptoBulkAll ds ≤ 1048576)
def OpenSpec.upto (s : _root_.Go.ChangeSpec) : _root_.Go.OpenSpec := { _root_.Go.OpenSpec.ofChange s with cond := some uptoSmall }

/-- 'foolscaplaw4.BufPlays', WHERE WHAT IT READS IS OF BULK AT MOST 1048576: true; the input reads as it did. -/
def bufPlaysUptoRow : OpenClaim := { program := "ytnajkjgjeiodmaagreatdoor", sum := "2480734773a47b04f802107106a5330514233e6d8bfe2f502499c2585e650c39", func := "foolscap/foolscaplaw4.BufPlays", spec := "bufPlays", inPlace := ["internal/bytealg.IndexByteString", "internal/bytealg.IndexString", "internal/abi.NoEscape", "internal/bytealg.MakeNoZero", "slices.overlaps[foolscap/piece.piece]", "slices.overlaps[int]", "internal/bytealg.CountString"], unfollowed := true, recurses := true, named := ["internal/bytealg.MaxLen", "unicode/utf8.first", "unicode/utf8.acceptRanges"], apart := false, laid := [("unicode/utf8.acceptRanges", laid_unicode_utf8_acceptRanges), ("unicode/utf8.first", laid_unicode_utf8_first)], narrowed := true }
def BufPlaysUptoSaid : Prop := bufPlaysUptoRow.holds Tryz.pinned (OpenSpec.upto bufPlaysSpec)

/-- 'foolscaplaw4.BufNew', WHERE WHAT IT READS IS OF BULK AT MOST 1048576: true; the input reads as it did. -/
def bufNewUptoRow : OpenClaim := { program := "ytnajkjgjeiodmaagreatdoor", sum := "2480734773a47b04f802107106a5330514233e6d8bfe2f502499c2585e650c39", func := "foolscap/foolscaplaw4.BufNew", spec := "bufNew", inPlace := ["internal/bytealg.IndexByteString", "internal/bytealg.IndexString", "internal/abi.NoEscape", "internal/bytealg.MakeNoZero", "slices.overlaps[foolscap/piece.piece]", "slices.overlaps[int]", "internal/bytealg.CountString"], unfollowed := true, recurses := true, named := ["internal/bytealg.MaxLen", "unicode/utf8.first", "unicode/utf8.acceptRanges"], apart := false, laid := [("unicode/utf8.acceptRanges", laid_unicode_utf8_acceptRanges), ("unicode/utf8.first", laid_unicode_utf8_first)], narrowed := true }
def BufNewUptoSaid : Prop := bufNewUptoRow.holds Tryz.pinned (OpenSpec.upto bufNewSpec)

/-- 'foolscaplaw4.BufChanges', WHERE WHAT IT READS IS OF BULK AT MOST 1048576: true; the input reads as it did. -/
def bufChangesUptoRow : OpenClaim := { program := "ytnajkjgjeiodmaagreatdoor", sum := "2480734773a47b04f802107106a5330514233e6d8bfe2f502499c2585e650c39", func := "foolscap/foolscaplaw4.BufChanges", spec := "bufChanges", inPlace := ["internal/bytealg.IndexByteString", "internal/bytealg.IndexString", "internal/abi.NoEscape", "internal/bytealg.MakeNoZero", "slices.overlaps[foolscap/piece.piece]", "slices.overlaps[int]", "internal/bytealg.CountString"], unfollowed := true, recurses := true, named := ["internal/bytealg.MaxLen", "unicode/utf8.first", "unicode/utf8.acceptRanges"], apart := false, laid := [("unicode/utf8.acceptRanges", laid_unicode_utf8_acceptRanges), ("unicode/utf8.first", laid_unicode_utf8_first)], narrowed := true }
def BufChangesUptoSaid : Prop := bufChangesUptoRow.holds Tryz.pinned (OpenSpec.upto bufChangesSpec)

/-- 'foolscaplaw4.BufLimit', WHERE WHAT IT READS IS OF BULK AT MOST 1048576: true; the input reads as it did. -/
def bufLimitUptoRow : OpenClaim := { program := "ytnajkjgjeiodmaagreatdoor", sum := "2480734773a47b04f802107106a5330514233e6d8bfe2f502499c2585e650c39", func := "foolscap/foolscaplaw4.BufLimit", spec := "bufLimit", inPlace := ["internal/bytealg.IndexByteString", "internal/bytealg.IndexString", "internal/abi.NoEscape", "internal/bytealg.MakeNoZero", "slices.overlaps[foolscap/piece.piece]", "slices.overlaps[int]", "internal/bytealg.CountString"], unfollowed := true, recurses := true, named := ["internal/bytealg.MaxLen", "unicode/utf8.first", "unicode/utf8.acceptRanges"], apart := false, laid := [("unicode/utf8.acceptRanges", laid_unicode_utf8_acceptRanges), ("unicode/utf8.first", laid_unicode_utf8_first)], narrowed := true }
def BufLimitUptoSaid : Prop := bufLimitUptoRow.holds Tryz.pinned (OpenSpec.upto bufLimitSpec)

/-- 'foolscaplaw4.BufEmpty', WHERE WHAT IT READS IS OF BULK AT MOST 1048576: true; the input reads as it did. -/
def bufEmptyUptoRow : OpenClaim := { program := "ytnajkjgjeiodmaagreatdoor", sum := "2480734773a47b04f802107106a5330514233e6d8bfe2f502499c2585e650c39", func := "foolscap/foolscaplaw4.BufEmpty", spec := "bufEmpty", inPlace := ["internal/bytealg.IndexByteString", "internal/bytealg.IndexString", "internal/abi.NoEscape", "internal/bytealg.MakeNoZero", "slices.overlaps[foolscap/piece.piece]", "slices.overlaps[int]", "internal/bytealg.CountString"], unfollowed := true, recurses := true, named := ["internal/bytealg.MaxLen", "unicode/utf8.first", "unicode/utf8.acceptRanges"], apart := false, laid := [("unicode/utf8.acceptRanges", laid_unicode_utf8_acceptRanges), ("unicode/utf8.first", laid_unicode_utf8_first)], narrowed := true }
def BufEmptyUptoSaid : Prop := bufEmptyUptoRow.holds Tryz.pinned (OpenSpec.upto bufEmptySpec)

end Rows
end Go.Proofs.YtnajkjgjeiodmaaGreatDoor
