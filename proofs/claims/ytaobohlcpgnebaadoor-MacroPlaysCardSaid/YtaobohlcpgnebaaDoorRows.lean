/-
  NARROWER THAN 'FOR EVERY INPUT', by the rows' own cells (each row's printed sentence says how): KeysBack: laid · KeysReads: laid · KeysNames: laid · KeysJoins: laid · MacroEnds: laid · MacroKeys: laid · MacroDepth: laid · MacroPlays: laid · MacroRefuel: laid.
  DERIVED. THE GIVEN ROWS OF THIS SEAT. 9 by the template 'for every input the law returns true; each argument reads behind the call as it read before'; 0 by the template 'total and deterministic' (their statements: YtaobohlcpgnebaaDoorTotals.lean).
  GIVEN WITH THE SEED: the statements are not yours to turn. If you find one false, say at which input.
  Laid BY PROGRAM, IN A SANDBOX (cutbox-rows.mjs): the forced cells as the released guide's own fill.sh prints them over the translation 102af37a2f9bdc82… (all of the seat's roots in one cut). By AI agents, Wed Nov 11 2026. No macro, syntax, notation, axiom, sorry.
-/
import Derived.Test.YtaobohlcpgnebaaDoorChecked
import GoSem.PinnedTables
import GoSem.Claim
import GoSem.ClaimJoined
import GoSem.ClaimMapViews
import Derived.JoinedTies
import Derived.KernelRfl
namespace Go.Proofs.YtaobohlcpgnebaaDoor
/- THE CELL 'sum', in the pinned program and in every row, IS THE sha256 OF THE DUMP (.gsa) THAT YtaobohlcpgnebaaDoorProg.lean LOADS. Nothing in Lean hashes anything: it is a label: what it is worth is what the hold of that sum in a sandbox is worth. -/
noncomputable def Tryd.pinned : Pinned := { name := "ytaobohlcpgnebaadoor", sum := "102af37a2f9bdc8229166291037f725a3a2e274c944122a2fe49197c789da635", checked := Tryd.checked }
namespace Rows
def none {H : Type} : Left H := { results := [], args := [] }

/- WHAT THE LISTED PACKAGE-LEVEL VARIABLES READ AS WHEN THE CALL BEGINS. Each datum BY PROGRAM (the guide's laid-datum.mjs) off the statement by which the dump's own 'gosem.cut.vars' lays the variable. In a bare row this is a premise. The card (YtaobohlcpgnebaaDoorCards.lean) ties it to the program's text. -/
def laid_math_bits_deBruijn32tab {H : Type} : DataW H := .agg [.lit (.int .u8 0), .lit (.int .u8 1), .lit (.int .u8 28), .lit (.int .u8 2), .lit (.int .u8 29), .lit (.int .u8 14), .lit (.int .u8 24), .lit (.int .u8 3), .lit (.int .u8 30), .lit (.int .u8 22), .lit (.int .u8 20), .lit (.int .u8 15), .lit (.int .u8 25), .lit (.int .u8 17), .lit (.int .u8 4), .lit (.int .u8 8), .lit (.int .u8 31), .lit (.int .u8 27), .lit (.int .u8 13), .lit (.int .u8 23), .lit (.int .u8 21), .lit (.int .u8 19), .lit (.int .u8 16), .lit (.int .u8 7), .lit (.int .u8 26), .lit (.int .u8 12), .lit (.int .u8 18), .lit (.int .u8 6), .lit (.int .u8 11), .lit (.int .u8 5), .lit (.int .u8 10), .lit (.int .u8 9)]
def laid_math_bits_deBruijn64tab {H : Type} : DataW H := .agg [.lit (.int .u8 0), .lit (.int .u8 1), .lit (.int .u8 56), .lit (.int .u8 2), .lit (.int .u8 57), .lit (.int .u8 49), .lit (.int .u8 28), .lit (.int .u8 3), .lit (.int .u8 61), .lit (.int .u8 58), .lit (.int .u8 42), .lit (.int .u8 50), .lit (.int .u8 38), .lit (.int .u8 29), .lit (.int .u8 17), .lit (.int .u8 4), .lit (.int .u8 62), .lit (.int .u8 47), .lit (.int .u8 59), .lit (.int .u8 36), .lit (.int .u8 45), .lit (.int .u8 43), .lit (.int .u8 51), .lit (.int .u8 22), .lit (.int .u8 53), .lit (.int .u8 39), .lit (.int .u8 33), .lit (.int .u8 30), .lit (.int .u8 24), .lit (.int .u8 18), .lit (.int .u8 12), .lit (.int .u8 5), .lit (.int .u8 63), .lit (.int .u8 55), .lit (.int .u8 48), .lit (.int .u8 27), .lit (.int .u8 60), .lit (.int .u8 41), .lit (.int .u8 37), .lit (.int .u8 16), .lit (.int .u8 46), .lit (.int .u8 35), .lit (.int .u8 44), .lit (.int .u8 21), .lit (.int .u8 52), .lit (.int .u8 32), .lit (.int .u8 23), .lit (.int .u8 11), .lit (.int .u8 54), .lit (.int .u8 26), .lit (.int .u8 40), .lit (.int .u8 15), .lit (.int .u8 34), .lit (.int .u8 20), .lit (.int .u8 31), .lit (.int .u8 10), .lit (.int .u8 25), .lit (.int .u8 14), .lit (.int .u8 19), .lit (.int .u8 9), .lit (.int .u8 13), .lit (.int .u8 8), .lit (.int .u8 7), .lit (.int .u8 6)]
def laid_internal_strconv_uint64pow10 {H : Type} : DataW H := .agg [.lit (.int .u64 1), .lit (.int .u64 10), .lit (.int .u64 100), .lit (.int .u64 1000), .lit (.int .u64 10000), .lit (.int .u64 100000), .lit (.int .u64 1000000), .lit (.int .u64 10000000), .lit (.int .u64 100000000), .lit (.int .u64 1000000000), .lit (.int .u64 10000000000), .lit (.int .u64 100000000000), .lit (.int .u64 1000000000000), .lit (.int .u64 10000000000000), .lit (.int .u64 100000000000000), .lit (.int .u64 1000000000000000), .lit (.int .u64 10000000000000000), .lit (.int .u64 100000000000000000), .lit (.int .u64 1000000000000000000), .lit (.int .u64 10000000000000000000)]
def laid_unicode_utf8_acceptRanges {H : Type} : DataW H := .agg [.agg [.lit (.int .u8 128), .lit (.int .u8 191)], .agg [.lit (.int .u8 160), .lit (.int .u8 191)], .agg [.lit (.int .u8 128), .lit (.int .u8 159)], .agg [.lit (.int .u8 144), .lit (.int .u8 191)], .agg [.lit (.int .u8 128), .lit (.int .u8 143)], .agg [.lit (.int .u8 0), .lit (.int .u8 0)], .agg [.lit (.int .u8 0), .lit (.int .u8 0)], .agg [.lit (.int .u8 0), .lit (.int .u8 0)], .agg [.lit (.int .u8 0), .lit (.int .u8 0)], .agg [.lit (.int .u8 0), .lit (.int .u8 0)], .agg [.lit (.int .u8 0), .lit (.int .u8 0)], .agg [.lit (.int .u8 0), .lit (.int .u8 0)], .agg [.lit (.int .u8 0), .lit (.int .u8 0)], .agg [.lit (.int .u8 0), .lit (.int .u8 0)], .agg [.lit (.int .u8 0), .lit (.int .u8 0)], .agg [.lit (.int .u8 0), .lit (.int .u8 0)]]
/-- One of Go's own tables, pinned by name: the form's constant. -/
def laid_unicode_utf8_first : DataW Unit := Go.Pinned.utf8First

/-- 'foolscaplaw23.KeysBack': WHATEVER THE INPUT: true; the input reads as it did. -/
def keysBackSpec : ChangeSpec := { name := "keysBack", fn := fun _ => fun
  | [d] => { results := [.lit (.bool true)], args := [d] }
  | _ => none }
def keysBackRow : OpenClaim := { program := "ytaobohlcpgnebaadoor", sum := "102af37a2f9bdc8229166291037f725a3a2e274c944122a2fe49197c789da635", func := "foolscap/foolscaplaw23.KeysBack", spec := "keysBack", inPlace := ["internal/abi.NoEscape"], named := ["internal/strconv.uint64pow10", "math/bits.deBruijn32tab", "math/bits.deBruijn64tab"], apart := false, laid := [("math/bits.deBruijn32tab", laid_math_bits_deBruijn32tab), ("math/bits.deBruijn64tab", laid_math_bits_deBruijn64tab), ("internal/strconv.uint64pow10", laid_internal_strconv_uint64pow10)] }
def KeysBackSaid : Prop := keysBackRow.holds Tryd.pinned (OpenSpec.ofChange keysBackSpec)

/-- ITS FALSE NEIGHBOUR: 'it returns false'. Refute it at one input. -/
def keysBackWrong : ChangeSpec := { name := "keysBack", fn := fun _ => fun
  | [d] => { results := [.lit (.bool false)], args := [d] }
  | _ => none }
def KeysBackWrongFalsely : Prop := keysBackRow.holds Tryd.pinned (OpenSpec.ofChange keysBackWrong)

/-- 'foolscaplaw23.KeysReads': WHATEVER THE INPUT: true; the input reads as it did. -/
def keysReadsSpec : ChangeSpec := { name := "keysReads", fn := fun _ => fun
  | [d1, d2, d3, d4] => { results := [.lit (.bool true)], args := [d1, d2, d3, d4] }
  | _ => none }
def keysReadsRow : OpenClaim := { program := "ytaobohlcpgnebaadoor", sum := "102af37a2f9bdc8229166291037f725a3a2e274c944122a2fe49197c789da635", func := "foolscap/foolscaplaw23.KeysReads", spec := "keysReads", inPlace := ["internal/abi.NoEscape"], named := ["internal/strconv.uint64pow10", "math/bits.deBruijn32tab", "math/bits.deBruijn64tab"], apart := false, laid := [("math/bits.deBruijn32tab", laid_math_bits_deBruijn32tab), ("math/bits.deBruijn64tab", laid_math_bits_deBruijn64tab), ("internal/strconv.uint64pow10", laid_internal_strconv_uint64pow10)] }
def KeysReadsSaid : Prop := keysReadsRow.holds Tryd.pinned (OpenSpec.ofChange keysReadsSpec)

/-- ITS FALSE NEIGHBOUR: 'it returns false'. Refute it at one input. -/
def keysReadsWrong : ChangeSpec := { name := "keysReads", fn := fun _ => fun
  | [d1, d2, d3, d4] => { results := [.lit (.bool false)], args := [d1, d2, d3, d4] }
  | _ => none }
def KeysReadsWrongFalsely : Prop := keysReadsRow.holds Tryd.pinned (OpenSpec.ofChange keysReadsWrong)

/-- 'foolscaplaw23.KeysNames': WHATEVER THE INPUT: true; the input reads as it did. -/
def keysNamesSpec : ChangeSpec := { name := "keysNames", fn := fun _ => fun
  | [d1, d2] => { results := [.lit (.bool true)], args := [d1, d2] }
  | _ => none }
def keysNamesRow : OpenClaim := { program := "ytaobohlcpgnebaadoor", sum := "102af37a2f9bdc8229166291037f725a3a2e274c944122a2fe49197c789da635", func := "foolscap/foolscaplaw23.KeysNames", spec := "keysNames", inPlace := ["internal/abi.NoEscape"], recurses := true, named := ["internal/strconv.uint64pow10", "math/bits.deBruijn32tab", "math/bits.deBruijn64tab"], apart := false, laid := [("math/bits.deBruijn32tab", laid_math_bits_deBruijn32tab), ("math/bits.deBruijn64tab", laid_math_bits_deBruijn64tab), ("internal/strconv.uint64pow10", laid_internal_strconv_uint64pow10)] }
def KeysNamesSaid : Prop := keysNamesRow.holds Tryd.pinned (OpenSpec.ofChange keysNamesSpec)

/-- ITS FALSE NEIGHBOUR: 'it returns false'. Refute it at one input. -/
def keysNamesWrong : ChangeSpec := { name := "keysNames", fn := fun _ => fun
  | [d1, d2] => { results := [.lit (.bool false)], args := [d1, d2] }
  | _ => none }
def KeysNamesWrongFalsely : Prop := keysNamesRow.holds Tryd.pinned (OpenSpec.ofChange keysNamesWrong)

/-- 'foolscaplaw23.KeysJoins': WHATEVER THE INPUT: true; the input reads as it did. -/
def keysJoinsSpec : ChangeSpec := { name := "keysJoins", fn := fun _ => fun
  | [d1, d2] => { results := [.lit (.bool true)], args := [d1, d2] }
  | _ => none }
def keysJoinsRow : OpenClaim := { program := "ytaobohlcpgnebaadoor", sum := "102af37a2f9bdc8229166291037f725a3a2e274c944122a2fe49197c789da635", func := "foolscap/foolscaplaw23.KeysJoins", spec := "keysJoins", inPlace := ["internal/abi.NoEscape"], named := ["internal/strconv.uint64pow10", "math/bits.deBruijn32tab", "math/bits.deBruijn64tab"], apart := false, laid := [("math/bits.deBruijn32tab", laid_math_bits_deBruijn32tab), ("math/bits.deBruijn64tab", laid_math_bits_deBruijn64tab), ("internal/strconv.uint64pow10", laid_internal_strconv_uint64pow10)] }
def KeysJoinsSaid : Prop := keysJoinsRow.holds Tryd.pinned (OpenSpec.ofChange keysJoinsSpec)

/-- ITS FALSE NEIGHBOUR: 'it returns false'. Refute it at one input. -/
def keysJoinsWrong : ChangeSpec := { name := "keysJoins", fn := fun _ => fun
  | [d1, d2] => { results := [.lit (.bool false)], args := [d1, d2] }
  | _ => none }
def KeysJoinsWrongFalsely : Prop := keysJoinsRow.holds Tryd.pinned (OpenSpec.ofChange keysJoinsWrong)

/-- 'foolscaplaw33.MacroEnds': WHATEVER THE INPUT: true; the input reads as it did. -/
def macroEndsSpec : ChangeSpec := { name := "macroEnds", fn := fun _ => fun
  | [d1, d2, d3, d4] => { results := [.lit (.bool true)], args := [d1, d2, d3, d4] }
  | _ => none }
def macroEndsRow : OpenClaim := { program := "ytaobohlcpgnebaadoor", sum := "102af37a2f9bdc8229166291037f725a3a2e274c944122a2fe49197c789da635", func := "foolscap/foolscaplaw33.MacroEnds", spec := "macroEnds", inPlace := ["internal/abi.NoEscape", "internal/bytealg.MakeNoZero", "internal/bytealg.CountString", "internal/bytealg.IndexByteString", "internal/bytealg.IndexString"], named := ["unicode/utf8.first", "unicode/utf8.acceptRanges", "internal/bytealg.MaxLen"], apart := false, laid := [("unicode/utf8.acceptRanges", laid_unicode_utf8_acceptRanges), ("unicode/utf8.first", laid_unicode_utf8_first)] }
def MacroEndsSaid : Prop := macroEndsRow.holds Tryd.pinned (OpenSpec.ofChange macroEndsSpec)

/-- ITS FALSE NEIGHBOUR: 'it returns false'. Refute it at one input. -/
def macroEndsWrong : ChangeSpec := { name := "macroEnds", fn := fun _ => fun
  | [d1, d2, d3, d4] => { results := [.lit (.bool false)], args := [d1, d2, d3, d4] }
  | _ => none }
def MacroEndsWrongFalsely : Prop := macroEndsRow.holds Tryd.pinned (OpenSpec.ofChange macroEndsWrong)

/-- 'foolscaplaw33.MacroKeys': WHATEVER THE INPUT: true; the input reads as it did. -/
def macroKeysSpec : ChangeSpec := { name := "macroKeys", fn := fun _ => fun
  | [d1, d2] => { results := [.lit (.bool true)], args := [d1, d2] }
  | _ => none }
def macroKeysRow : OpenClaim := { program := "ytaobohlcpgnebaadoor", sum := "102af37a2f9bdc8229166291037f725a3a2e274c944122a2fe49197c789da635", func := "foolscap/foolscaplaw33.MacroKeys", spec := "macroKeys", inPlace := ["internal/abi.NoEscape", "internal/bytealg.MakeNoZero", "internal/bytealg.CountString", "internal/bytealg.IndexByteString", "internal/bytealg.IndexString"], named := ["unicode/utf8.first", "unicode/utf8.acceptRanges", "internal/bytealg.MaxLen"], apart := false, laid := [("unicode/utf8.acceptRanges", laid_unicode_utf8_acceptRanges), ("unicode/utf8.first", laid_unicode_utf8_first)] }
def MacroKeysSaid : Prop := macroKeysRow.holds Tryd.pinned (OpenSpec.ofChange macroKeysSpec)

/-- ITS FALSE NEIGHBOUR: 'it returns false'. Refute it at one input. -/
def macroKeysWrong : ChangeSpec := { name := "macroKeys", fn := fun _ => fun
  | [d1, d2] => { results := [.lit (.bool false)], args := [d1, d2] }
  | _ => none }
def MacroKeysWrongFalsely : Prop := macroKeysRow.holds Tryd.pinned (OpenSpec.ofChange macroKeysWrong)

/-- 'foolscaplaw33.MacroDepth': WHATEVER THE INPUT: true; the input reads as it did. -/
def macroDepthSpec : ChangeSpec := { name := "macroDepth", fn := fun _ => fun
  | [d1, d2] => { results := [.lit (.bool true)], args := [d1, d2] }
  | _ => none }
def macroDepthRow : OpenClaim := { program := "ytaobohlcpgnebaadoor", sum := "102af37a2f9bdc8229166291037f725a3a2e274c944122a2fe49197c789da635", func := "foolscap/foolscaplaw33.MacroDepth", spec := "macroDepth", inPlace := ["internal/abi.NoEscape", "internal/bytealg.MakeNoZero", "internal/bytealg.CountString", "internal/bytealg.IndexByteString", "internal/bytealg.IndexString"], named := ["unicode/utf8.first", "unicode/utf8.acceptRanges", "internal/bytealg.MaxLen"], apart := false, laid := [("unicode/utf8.acceptRanges", laid_unicode_utf8_acceptRanges), ("unicode/utf8.first", laid_unicode_utf8_first)] }
def MacroDepthSaid : Prop := macroDepthRow.holds Tryd.pinned (OpenSpec.ofChange macroDepthSpec)

/-- ITS FALSE NEIGHBOUR: 'it returns false'. Refute it at one input. -/
def macroDepthWrong : ChangeSpec := { name := "macroDepth", fn := fun _ => fun
  | [d1, d2] => { results := [.lit (.bool false)], args := [d1, d2] }
  | _ => none }
def MacroDepthWrongFalsely : Prop := macroDepthRow.holds Tryd.pinned (OpenSpec.ofChange macroDepthWrong)

/-- 'foolscaplaw33.MacroPlays': WHATEVER THE INPUT: true; the input reads as it did. -/
def macroPlaysSpec : ChangeSpec := { name := "macroPlays", fn := fun _ => fun
  | [d1, d2, d3] => { results := [.lit (.bool true)], args := [d1, d2, d3] }
  | _ => none }
def macroPlaysRow : OpenClaim := { program := "ytaobohlcpgnebaadoor", sum := "102af37a2f9bdc8229166291037f725a3a2e274c944122a2fe49197c789da635", func := "foolscap/foolscaplaw33.MacroPlays", spec := "macroPlays", inPlace := ["internal/abi.NoEscape", "internal/bytealg.MakeNoZero", "internal/bytealg.CountString", "internal/bytealg.IndexByteString", "internal/bytealg.IndexString"], named := ["unicode/utf8.first", "unicode/utf8.acceptRanges", "internal/bytealg.MaxLen"], apart := false, laid := [("unicode/utf8.acceptRanges", laid_unicode_utf8_acceptRanges), ("unicode/utf8.first", laid_unicode_utf8_first)] }
def MacroPlaysSaid : Prop := macroPlaysRow.holds Tryd.pinned (OpenSpec.ofChange macroPlaysSpec)

/-- ITS FALSE NEIGHBOUR: 'it returns false'. Refute it at one input. -/
def macroPlaysWrong : ChangeSpec := { name := "macroPlays", fn := fun _ => fun
  | [d1, d2, d3] => { results := [.lit (.bool false)], args := [d1, d2, d3] }
  | _ => none }
def MacroPlaysWrongFalsely : Prop := macroPlaysRow.holds Tryd.pinned (OpenSpec.ofChange macroPlaysWrong)

/-- 'foolscaplaw33.MacroRefuel': WHATEVER THE INPUT: true; the input reads as it did. -/
def macroRefuelSpec : ChangeSpec := { name := "macroRefuel", fn := fun _ => fun
  | [d1, d2, d3] => { results := [.lit (.bool true)], args := [d1, d2, d3] }
  | _ => none }
def macroRefuelRow : OpenClaim := { program := "ytaobohlcpgnebaadoor", sum := "102af37a2f9bdc8229166291037f725a3a2e274c944122a2fe49197c789da635", func := "foolscap/foolscaplaw33.MacroRefuel", spec := "macroRefuel", inPlace := ["internal/abi.NoEscape", "internal/bytealg.MakeNoZero", "internal/bytealg.CountString", "internal/bytealg.IndexByteString", "internal/bytealg.IndexString"], named := ["unicode/utf8.first", "unicode/utf8.acceptRanges", "internal/bytealg.MaxLen"], apart := false, laid := [("unicode/utf8.acceptRanges", laid_unicode_utf8_acceptRanges), ("unicode/utf8.first", laid_unicode_utf8_first)] }
def MacroRefuelSaid : Prop := macroRefuelRow.holds Tryd.pinned (OpenSpec.ofChange macroRefuelSpec)

/-- ITS FALSE NEIGHBOUR: 'it returns false'. Refute it at one input. -/
def macroRefuelWrong : ChangeSpec := { name := "macroRefuel", fn := fun _ => fun
  | [d1, d2, d3] => { results := [.lit (.bool false)], args := [d1, d2, d3] }
  | _ => none }
def MacroRefuelWrongFalsely : Prop := macroRefuelRow.holds Tryd.pinned (OpenSpec.ofChange macroRefuelWrong)

/- THE SECOND FORM. 'bulk': how many values and letters a reading holds, each counted each time it is reached (what is shared counts as often as it is met; a slice's spare places count too). A statement '..UptoSaid' is the law's where the arguments, and the package variables that the reading takes, are together of bulk at most 1048576: NARROWER than '..Said'. Prove '..Said' where nothing that the law and all that it calls make is longer than what came in: it says more and counts as full. Else prove '..UptoSaid'. A law counts once. -/
mutual
def uptoBulk {H : Type} : DataW H → Nat
  | .lit (.string bytes) => bytes.length + 1
  | .lit _ => 1
  | .nil => 1
  | .ptr d => uptoBulk d + 1
  | .slice elems spare => uptoBulkAll elems + uptoBulkAll spare + 1
  | .agg parts => uptoBulkAll parts + 1
  | .iface _ d => uptoBulk d + 1
  | .map entries => uptoBulkEntries entries + 1
  | .held _ => 1
def uptoBulkAll {H : Type} : List (DataW H) → Nat
  | [] => 0
  | d :: r => uptoBulk d + uptoBulkAll r
def uptoBulkEntries {H : Type} : List (Lit × DataW H) → Nat
  | [] => 0
  | x :: r => uptoBulkEntry x + uptoBulkEntries r
def uptoBulkEntry {H : Type} : Lit × DataW H → Nat
  | (.string bytes, d) => bytes.length + uptoBulk d + 1
  | (_, d) => uptoBulk d + 1
 end
def uptoSmall : (H : Type) → List (DataW H) → Bool := fun _ ds => decide (uptoBulkAll ds ≤ 1048576)
def OpenSpec.upto (s : _root_.Go.ChangeSpec) : _root_.Go.OpenSpec := { _root_.Go.OpenSpec.ofChange s with cond := some uptoSmall }

/-- 'foolscaplaw23.KeysBack', WHERE WHAT IT READS IS OF BULK AT MOST 1048576: true; the input reads as it did. -/
def keysBackUptoRow : OpenClaim := { program := "ytaobohlcpgnebaadoor", sum := "102af37a2f9bdc8229166291037f725a3a2e274c944122a2fe49197c789da635", func := "foolscap/foolscaplaw23.KeysBack", spec := "keysBack", inPlace := ["internal/abi.NoEscape"], named := ["internal/strconv.uint64pow10", "math/bits.deBruijn32tab", "math/bits.deBruijn64tab"], apart := false, laid := [("math/bits.deBruijn32tab", laid_math_bits_deBruijn32tab), ("math/bits.deBruijn64tab", laid_math_bits_deBruijn64tab), ("internal/strconv.uint64pow10", laid_internal_strconv_uint64pow10)], narrowed := true }
def KeysBackUptoSaid : Prop := keysBackUptoRow.holds Tryd.pinned (OpenSpec.upto keysBackSpec)

/-- 'foolscaplaw23.KeysReads', WHERE WHAT IT READS IS OF BULK AT MOST 1048576: true; the input reads as it did. -/
def keysReadsUptoRow : OpenClaim := { program := "ytaobohlcpgnebaadoor", sum := "102af37a2f9bdc8229166291037f725a3a2e274c944122a2fe49197c789da635", func := "foolscap/foolscaplaw23.KeysReads", spec := "keysReads", inPlace := ["internal/abi.NoEscape"], named := ["internal/strconv.uint64pow10", "math/bits.deBruijn32tab", "math/bits.deBruijn64tab"], apart := false, laid := [("math/bits.deBruijn32tab", laid_math_bits_deBruijn32tab), ("math/bits.deBruijn64tab", laid_math_bits_deBruijn64tab), ("internal/strconv.uint64pow10", laid_internal_strconv_uint64pow10)], narrowed := true }
def KeysReadsUptoSaid : Prop := keysReadsUptoRow.holds Tryd.pinned (OpenSpec.upto keysReadsSpec)

/-- 'foolscaplaw23.KeysNames', WHERE WHAT IT READS IS OF BULK AT MOST 1048576: true; the input reads as it did. -/
def keysNamesUptoRow : OpenClaim := { program := "ytaobohlcpgnebaadoor", sum := "102af37a2f9bdc8229166291037f725a3a2e274c944122a2fe49197c789da635", func := "foolscap/foolscaplaw23.KeysNames", spec := "keysNames", inPlace := ["internal/abi.NoEscape"], recurses := true, named := ["internal/strconv.uint64pow10", "math/bits.deBruijn32tab", "math/bits.deBruijn64tab"], apart := false, laid := [("math/bits.deBruijn32tab", laid_math_bits_deBruijn32tab), ("math/bits.deBruijn64tab", laid_math_bits_deBruijn64tab), ("internal/strconv.uint64pow10", laid_internal_strconv_uint64pow10)], narrowed := true }
def KeysNamesUptoSaid : Prop := keysNamesUptoRow.holds Tryd.pinned (OpenSpec.upto keysNamesSpec)

/-- 'foolscaplaw23.KeysJoins', WHERE WHAT IT READS IS OF BULK AT MOST 1048576: true; the input reads as it did. -/
def keysJoinsUptoRow : OpenClaim := { program := "ytaobohlcpgnebaadoor", sum := "102af37a2f9bdc8229166291037f725a3a2e274c944122a2fe49197c789da635", func := "foolscap/foolscaplaw23.KeysJoins", spec := "keysJoins", inPlace := ["internal/abi.NoEscape"], named := ["internal/strconv.uint64pow10", "math/bits.deBruijn32tab", "math/bits.deBruijn64tab"], apart := false, laid := [("math/bits.deBruijn32tab", laid_math_bits_deBruijn32tab), ("math/bits.deBruijn64tab", laid_math_bits_deBruijn64tab), ("internal/strconv.uint64pow10", laid_internal_strconv_uint64pow10)], narrowed := true }
def KeysJoinsUptoSaid : Prop := keysJoinsUptoRow.holds Tryd.pinned (OpenSpec.upto keysJoinsSpec)

/-- 'foolscaplaw33.MacroEnds', WHERE WHAT IT READS IS OF BULK AT MOST 1048576: true; the input reads as it did. -/
def macroEndsUptoRow : OpenClaim := { program := "ytaobohlcpgnebaadoor", sum := "102af37a2f9bdc8229166291037f725a3a2e274c944122a2fe49197c789da635", func := "foolscap/foolscaplaw33.MacroEnds", spec := "macroEnds", inPlace := ["internal/abi.NoEscape", "internal/bytealg.MakeNoZero", "internal/bytealg.CountString", "internal/bytealg.IndexByteString", "internal/bytealg.IndexString"], named := ["unicode/utf8.first", "unicode/utf8.acceptRanges", "internal/bytealg.MaxLen"], apart := false, laid := [("unicode/utf8.acceptRanges", laid_unicode_utf8_acceptRanges), ("unicode/utf8.first", laid_unicode_utf8_first)], narrowed := true }
def MacroEndsUptoSaid : Prop := macroEndsUptoRow.holds Tryd.pinned (OpenSpec.upto macroEndsSpec)

/-- 'foolscaplaw33.MacroKeys', WHERE WHAT IT READS IS OF BULK AT MOST 1048576: true; the input reads as it did. -/
def macroKeysUptoRow : OpenClaim := { program := "ytaobohlcpgnebaadoor", sum := "102af37a2f9bdc8229166291037f725a3a2e274c944122a2fe49197c789da635", func := "foolscap/foolscaplaw33.MacroKeys", spec := "macroKeys", inPlace := ["internal/abi.NoEscape", "internal/bytealg.MakeNoZero", "internal/bytealg.CountString", "internal/bytealg.IndexByteString", "internal/bytealg.IndexString"], named := ["unicode/utf8.first", "unicode/utf8.acceptRanges", "internal/bytealg.MaxLen"], apart := false, laid := [("unicode/utf8.acceptRanges", laid_unicode_utf8_acceptRanges), ("unicode/utf8.first", laid_unicode_utf8_first)], narrowed := true }
def MacroKeysUptoSaid : Prop := macroKeysUptoRow.holds Tryd.pinned (OpenSpec.upto macroKeysSpec)

/-- 'foolscaplaw33.MacroDepth', WHERE WHAT IT READS IS OF BULK AT MOST 1048576: true; the input reads as it did. -/
def macroDepthUptoRow : OpenClaim := { program := "ytaobohlcpgnebaadoor", sum := "102af37a2f9bdc8229166291037f725a3a2e274c944122a2fe49197c789da635", func := "foolscap/foolscaplaw33.MacroDepth", spec := "macroDepth", inPlace := ["internal/abi.NoEscape", "internal/bytealg.MakeNoZero", "internal/bytealg.CountString", "internal/bytealg.IndexByteString", "internal/bytealg.IndexString"], named := ["unicode/utf8.first", "unicode/utf8.acceptRanges", "internal/bytealg.MaxLen"], apart := false, laid := [("unicode/utf8.acceptRanges", laid_unicode_utf8_acceptRanges), ("unicode/utf8.first", laid_unicode_utf8_first)], narrowed := true }
def MacroDepthUptoSaid : Prop := macroDepthUptoRow.holds Tryd.pinned (OpenSpec.upto macroDepthSpec)

/-- 'foolscaplaw33.MacroPlays', WHERE WHAT IT READS IS OF BULK AT MOST 1048576: true; the input reads as it did. -/
def macroPlaysUptoRow : OpenClaim := { program := "ytaobohlcpgnebaadoor", sum := "102af37a2f9bdc8229166291037f725a3a2e274c944122a2fe49197c789da635", func := "foolscap/foolscaplaw33.MacroPlays", spec := "macroPlays", inPlace := ["internal/abi.NoEscape", "internal/bytealg.MakeNoZero", "internal/bytealg.CountString", "internal/bytealg.IndexByteString", "internal/bytealg.IndexString"], named := ["unicode/utf8.first", "unicode/utf8.acceptRanges", "internal/bytealg.MaxLen"], apart := false, laid := [("unicode/utf8.acceptRanges", laid_unicode_utf8_acceptRanges), ("unicode/utf8.first", laid_unicode_utf8_first)], narrowed := true }
def MacroPlaysUptoSaid : Prop := macroPlaysUptoRow.holds Tryd.pinned (OpenSpec.upto macroPlaysSpec)

/-- 'foolscaplaw33.MacroRefuel', WHERE WHAT IT READS IS OF BULK AT MOST 1048576: true; the input reads as it did. -/
def macroRefuelUptoRow : OpenClaim := { program := "ytaobohlcpgnebaadoor", sum := "102af37a2f9bdc8229166291037f725a3a2e274c944122a2fe49197c789da635", func := "foolscap/foolscaplaw33.MacroRefuel", spec := "macroRefuel", inPlace := ["internal/abi.NoEscape", "internal/bytealg.MakeNoZero", "internal/bytealg.CountString", "internal/bytealg.IndexByteString", "internal/bytealg.IndexString"], named := ["unicode/utf8.first", "unicode/utf8.acceptRanges", "internal/bytealg.MaxLen"], apart := false, laid := [("unicode/utf8.acceptRanges", laid_unicode_utf8_acceptRanges), ("unicode/utf8.first", laid_unicode_utf8_first)], narrowed := true }
def MacroRefuelUptoSaid : Prop := macroRefuelUptoRow.holds Tryd.pinned (OpenSpec.upto macroRefuelSpec)

end Rows
end Go.Proofs.YtaobohlcpgnebaaDoor
