/-
  NARROWER THAN 'FOR EVERY INPUT', by the rows' own cells (each row's printed sentence says how): BoxbookTexts: laid · BoxbookParses: laid · LinearTexts: laid · LinearParses: laid · BoxbookWrites: laid · LinearWrites: laid · LinearAccepts: laid · LinearFinds: laid.
  DERIVED. THE GIVEN ROWS OF THIS SEAT. 8 by the template 'for every input the law returns true; each argument reads behind the call as it read before'; 0 by the template 'total and deterministic' (their statements: YtffdpnmioidloaaGreatDoorTotals.lean).
  GIVEN WITH THE SEED: the statements are not yours to turn. If you find one false, say at which input.
  Laid BY PROGRAM, IN A SANDBOX (cutbox-rows.mjs): the forced cells as the released guide's own fill.sh prints them over the translation 9f8cf5f54de7268d… (all of the seat's roots in one cut). By AI agents, Wed Nov 11 2026. No macro, syntax, notation, axiom, sorry.
-/
import Derived.Test.YtffdpnmioidloaaGreatDoorChecked
import GoSem.PinnedTables
import GoSem.Claim
import GoSem.ClaimJoined
import GoSem.ClaimMapViews
import Derived.JoinedTies
import Derived.KernelRfl
namespace Go.Proofs.YtffdpnmioidloaaGreatDoor
/- THE CELL 'sum', in the pinned program and in every row, IS THE sha256 OF THE DUMP (.gsa) THAT YtffdpnmioidloaaGreatDoorProg.lean LOADS. Nothing in Lean hashes anything: it is a label: what it is worth is what the hold of that sum in a sandbox is worth. -/
noncomputable def Tryz.pinned : Pinned := { name := "ytffdpnmioidloaagreatdoor", sum := "9f8cf5f54de7268dccbe6bc970095b5c4c6cd68f1608df0bed7d0b50dc4ee5d1", checked := Tryz.checked }
namespace Rows
def none {H : Type} : Left H := { results := [], args := [] }

/- WHAT THE LISTED PACKAGE-LEVEL VARIABLES READ AS WHEN THE CALL BEGINS. Each datum BY PROGRAM (the guide's laid-datum.mjs) off the statement by which the dump's own 'gosem.cut.vars' lays the variable. In a bare row this is a premise. The card (YtffdpnmioidloaaGreatDoorCards.lean) ties it to the program's text. -/
def laid_math_bits_deBruijn32tab {H : Type} : DataW H := .agg [.lit (.int .u8 0), .lit (.int .u8 1), .lit (.int .u8 28), .lit (.int .u8 2), .lit (.int .u8 29), .lit (.int .u8 14), .lit (.int .u8 24), .lit (.int .u8 3), .lit (.int .u8 30), .lit (.int .u8 22), .lit (.int .u8 20), .lit (.int .u8 15), .lit (.int .u8 25), .lit (.int .u8 17), .lit (.int .u8 4), .lit (.int .u8 8), .lit (.int .u8 31), .lit (.int .u8 27), .lit (.int .u8 13), .lit (.int .u8 23), .lit (.int .u8 21), .lit (.int .u8 19), .lit (.int .u8 16), .lit (.int .u8 7), .lit (.int .u8 26), .lit (.int .u8 12), .lit (.int .u8 18), .lit (.int .u8 6), .lit (.int .u8 11), .lit (.int .u8 5), .lit (.int .u8 10), .lit (.int .u8 9)]
def laid_math_bits_deBruijn64tab {H : Type} : DataW H := .agg [.lit (.int .u8 0), .lit (.int .u8 1), .lit (.int .u8 56), .lit (.int .u8 2), .lit (.int .u8 57), .lit (.int .u8 49), .lit (.int .u8 28), .lit (.int .u8 3), .lit (.int .u8 61), .lit (.int .u8 58), .lit (.int .u8 42), .lit (.int .u8 50), .lit (.int .u8 38), .lit (.int .u8 29), .lit (.int .u8 17), .lit (.int .u8 4), .lit (.int .u8 62), .lit (.int .u8 47), .lit (.int .u8 59), .lit (.int .u8 36), .lit (.int .u8 45), .lit (.int .u8 43), .lit (.int .u8 51), .lit (.int .u8 22), .lit (.int .u8 53), .lit (.int .u8 39), .lit (.int .u8 33), .lit (.int .u8 30), .lit (.int .u8 24), .lit (.int .u8 18), .lit (.int .u8 12), .lit (.int .u8 5), .lit (.int .u8 63), .lit (.int .u8 55), .lit (.int .u8 48), .lit (.int .u8 27), .lit (.int .u8 60), .lit (.int .u8 41), .lit (.int .u8 37), .lit (.int .u8 16), .lit (.int .u8 46), .lit (.int .u8 35), .lit (.int .u8 44), .lit (.int .u8 21), .lit (.int .u8 52), .lit (.int .u8 32), .lit (.int .u8 23), .lit (.int .u8 11), .lit (.int .u8 54), .lit (.int .u8 26), .lit (.int .u8 40), .lit (.int .u8 15), .lit (.int .u8 34), .lit (.int .u8 20), .lit (.int .u8 31), .lit (.int .u8 10), .lit (.int .u8 25), .lit (.int .u8 14), .lit (.int .u8 19), .lit (.int .u8 9), .lit (.int .u8 13), .lit (.int .u8 8), .lit (.int .u8 7), .lit (.int .u8 6)]
def laid_internal_strconv_uint64pow10 {H : Type} : DataW H := .agg [.lit (.int .u64 1), .lit (.int .u64 10), .lit (.int .u64 100), .lit (.int .u64 1000), .lit (.int .u64 10000), .lit (.int .u64 100000), .lit (.int .u64 1000000), .lit (.int .u64 10000000), .lit (.int .u64 100000000), .lit (.int .u64 1000000000), .lit (.int .u64 10000000000), .lit (.int .u64 100000000000), .lit (.int .u64 1000000000000), .lit (.int .u64 10000000000000), .lit (.int .u64 100000000000000), .lit (.int .u64 1000000000000000), .lit (.int .u64 10000000000000000), .lit (.int .u64 100000000000000000), .lit (.int .u64 1000000000000000000), .lit (.int .u64 10000000000000000000)]
def laid_unicode_utf8_acceptRanges {H : Type} : DataW H := .agg [.agg [.lit (.int .u8 128), .lit (.int .u8 191)], .agg [.lit (.int .u8 160), .lit (.int .u8 191)], .agg [.lit (.int .u8 128), .lit (.int .u8 159)], .agg [.lit (.int .u8 144), .lit (.int .u8 191)], .agg [.lit (.int .u8 128), .lit (.int .u8 143)], .agg [.lit (.int .u8 0), .lit (.int .u8 0)], .agg [.lit (.int .u8 0), .lit (.int .u8 0)], .agg [.lit (.int .u8 0), .lit (.int .u8 0)], .agg [.lit (.int .u8 0), .lit (.int .u8 0)], .agg [.lit (.int .u8 0), .lit (.int .u8 0)], .agg [.lit (.int .u8 0), .lit (.int .u8 0)], .agg [.lit (.int .u8 0), .lit (.int .u8 0)], .agg [.lit (.int .u8 0), .lit (.int .u8 0)], .agg [.lit (.int .u8 0), .lit (.int .u8 0)], .agg [.lit (.int .u8 0), .lit (.int .u8 0)], .agg [.lit (.int .u8 0), .lit (.int .u8 0)]]
def laid_strconv_ErrRange {H : Type} : DataW H := .iface "*errors.errorString" (.ptr (.agg [.lit (.string [118, 97, 108, 117, 101, 32, 111, 117, 116, 32, 111, 102, 32, 114, 97, 110, 103, 101])]))
def laid_strconv_ErrSyntax {H : Type} : DataW H := .iface "*errors.errorString" (.ptr (.agg [.lit (.string [105, 110, 118, 97, 108, 105, 100, 32, 115, 121, 110, 116, 97, 120])]))
/-- One of Go's own tables, pinned by name: the form's constant. -/
def laid_unicode_utf8_first : DataW Unit := Go.Pinned.utf8First

/-- 'scorebooklaw21.BoxbookTexts': WHATEVER THE INPUT: true; the input reads as it did. -/
def boxbookTextsSpec : ChangeSpec := { name := "boxbookTexts", fn := fun _ => fun
  | [d] => { results := [.lit (.bool true)], args := [d] }
  | _ => none }
def boxbookTextsRow : OpenClaim := { program := "ytffdpnmioidloaagreatdoor", sum := "9f8cf5f54de7268dccbe6bc970095b5c4c6cd68f1608df0bed7d0b50dc4ee5d1", func := "scorebook/scorebooklaw21.BoxbookTexts", spec := "boxbookTexts", inPlace := ["internal/bytealg.IndexByteString", "internal/abi.NoEscape", "internal/bytealg.MakeNoZero", "internal/bytealg.CountString", "internal/bytealg.IndexString"], unfollowed := true, recurses := true, named := ["internal/strconv.uint64pow10", "math/bits.deBruijn32tab", "math/bits.deBruijn64tab", "unicode/utf8.first", "unicode/utf8.acceptRanges", "internal/bytealg.MaxLen", "strconv.ErrSyntax", "strconv.ErrRange"], apart := false, laid := [("math/bits.deBruijn32tab", laid_math_bits_deBruijn32tab), ("math/bits.deBruijn64tab", laid_math_bits_deBruijn64tab), ("internal/strconv.uint64pow10", laid_internal_strconv_uint64pow10), ("unicode/utf8.acceptRanges", laid_unicode_utf8_acceptRanges), ("strconv.ErrRange", laid_strconv_ErrRange), ("strconv.ErrSyntax", laid_strconv_ErrSyntax), ("unicode/utf8.first", laid_unicode_utf8_first)] }
def BoxbookTextsSaid : Prop := boxbookTextsRow.holds Tryz.pinned (OpenSpec.ofChange boxbookTextsSpec)

/-- ITS FALSE NEIGHBOUR: 'it returns false'. Refute it at one input. -/
def boxbookTextsWrong : ChangeSpec := { name := "boxbookTexts", fn := fun _ => fun
  | [d] => { results := [.lit (.bool false)], args := [d] }
  | _ => none }
def BoxbookTextsWrongFalsely : Prop := boxbookTextsRow.holds Tryz.pinned (OpenSpec.ofChange boxbookTextsWrong)

/-- 'scorebooklaw21.BoxbookParses': WHATEVER THE INPUT: true; the input reads as it did. -/
def boxbookParsesSpec : ChangeSpec := { name := "boxbookParses", fn := fun _ => fun
  | [d1, d2] => { results := [.lit (.bool true)], args := [d1, d2] }
  | _ => none }
def boxbookParsesRow : OpenClaim := { program := "ytffdpnmioidloaagreatdoor", sum := "9f8cf5f54de7268dccbe6bc970095b5c4c6cd68f1608df0bed7d0b50dc4ee5d1", func := "scorebook/scorebooklaw21.BoxbookParses", spec := "boxbookParses", inPlace := ["internal/bytealg.IndexByteString", "internal/bytealg.CountString", "internal/bytealg.IndexString", "internal/abi.NoEscape", "internal/bytealg.MakeNoZero"], unfollowed := true, recurses := true, named := ["internal/strconv.uint64pow10", "math/bits.deBruijn32tab", "math/bits.deBruijn64tab", "unicode/utf8.first", "unicode/utf8.acceptRanges", "internal/bytealg.MaxLen", "strconv.ErrSyntax", "strconv.ErrRange"], apart := false, laid := [("math/bits.deBruijn32tab", laid_math_bits_deBruijn32tab), ("math/bits.deBruijn64tab", laid_math_bits_deBruijn64tab), ("internal/strconv.uint64pow10", laid_internal_strconv_uint64pow10), ("unicode/utf8.acceptRanges", laid_unicode_utf8_acceptRanges), ("strconv.ErrRange", laid_strconv_ErrRange), ("strconv.ErrSyntax", laid_strconv_ErrSyntax), ("unicode/utf8.first", laid_unicode_utf8_first)] }
def BoxbookParsesSaid : Prop := boxbookParsesRow.holds Tryz.pinned (OpenSpec.ofChange boxbookParsesSpec)

/-- ITS FALSE NEIGHBOUR: 'it returns false'. Refute it at one input. -/
def boxbookParsesWrong : ChangeSpec := { name := "boxbookParses", fn := fun _ => fun
  | [d1, d2] => { results := [.lit (.bool false)], args := [d1, d2] }
  | _ => none }
def BoxbookParsesWrongFalsely : Prop := boxbookParsesRow.holds Tryz.pinned (OpenSpec.ofChange boxbookParsesWrong)

/-- 'scorebooklaw20.LinearTexts': WHATEVER THE INPUT: true; the input reads as it did. -/
def linearTextsSpec : ChangeSpec := { name := "linearTexts", fn := fun _ => fun
  | [d] => { results := [.lit (.bool true)], args := [d] }
  | _ => none }
def linearTextsRow : OpenClaim := { program := "ytffdpnmioidloaagreatdoor", sum := "9f8cf5f54de7268dccbe6bc970095b5c4c6cd68f1608df0bed7d0b50dc4ee5d1", func := "scorebook/scorebooklaw20.LinearTexts", spec := "linearTexts", inPlace := ["internal/bytealg.IndexByteString", "internal/abi.NoEscape", "internal/bytealg.CountString", "internal/bytealg.IndexString"], unfollowed := true, recurses := true, named := ["internal/strconv.uint64pow10", "math/bits.deBruijn32tab", "math/bits.deBruijn64tab", "unicode/utf8.first", "unicode/utf8.acceptRanges", "internal/bytealg.MaxLen", "strconv.ErrSyntax", "strconv.ErrRange"], apart := false, laid := [("math/bits.deBruijn32tab", laid_math_bits_deBruijn32tab), ("math/bits.deBruijn64tab", laid_math_bits_deBruijn64tab), ("internal/strconv.uint64pow10", laid_internal_strconv_uint64pow10), ("unicode/utf8.acceptRanges", laid_unicode_utf8_acceptRanges), ("strconv.ErrRange", laid_strconv_ErrRange), ("strconv.ErrSyntax", laid_strconv_ErrSyntax), ("unicode/utf8.first", laid_unicode_utf8_first)] }
def LinearTextsSaid : Prop := linearTextsRow.holds Tryz.pinned (OpenSpec.ofChange linearTextsSpec)

/-- ITS FALSE NEIGHBOUR: 'it returns false'. Refute it at one input. -/
def linearTextsWrong : ChangeSpec := { name := "linearTexts", fn := fun _ => fun
  | [d] => { results := [.lit (.bool false)], args := [d] }
  | _ => none }
def LinearTextsWrongFalsely : Prop := linearTextsRow.holds Tryz.pinned (OpenSpec.ofChange linearTextsWrong)

/-- 'scorebooklaw20.LinearParses': WHATEVER THE INPUT: true; the input reads as it did. -/
def linearParsesSpec : ChangeSpec := { name := "linearParses", fn := fun _ => fun
  | [d] => { results := [.lit (.bool true)], args := [d] }
  | _ => none }
def linearParsesRow : OpenClaim := { program := "ytffdpnmioidloaagreatdoor", sum := "9f8cf5f54de7268dccbe6bc970095b5c4c6cd68f1608df0bed7d0b50dc4ee5d1", func := "scorebook/scorebooklaw20.LinearParses", spec := "linearParses", inPlace := ["internal/bytealg.IndexByteString", "internal/bytealg.CountString", "internal/bytealg.IndexString", "internal/abi.NoEscape"], unfollowed := true, recurses := true, named := ["internal/strconv.uint64pow10", "math/bits.deBruijn32tab", "math/bits.deBruijn64tab", "unicode/utf8.first", "unicode/utf8.acceptRanges", "internal/bytealg.MaxLen", "strconv.ErrSyntax", "strconv.ErrRange"], apart := false, laid := [("math/bits.deBruijn32tab", laid_math_bits_deBruijn32tab), ("math/bits.deBruijn64tab", laid_math_bits_deBruijn64tab), ("internal/strconv.uint64pow10", laid_internal_strconv_uint64pow10), ("unicode/utf8.acceptRanges", laid_unicode_utf8_acceptRanges), ("strconv.ErrRange", laid_strconv_ErrRange), ("strconv.ErrSyntax", laid_strconv_ErrSyntax), ("unicode/utf8.first", laid_unicode_utf8_first)] }
def LinearParsesSaid : Prop := linearParsesRow.holds Tryz.pinned (OpenSpec.ofChange linearParsesSpec)

/-- ITS FALSE NEIGHBOUR: 'it returns false'. Refute it at one input. -/
def linearParsesWrong : ChangeSpec := { name := "linearParses", fn := fun _ => fun
  | [d] => { results := [.lit (.bool false)], args := [d] }
  | _ => none }
def LinearParsesWrongFalsely : Prop := linearParsesRow.holds Tryz.pinned (OpenSpec.ofChange linearParsesWrong)

/-- 'scorebooklaw21.BoxbookWrites': WHATEVER THE INPUT: true; the input reads as it did. -/
def boxbookWritesSpec : ChangeSpec := { name := "boxbookWrites", fn := fun _ => fun
  | [d1, d2] => { results := [.lit (.bool true)], args := [d1, d2] }
  | _ => none }
def boxbookWritesRow : OpenClaim := { program := "ytffdpnmioidloaagreatdoor", sum := "9f8cf5f54de7268dccbe6bc970095b5c4c6cd68f1608df0bed7d0b50dc4ee5d1", func := "scorebook/scorebooklaw21.BoxbookWrites", spec := "boxbookWrites", inPlace := ["internal/bytealg.IndexByteString"], unfollowed := true, recurses := true, named := ["internal/strconv.uint64pow10", "math/bits.deBruijn32tab", "math/bits.deBruijn64tab"], apart := false, laid := [("math/bits.deBruijn32tab", laid_math_bits_deBruijn32tab), ("math/bits.deBruijn64tab", laid_math_bits_deBruijn64tab), ("internal/strconv.uint64pow10", laid_internal_strconv_uint64pow10)] }
def BoxbookWritesSaid : Prop := boxbookWritesRow.holds Tryz.pinned (OpenSpec.ofChange boxbookWritesSpec)

/-- ITS FALSE NEIGHBOUR: 'it returns false'. Refute it at one input. -/
def boxbookWritesWrong : ChangeSpec := { name := "boxbookWrites", fn := fun _ => fun
  | [d1, d2] => { results := [.lit (.bool false)], args := [d1, d2] }
  | _ => none }
def BoxbookWritesWrongFalsely : Prop := boxbookWritesRow.holds Tryz.pinned (OpenSpec.ofChange boxbookWritesWrong)

/-- 'scorebooklaw20.LinearWrites': WHATEVER THE INPUT: true; the input reads as it did. -/
def linearWritesSpec : ChangeSpec := { name := "linearWrites", fn := fun _ => fun
  | [d1, d2] => { results := [.lit (.bool true)], args := [d1, d2] }
  | _ => none }
def linearWritesRow : OpenClaim := { program := "ytffdpnmioidloaagreatdoor", sum := "9f8cf5f54de7268dccbe6bc970095b5c4c6cd68f1608df0bed7d0b50dc4ee5d1", func := "scorebook/scorebooklaw20.LinearWrites", spec := "linearWrites", inPlace := ["internal/bytealg.IndexByteString"], unfollowed := true, recurses := true, named := ["internal/strconv.uint64pow10", "math/bits.deBruijn32tab", "math/bits.deBruijn64tab"], apart := false, laid := [("math/bits.deBruijn32tab", laid_math_bits_deBruijn32tab), ("math/bits.deBruijn64tab", laid_math_bits_deBruijn64tab), ("internal/strconv.uint64pow10", laid_internal_strconv_uint64pow10)] }
def LinearWritesSaid : Prop := linearWritesRow.holds Tryz.pinned (OpenSpec.ofChange linearWritesSpec)

/-- ITS FALSE NEIGHBOUR: 'it returns false'. Refute it at one input. -/
def linearWritesWrong : ChangeSpec := { name := "linearWrites", fn := fun _ => fun
  | [d1, d2] => { results := [.lit (.bool false)], args := [d1, d2] }
  | _ => none }
def LinearWritesWrongFalsely : Prop := linearWritesRow.holds Tryz.pinned (OpenSpec.ofChange linearWritesWrong)

/-- 'scorebooklaw20.LinearAccepts': WHATEVER THE INPUT: true; the input reads as it did. -/
def linearAcceptsSpec : ChangeSpec := { name := "linearAccepts", fn := fun _ => fun
  | [d1, d2] => { results := [.lit (.bool true)], args := [d1, d2] }
  | _ => none }
def linearAcceptsRow : OpenClaim := { program := "ytffdpnmioidloaagreatdoor", sum := "9f8cf5f54de7268dccbe6bc970095b5c4c6cd68f1608df0bed7d0b50dc4ee5d1", func := "scorebook/scorebooklaw20.LinearAccepts", spec := "linearAccepts", inPlace := ["internal/bytealg.IndexByteString"], unfollowed := true, recurses := true, named := ["internal/strconv.uint64pow10", "math/bits.deBruijn32tab", "math/bits.deBruijn64tab"], apart := false, laid := [("math/bits.deBruijn32tab", laid_math_bits_deBruijn32tab), ("math/bits.deBruijn64tab", laid_math_bits_deBruijn64tab), ("internal/strconv.uint64pow10", laid_internal_strconv_uint64pow10)] }
def LinearAcceptsSaid : Prop := linearAcceptsRow.holds Tryz.pinned (OpenSpec.ofChange linearAcceptsSpec)

/-- ITS FALSE NEIGHBOUR: 'it returns false'. Refute it at one input. -/
def linearAcceptsWrong : ChangeSpec := { name := "linearAccepts", fn := fun _ => fun
  | [d1, d2] => { results := [.lit (.bool false)], args := [d1, d2] }
  | _ => none }
def LinearAcceptsWrongFalsely : Prop := linearAcceptsRow.holds Tryz.pinned (OpenSpec.ofChange linearAcceptsWrong)

/-- 'scorebooklaw20.LinearFinds': WHATEVER THE INPUT: true; the input reads as it did. -/
def linearFindsSpec : ChangeSpec := { name := "linearFinds", fn := fun _ => fun
  | [d1, d2, d3] => { results := [.lit (.bool true)], args := [d1, d2, d3] }
  | _ => none }
def linearFindsRow : OpenClaim := { program := "ytffdpnmioidloaagreatdoor", sum := "9f8cf5f54de7268dccbe6bc970095b5c4c6cd68f1608df0bed7d0b50dc4ee5d1", func := "scorebook/scorebooklaw20.LinearFinds", spec := "linearFinds", inPlace := ["internal/bytealg.IndexByteString"], unfollowed := true, recurses := true, named := ["internal/strconv.uint64pow10", "math/bits.deBruijn32tab", "math/bits.deBruijn64tab"], apart := false, laid := [("math/bits.deBruijn32tab", laid_math_bits_deBruijn32tab), ("math/bits.deBruijn64tab", laid_math_bits_deBruijn64tab), ("internal/strconv.uint64pow10", laid_internal_strconv_uint64pow10)] }
def LinearFindsSaid : Prop := linearFindsRow.holds Tryz.pinned (OpenSpec.ofChange linearFindsSpec)

/-- ITS FALSE NEIGHBOUR: 'it returns false'. Refute it at one input. -/
def linearFindsWrong : ChangeSpec := { name := "linearFinds", fn := fun _ => fun
  | [d1, d2, d3] => { results := [.lit (.bool false)], args := [d1, d2, d3] }
  | _ => none }
def LinearFindsWrongFalsely : Prop := linearFindsRow.holds Tryz.pinned (OpenSpec.ofChange linearFindsWrong)

/- THE SECOND FORM. 'bulk': how many values and letters a reading holds, each counted each time it is reached (what is shared counts as often as it is met; a slice's spare places count too). A statement '..UptoSaid' is the law's where the arguments, and the package variables that the reading takes, are together of bulk at most 1048576: NARROWER than '..Said'. Prove '..Said' where nothing that the law and all that it calls make is longer than what came in: it says more and counts as full. Else prove '..UptoSaid'. A law counts once. -/
mutual
def uptoBulk {H : Type} : DataW H → Nat
  | .lit (.string bytes) => bytes.length + 1
  | .lit _ => 1
  | .nil => 1
  | .ptr d => uptoBulk d + 1
  | .slice elems spare => uptoBulkAll elems + uptoBulkAll spare + 1
  | .agg parts => uptoBulkAll parts + 1
  | .iface _ d => uptoBulk d + 1
  | .map entries => uptoBulkEntries entries + 1
  | .held _ => 1
def uptoBulkAll {H : Type} : List (DataW H) → Nat
  | [] => 0
  | d :: r => uptoBulk d + uptoBulkAll r
def uptoBulkEntries {H : Type} : List (Lit × DataW H) → Nat
  | [] => 0
  | x :: r => uptoBulkEntry x + uptoBulkEntries r
def uptoBulkEntry {H : Type} : Lit × DataW H → Nat
  | (.string bytes, d) => bytes.length + uptoBulk d + 1
  | (_, d) => uptoBulk d + 1
 end
def uptoSmall : (H : Type) → List (DataW H) → Bool := fun _ ds => decide (uptoBulkAll ds ≤ 1048576)
def OpenSpec.upto (s : _root_.Go.ChangeSpec) : _root_.Go.OpenSpec := { _root_.Go.OpenSpec.ofChange s with cond := some uptoSmall }

/-- 'scorebooklaw21.BoxbookTexts', WHERE WHAT IT READS IS OF BULK AT MOST 1048576: true; the input reads as it did. -/
def boxbookTextsUptoRow : OpenClaim := { program := "ytffdpnmioidloaagreatdoor", sum := "9f8cf5f54de7268dccbe6bc970095b5c4c6cd68f1608df0bed7d0b50dc4ee5d1", func := "scorebook/scorebooklaw21.BoxbookTexts", spec := "boxbookTexts", inPlace := ["internal/bytealg.IndexByteString", "internal/abi.NoEscape", "internal/bytealg.MakeNoZero", "internal/bytealg.CountString", "internal/bytealg.IndexString"], unfollowed := true, recurses := true, named := ["internal/strconv.uint64pow10", "math/bits.deBruijn32tab", "math/bits.deBruijn64tab", "unicode/utf8.first", "unicode/utf8.acceptRanges", "internal/bytealg.MaxLen", "strconv.ErrSyntax", "strconv.ErrRange"], apart := false, laid := [("math/bits.deBruijn32tab", laid_math_bits_deBruijn32tab), ("math/bits.deBruijn64tab", laid_math_bits_deBruijn64tab), ("internal/strconv.uint64pow10", laid_internal_strconv_uint64pow10), ("unicode/utf8.acceptRanges", laid_unicode_utf8_acceptRanges), ("strconv.ErrRange", laid_strconv_ErrRange), ("strconv.ErrSyntax", laid_strconv_ErrSyntax), ("unicode/utf8.first", laid_unicode_utf8_first)], narrowed := true }
def BoxbookTextsUptoSaid : Prop := boxbookTextsUptoRow.holds Tryz.pinned (OpenSpec.upto boxbookTextsSpec)

/-- 'scorebooklaw21.BoxbookParses', WHERE WHAT IT READS IS OF BULK AT MOST 1048576: true; the input reads as it did. -/
def boxbookParsesUptoRow : OpenClaim := { program := "ytffdpnmioidloaagreatdoor", sum := "9f8cf5f54de7268dccbe6bc970095b5c4c6cd68f1608df0bed7d0b50dc4ee5d1", func := "scorebook/scorebooklaw21.BoxbookParses", spec := "boxbookParses", inPlace := ["internal/bytealg.IndexByteString", "internal/bytealg.CountString", "internal/bytealg.IndexString", "internal/abi.NoEscape", "internal/bytealg.MakeNoZero"], unfollowed := true, recurses := true, named := ["internal/strconv.uint64pow10", "math/bits.deBruijn32tab", "math/bits.deBruijn64tab", "unicode/utf8.first", "unicode/utf8.acceptRanges", "internal/bytealg.MaxLen", "strconv.ErrSyntax", "strconv.ErrRange"], apart := false, laid := [("math/bits.deBruijn32tab", laid_math_bits_deBruijn32tab), ("math/bits.deBruijn64tab", laid_math_bits_deBruijn64tab), ("internal/strconv.uint64pow10", laid_internal_strconv_uint64pow10), ("unicode/utf8.acceptRanges", laid_unicode_utf8_acceptRanges), ("strconv.ErrRange", laid_strconv_ErrRange), ("strconv.ErrSyntax", laid_strconv_ErrSyntax), ("unicode/utf8.first", laid_unicode_utf8_first)], narrowed := true }
def BoxbookParsesUptoSaid : Prop := boxbookParsesUptoRow.holds Tryz.pinned (OpenSpec.upto boxbookParsesSpec)

/-- 'scorebooklaw20.LinearTexts', WHERE WHAT IT READS IS OF BULK AT MOST 1048576: true; the input reads as it did. -/
def linearTextsUptoRow : OpenClaim := { program := "ytffdpnmioidloaagreatdoor", sum := "9f8cf5f54de7268dccbe6bc970095b5c4c6cd68f1608df0bed7d0b50dc4ee5d1", func := "scorebook/scorebooklaw20.LinearTexts", spec := "linearTexts", inPlace := ["internal/bytealg.IndexByteString", "internal/abi.NoEscape", "internal/bytealg.CountString", "internal/bytealg.IndexString"], unfollowed := true, recurses := true, named := ["internal/strconv.uint64pow10", "math/bits.deBruijn32tab", "math/bits.deBruijn64tab", "unicode/utf8.first", "unicode/utf8.acceptRanges", "internal/bytealg.MaxLen", "strconv.ErrSyntax", "strconv.ErrRange"], apart := false, laid := [("math/bits.deBruijn32tab", laid_math_bits_deBruijn32tab), ("math/bits.deBruijn64tab", laid_math_bits_deBruijn64tab), ("internal/strconv.uint64pow10", laid_internal_strconv_uint64pow10), ("unicode/utf8.acceptRanges", laid_unicode_utf8_acceptRanges), ("strconv.ErrRange", laid_strconv_ErrRange), ("strconv.ErrSyntax", laid_strconv_ErrSyntax), ("unicode/utf8.first", laid_unicode_utf8_first)], narrowed := true }
def LinearTextsUptoSaid : Prop := linearTextsUptoRow.holds Tryz.pinned (OpenSpec.upto linearTextsSpec)

/-- 'scorebooklaw20.LinearParses', WHERE WHAT IT READS IS OF BULK AT MOST 1048576: true; the input reads as it did. -/
def linearParsesUptoRow : OpenClaim := { program := "ytffdpnmioidloaagreatdoor", sum := "9f8cf5f54de7268dccbe6bc970095b5c4c6cd68f1608df0bed7d0b50dc4ee5d1", func := "scorebook/scorebooklaw20.LinearParses", spec := "linearParses", inPlace := ["internal/bytealg.IndexByteString", "internal/bytealg.CountString", "internal/bytealg.IndexString", "internal/abi.NoEscape"], unfollowed := true, recurses := true, named := ["internal/strconv.uint64pow10", "math/bits.deBruijn32tab", "math/bits.deBruijn64tab", "unicode/utf8.first", "unicode/utf8.acceptRanges", "internal/bytealg.MaxLen", "strconv.ErrSyntax", "strconv.ErrRange"], apart := false, laid := [("math/bits.deBruijn32tab", laid_math_bits_deBruijn32tab), ("math/bits.deBruijn64tab", laid_math_bits_deBruijn64tab), ("internal/strconv.uint64pow10", laid_internal_strconv_uint64pow10), ("unicode/utf8.acceptRanges", laid_unicode_utf8_acceptRanges), ("strconv.ErrRange", laid_strconv_ErrRange), ("strconv.ErrSyntax", laid_strconv_ErrSyntax), ("unicode/utf8.first", laid_unicode_utf8_first)], narrowed := true }
def LinearParsesUptoSaid : Prop := linearParsesUptoRow.holds Tryz.pinned (OpenSpec.upto linearParsesSpec)

/-- 'scorebooklaw21.BoxbookWrites', WHERE WHAT IT READS IS OF BULK AT MOST 1048576: true; the input reads as it did. -/
def boxbookWritesUptoRow : OpenClaim := { program := "ytffdpnmioidloaagreatdoor", sum := "9f8cf5f54de7268dccbe6bc970095b5c4c6cd68f1608df0bed7d0b50dc4ee5d1", func := "scorebook/scorebooklaw21.BoxbookWrites", spec := "boxbookWrites", inPlace := ["internal/bytealg.IndexByteString"], unfollowed := true, recurses := true, named := ["internal/strconv.uint64pow10", "math/bits.deBruijn32tab", "math/bits.deBruijn64tab"], apart := false, laid := [("math/bits.deBruijn32tab", laid_math_bits_deBruijn32tab), ("math/bits.deBruijn64tab", laid_math_bits_deBruijn64tab), ("internal/strconv.uint64pow10", laid_internal_strconv_uint64pow10)], narrowed := true }
def BoxbookWritesUptoSaid : Prop := boxbookWritesUptoRow.holds Tryz.pinned (OpenSpec.upto boxbookWritesSpec)

/-- 'scorebooklaw20.LinearWrites', WHERE WHAT IT READS IS OF BULK AT MOST 1048576: true; the input reads as it did. -/
def linearWritesUptoRow : OpenClaim := { program := "ytffdpnmioidloaagreatdoor", sum := "9f8cf5f54de7268dccbe6bc970095b5c4c6cd68f1608df0bed7d0b50dc4ee5d1", func := "scorebook/scorebooklaw20.LinearWrites", spec := "linearWrites", inPlace := ["internal/bytealg.IndexByteString"], unfollowed := true, recurses := true, named := ["internal/strconv.uint64pow10", "math/bits.deBruijn32tab", "math/bits.deBruijn64tab"], apart := false, laid := [("math/bits.deBruijn32tab", laid_math_bits_deBruijn32tab), ("math/bits.deBruijn64tab", laid_math_bits_deBruijn64tab), ("internal/strconv.uint64pow10", laid_internal_strconv_uint64pow10)], narrowed := true }
def LinearWritesUptoSaid : Prop := linearWritesUptoRow.holds Tryz.pinned (OpenSpec.upto linearWritesSpec)

/-- 'scorebooklaw20.LinearAccepts', WHERE WHAT IT READS IS OF BULK AT MOST 1048576: true; the input reads as it did. -/
def linearAcceptsUptoRow : OpenClaim := { program := "ytffdpnmioidloaagreatdoor", sum := "9f8cf5f54de7268dccbe6bc970095b5c4c6cd68f1608df0bed7d0b50dc4ee5d1", func := "scorebook/scorebooklaw20.LinearAccepts", spec := "linearAccepts", inPlace := ["internal/bytealg.IndexByteString"], unfollowed := true, recurses := true, named := ["internal/strconv.uint64pow10", "math/bits.deBruijn32tab", "math/bits.deBruijn64tab"], apart := false, laid := [("math/bits.deBruijn32tab", laid_math_bits_deBruijn32tab), ("math/bits.deBruijn64tab", laid_math_bits_deBruijn64tab), ("internal/strconv.uint64pow10", laid_internal_strconv_uint64pow10)], narrowed := true }
def LinearAcceptsUptoSaid : Prop := linearAcceptsUptoRow.holds Tryz.pinned (OpenSpec.upto linearAcceptsSpec)

/-- 'scorebooklaw20.LinearFinds', WHERE WHAT IT READS IS OF BULK AT MOST 1048576: true; the input reads as it did. -/
def linearFindsUptoRow : OpenClaim := { program := "ytffdpnmioidloaagreatdoor", sum := "9f8cf5f54de7268dccbe6bc970095b5c4c6cd68f1608df0bed7d0b50dc4ee5d1", func := "scorebook/scorebooklaw20.LinearFinds", spec := "linearFinds", inPlace := ["internal/bytealg.IndexByteString"], unfollowed := true, recurses := true, named := ["internal/strconv.uint64pow10", "math/bits.deBruijn32tab", "math/bits.deBruijn64tab"], apart := false, laid := [("math/bits.deBruijn32tab", laid_math_bits_deBruijn32tab), ("math/bits.deBruijn64tab", laid_math_bits_deBruijn64tab), ("internal/strconv.uint64pow10", laid_internal_strconv_uint64pow10)], narrowed := true }
def LinearFindsUptoSaid : Prop := linearFindsUptoRow.holds Tryz.pinned (OpenSpec.upto linearFindsSpec)

end Rows
end Go.Proofs.YtffdpnmioidloaaGreatDoor
