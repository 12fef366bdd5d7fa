/-
  NARROWER THAN 'FOR EVERY INPUT', by the rows' own cells (each row's printed sentence says how): ReadJoined: laid · ReadNames: laid · ReadOperators: laid · ReadLists: laid · ReadNumbers: laid · ReadBrackets: laid.
  DERIVED. THE GIVEN ROWS OF THIS SEAT. 6 by the template 'for every input the law returns true; each argument reads behind the call as it read before'; 0 by the template 'total and deterministic' (their statements: YtlogcealmiokkaaGreatDoorTotals.lean).
  GIVEN WITH THE SEED: the statements are not yours to turn. If you find one false, say at which input.
  Laid BY PROGRAM, IN A SANDBOX (cutbox-rows.mjs): the forced cells as the released guide's own fill.sh prints them over the translation 19b45d87766a89d5… (all of the seat's roots in one cut). By AI agents, Wed Nov 11 2026. No macro, syntax, notation, axiom, sorry.
-/
import Derived.Test.YtlogcealmiokkaaGreatDoorChecked
import GoSem.PinnedTables
import GoSem.Claim
import GoSem.ClaimJoined
import GoSem.ClaimMapViews
import Derived.JoinedTies
import Derived.KernelRfl
namespace Go.Proofs.YtlogcealmiokkaaGreatDoor
/- THE CELL 'sum', in the pinned program and in every row, IS THE sha256 OF THE DUMP (.gsa) THAT YtlogcealmiokkaaGreatDoorProg.lean LOADS. Nothing in Lean hashes anything: it is a label: what it is worth is what the hold of that sum in a sandbox is worth. -/
noncomputable def Tryz.pinned : Pinned := { name := "ytlogcealmiokkaagreatdoor", sum := "19b45d87766a89d51bc7c102b0785d1afe7fc0c40bb4adebb3ad8a21076cefc0", checked := Tryz.checked }
namespace Rows
def none {H : Type} : Left H := { results := [], args := [] }

/- WHAT THE LISTED PACKAGE-LEVEL VARIABLES READ AS WHEN THE CALL BEGINS. Each datum BY PROGRAM (the guide's laid-datum.mjs) off the statement by which the dump's own 'gosem.cut.vars' lays the variable. In a bare row this is a premise. The card (YtlogcealmiokkaaGreatDoorCards.lean) ties it to the program's text. -/
def laid_coney_ops_table {H : Type} : DataW H := .agg [.agg [.lit (.string [58, 45]), .lit (.string [120, 102, 120]), .lit (.int .i64 1200)], .agg [.lit (.string [58, 45]), .lit (.string [102, 120]), .lit (.int .i64 1200)], .agg [.lit (.string [59]), .lit (.string [120, 102, 121]), .lit (.int .i64 1100)], .agg [.lit (.string [45, 62]), .lit (.string [120, 102, 121]), .lit (.int .i64 1050)], .agg [.lit (.string [44]), .lit (.string [120, 102, 121]), .lit (.int .i64 1000)], .agg [.lit (.string [92, 43]), .lit (.string [102, 121]), .lit (.int .i64 900)], .agg [.lit (.string [35, 60, 61, 62]), .lit (.string [120, 102, 120]), .lit (.int .i64 760)], .agg [.lit (.string [61]), .lit (.string [120, 102, 120]), .lit (.int .i64 700)], .agg [.lit (.string [92, 61]), .lit (.string [120, 102, 120]), .lit (.int .i64 700)], .agg [.lit (.string [61, 61]), .lit (.string [120, 102, 120]), .lit (.int .i64 700)], .agg [.lit (.string [92, 61, 61]), .lit (.string [120, 102, 120]), .lit (.int .i64 700)], .agg [.lit (.string [64, 60]), .lit (.string [120, 102, 120]), .lit (.int .i64 700)], .agg [.lit (.string [64, 62]), .lit (.string [120, 102, 120]), .lit (.int .i64 700)], .agg [.lit (.string [64, 61, 60]), .lit (.string [120, 102, 120]), .lit (.int .i64 700)], .agg [.lit (.string [64, 62, 61]), .lit (.string [120, 102, 120]), .lit (.int .i64 700)], .agg [.lit (.string [105, 115]), .lit (.string [120, 102, 120]), .lit (.int .i64 700)], .agg [.lit (.string [61, 58, 61]), .lit (.string [120, 102, 120]), .lit (.int .i64 700)], .agg [.lit (.string [61, 92, 61]), .lit (.string [120, 102, 120]), .lit (.int .i64 700)], .agg [.lit (.string [60]), .lit (.string [120, 102, 120]), .lit (.int .i64 700)], .agg [.lit (.string [62]), .lit (.string [120, 102, 120]), .lit (.int .i64 700)], .agg [.lit (.string [61, 60]), .lit (.string [120, 102, 120]), .lit (.int .i64 700)], .agg [.lit (.string [62, 61]), .lit (.string [120, 102, 120]), .lit (.int .i64 700)], .agg [.lit (.string [61, 46, 46]), .lit (.string [120, 102, 120]), .lit (.int .i64 700)], .agg [.lit (.string [35, 61]), .lit (.string [120, 102, 120]), .lit (.int .i64 700)], .agg [.lit (.string [35, 92, 61]), .lit (.string [120, 102, 120]), .lit (.int .i64 700)], .agg [.lit (.string [35, 60]), .lit (.string [120, 102, 120]), .lit (.int .i64 700)], .agg [.lit (.string [35, 62]), .lit (.string [120, 102, 120]), .lit (.int .i64 700)], .agg [.lit (.string [35, 61, 60]), .lit (.string [120, 102, 120]), .lit (.int .i64 700)], .agg [.lit (.string [35, 62, 61]), .lit (.string [120, 102, 120]), .lit (.int .i64 700)], .agg [.lit (.string [105, 110]), .lit (.string [120, 102, 120]), .lit (.int .i64 700)], .agg [.lit (.string [92, 47]), .lit (.string [121, 102, 120]), .lit (.int .i64 550)], .agg [.lit (.string [46, 46]), .lit (.string [120, 102, 120]), .lit (.int .i64 450)], .agg [.lit (.string [43]), .lit (.string [121, 102, 120]), .lit (.int .i64 500)], .agg [.lit (.string [45]), .lit (.string [121, 102, 120]), .lit (.int .i64 500)], .agg [.lit (.string [43]), .lit (.string [102, 121]), .lit (.int .i64 200)], .agg [.lit (.string [45]), .lit (.string [102, 121]), .lit (.int .i64 200)], .agg [.lit (.string [42]), .lit (.string [121, 102, 120]), .lit (.int .i64 400)], .agg [.lit (.string [47, 47]), .lit (.string [121, 102, 120]), .lit (.int .i64 400)], .agg [.lit (.string [114, 101, 109]), .lit (.string [121, 102, 120]), .lit (.int .i64 400)], .agg [.lit (.string [109, 111, 100]), .lit (.string [121, 102, 120]), .lit (.int .i64 400)], .agg [.lit (.string [100, 105, 118]), .lit (.string [121, 102, 120]), .lit (.int .i64 400)], .agg [.lit (.string [94]), .lit (.string [120, 102, 121]), .lit (.int .i64 200)]]
def laid_math_bits_deBruijn32tab {H : Type} : DataW H := .agg [.lit (.int .u8 0), .lit (.int .u8 1), .lit (.int .u8 28), .lit (.int .u8 2), .lit (.int .u8 29), .lit (.int .u8 14), .lit (.int .u8 24), .lit (.int .u8 3), .lit (.int .u8 30), .lit (.int .u8 22), .lit (.int .u8 20), .lit (.int .u8 15), .lit (.int .u8 25), .lit (.int .u8 17), .lit (.int .u8 4), .lit (.int .u8 8), .lit (.int .u8 31), .lit (.int .u8 27), .lit (.int .u8 13), .lit (.int .u8 23), .lit (.int .u8 21), .lit (.int .u8 19), .lit (.int .u8 16), .lit (.int .u8 7), .lit (.int .u8 26), .lit (.int .u8 12), .lit (.int .u8 18), .lit (.int .u8 6), .lit (.int .u8 11), .lit (.int .u8 5), .lit (.int .u8 10), .lit (.int .u8 9)]
def laid_math_bits_deBruijn64tab {H : Type} : DataW H := .agg [.lit (.int .u8 0), .lit (.int .u8 1), .lit (.int .u8 56), .lit (.int .u8 2), .lit (.int .u8 57), .lit (.int .u8 49), .lit (.int .u8 28), .lit (.int .u8 3), .lit (.int .u8 61), .lit (.int .u8 58), .lit (.int .u8 42), .lit (.int .u8 50), .lit (.int .u8 38), .lit (.int .u8 29), .lit (.int .u8 17), .lit (.int .u8 4), .lit (.int .u8 62), .lit (.int .u8 47), .lit (.int .u8 59), .lit (.int .u8 36), .lit (.int .u8 45), .lit (.int .u8 43), .lit (.int .u8 51), .lit (.int .u8 22), .lit (.int .u8 53), .lit (.int .u8 39), .lit (.int .u8 33), .lit (.int .u8 30), .lit (.int .u8 24), .lit (.int .u8 18), .lit (.int .u8 12), .lit (.int .u8 5), .lit (.int .u8 63), .lit (.int .u8 55), .lit (.int .u8 48), .lit (.int .u8 27), .lit (.int .u8 60), .lit (.int .u8 41), .lit (.int .u8 37), .lit (.int .u8 16), .lit (.int .u8 46), .lit (.int .u8 35), .lit (.int .u8 44), .lit (.int .u8 21), .lit (.int .u8 52), .lit (.int .u8 32), .lit (.int .u8 23), .lit (.int .u8 11), .lit (.int .u8 54), .lit (.int .u8 26), .lit (.int .u8 40), .lit (.int .u8 15), .lit (.int .u8 34), .lit (.int .u8 20), .lit (.int .u8 31), .lit (.int .u8 10), .lit (.int .u8 25), .lit (.int .u8 14), .lit (.int .u8 19), .lit (.int .u8 9), .lit (.int .u8 13), .lit (.int .u8 8), .lit (.int .u8 7), .lit (.int .u8 6)]
def laid_internal_strconv_uint64pow10 {H : Type} : DataW H := .agg [.lit (.int .u64 1), .lit (.int .u64 10), .lit (.int .u64 100), .lit (.int .u64 1000), .lit (.int .u64 10000), .lit (.int .u64 100000), .lit (.int .u64 1000000), .lit (.int .u64 10000000), .lit (.int .u64 100000000), .lit (.int .u64 1000000000), .lit (.int .u64 10000000000), .lit (.int .u64 100000000000), .lit (.int .u64 1000000000000), .lit (.int .u64 10000000000000), .lit (.int .u64 100000000000000), .lit (.int .u64 1000000000000000), .lit (.int .u64 10000000000000000), .lit (.int .u64 100000000000000000), .lit (.int .u64 1000000000000000000), .lit (.int .u64 10000000000000000000)]
def laid_unicode_utf8_acceptRanges {H : Type} : DataW H := .agg [.agg [.lit (.int .u8 128), .lit (.int .u8 191)], .agg [.lit (.int .u8 160), .lit (.int .u8 191)], .agg [.lit (.int .u8 128), .lit (.int .u8 159)], .agg [.lit (.int .u8 144), .lit (.int .u8 191)], .agg [.lit (.int .u8 128), .lit (.int .u8 143)], .agg [.lit (.int .u8 0), .lit (.int .u8 0)], .agg [.lit (.int .u8 0), .lit (.int .u8 0)], .agg [.lit (.int .u8 0), .lit (.int .u8 0)], .agg [.lit (.int .u8 0), .lit (.int .u8 0)], .agg [.lit (.int .u8 0), .lit (.int .u8 0)], .agg [.lit (.int .u8 0), .lit (.int .u8 0)], .agg [.lit (.int .u8 0), .lit (.int .u8 0)], .agg [.lit (.int .u8 0), .lit (.int .u8 0)], .agg [.lit (.int .u8 0), .lit (.int .u8 0)], .agg [.lit (.int .u8 0), .lit (.int .u8 0)], .agg [.lit (.int .u8 0), .lit (.int .u8 0)]]
def laid_strconv_ErrRange {H : Type} : DataW H := .iface "*errors.errorString" (.ptr (.agg [.lit (.string [118, 97, 108, 117, 101, 32, 111, 117, 116, 32, 111, 102, 32, 114, 97, 110, 103, 101])]))
def laid_strconv_ErrSyntax {H : Type} : DataW H := .iface "*errors.errorString" (.ptr (.agg [.lit (.string [105, 110, 118, 97, 108, 105, 100, 32, 115, 121, 110, 116, 97, 120])]))
/-- One of Go's own tables, pinned by name: the form's constant. -/
def laid_unicode_utf8_first : DataW Unit := Go.Pinned.utf8First

/-- 'coneylaw05.ReadJoined': WHATEVER THE INPUT: true; the input reads as it did. -/
def readJoinedSpec : ChangeSpec := { name := "readJoined", fn := fun _ => fun
  | [d1, d2] => { results := [.lit (.bool true)], args := [d1, d2] }
  | _ => none }
def readJoinedRow : OpenClaim := { program := "ytlogcealmiokkaagreatdoor", sum := "19b45d87766a89d51bc7c102b0785d1afe7fc0c40bb4adebb3ad8a21076cefc0", func := "coney/coneylaw05.ReadJoined", spec := "readJoined", inPlace := ["internal/bytealg.IndexByteString", "internal/bytealg.IndexString", "internal/abi.NoEscape"], unfollowed := true, recurses := true, named := ["internal/bytealg.MaxLen", "unicode/utf8.first", "unicode/utf8.acceptRanges", "strconv.ErrSyntax", "strconv.ErrRange", "internal/strconv.uint64pow10", "math/bits.deBruijn32tab", "math/bits.deBruijn64tab", "coney/ops.table"], apart := false, laid := [("coney/ops.table", laid_coney_ops_table), ("math/bits.deBruijn32tab", laid_math_bits_deBruijn32tab), ("math/bits.deBruijn64tab", laid_math_bits_deBruijn64tab), ("internal/strconv.uint64pow10", laid_internal_strconv_uint64pow10), ("unicode/utf8.acceptRanges", laid_unicode_utf8_acceptRanges), ("strconv.ErrRange", laid_strconv_ErrRange), ("strconv.ErrSyntax", laid_strconv_ErrSyntax), ("unicode/utf8.first", laid_unicode_utf8_first)] }
def ReadJoinedSaid : Prop := readJoinedRow.holds Tryz.pinned (OpenSpec.ofChange readJoinedSpec)

/-- ITS FALSE NEIGHBOUR: 'it returns false'. Refute it at one input. -/
def readJoinedWrong : ChangeSpec := { name := "readJoined", fn := fun _ => fun
  | [d1, d2] => { results := [.lit (.bool false)], args := [d1, d2] }
  | _ => none }
def ReadJoinedWrongFalsely : Prop := readJoinedRow.holds Tryz.pinned (OpenSpec.ofChange readJoinedWrong)

/-- 'coneylaw05.ReadNames': WHATEVER THE INPUT: true; the input reads as it did. -/
def readNamesSpec : ChangeSpec := { name := "readNames", fn := fun _ => fun
  | [d] => { results := [.lit (.bool true)], args := [d] }
  | _ => none }
def readNamesRow : OpenClaim := { program := "ytlogcealmiokkaagreatdoor", sum := "19b45d87766a89d51bc7c102b0785d1afe7fc0c40bb4adebb3ad8a21076cefc0", func := "coney/coneylaw05.ReadNames", spec := "readNames", inPlace := ["internal/bytealg.IndexByteString", "internal/bytealg.IndexString", "internal/abi.NoEscape"], unfollowed := true, recurses := true, named := ["internal/bytealg.MaxLen", "unicode/utf8.first", "unicode/utf8.acceptRanges", "strconv.ErrSyntax", "strconv.ErrRange", "internal/strconv.uint64pow10", "math/bits.deBruijn32tab", "math/bits.deBruijn64tab", "coney/ops.table"], apart := false, laid := [("coney/ops.table", laid_coney_ops_table), ("math/bits.deBruijn32tab", laid_math_bits_deBruijn32tab), ("math/bits.deBruijn64tab", laid_math_bits_deBruijn64tab), ("internal/strconv.uint64pow10", laid_internal_strconv_uint64pow10), ("unicode/utf8.acceptRanges", laid_unicode_utf8_acceptRanges), ("strconv.ErrRange", laid_strconv_ErrRange), ("strconv.ErrSyntax", laid_strconv_ErrSyntax), ("unicode/utf8.first", laid_unicode_utf8_first)] }
def ReadNamesSaid : Prop := readNamesRow.holds Tryz.pinned (OpenSpec.ofChange readNamesSpec)

/-- ITS FALSE NEIGHBOUR: 'it returns false'. Refute it at one input. -/
def readNamesWrong : ChangeSpec := { name := "readNames", fn := fun _ => fun
  | [d] => { results := [.lit (.bool false)], args := [d] }
  | _ => none }
def ReadNamesWrongFalsely : Prop := readNamesRow.holds Tryz.pinned (OpenSpec.ofChange readNamesWrong)

/-- 'coneylaw05.ReadOperators': WHATEVER THE INPUT: true; the input reads as it did. -/
def readOperatorsSpec : ChangeSpec := { name := "readOperators", fn := fun _ => fun
  | [d1, d2] => { results := [.lit (.bool true)], args := [d1, d2] }
  | _ => none }
def readOperatorsRow : OpenClaim := { program := "ytlogcealmiokkaagreatdoor", sum := "19b45d87766a89d51bc7c102b0785d1afe7fc0c40bb4adebb3ad8a21076cefc0", func := "coney/coneylaw05.ReadOperators", spec := "readOperators", inPlace := ["internal/bytealg.IndexByteString", "internal/bytealg.IndexString", "internal/abi.NoEscape"], unfollowed := true, recurses := true, named := ["internal/bytealg.MaxLen", "unicode/utf8.first", "unicode/utf8.acceptRanges", "strconv.ErrSyntax", "strconv.ErrRange", "internal/strconv.uint64pow10", "math/bits.deBruijn32tab", "math/bits.deBruijn64tab", "coney/ops.table"], apart := false, laid := [("coney/ops.table", laid_coney_ops_table), ("math/bits.deBruijn32tab", laid_math_bits_deBruijn32tab), ("math/bits.deBruijn64tab", laid_math_bits_deBruijn64tab), ("internal/strconv.uint64pow10", laid_internal_strconv_uint64pow10), ("unicode/utf8.acceptRanges", laid_unicode_utf8_acceptRanges), ("strconv.ErrRange", laid_strconv_ErrRange), ("strconv.ErrSyntax", laid_strconv_ErrSyntax), ("unicode/utf8.first", laid_unicode_utf8_first)] }
def ReadOperatorsSaid : Prop := readOperatorsRow.holds Tryz.pinned (OpenSpec.ofChange readOperatorsSpec)

/-- ITS FALSE NEIGHBOUR: 'it returns false'. Refute it at one input. -/
def readOperatorsWrong : ChangeSpec := { name := "readOperators", fn := fun _ => fun
  | [d1, d2] => { results := [.lit (.bool false)], args := [d1, d2] }
  | _ => none }
def ReadOperatorsWrongFalsely : Prop := readOperatorsRow.holds Tryz.pinned (OpenSpec.ofChange readOperatorsWrong)

/-- 'coneylaw05.ReadLists': WHATEVER THE INPUT: true; the input reads as it did. -/
def readListsSpec : ChangeSpec := { name := "readLists", fn := fun _ => fun
  | [d1, d2] => { results := [.lit (.bool true)], args := [d1, d2] }
  | _ => none }
def readListsRow : OpenClaim := { program := "ytlogcealmiokkaagreatdoor", sum := "19b45d87766a89d51bc7c102b0785d1afe7fc0c40bb4adebb3ad8a21076cefc0", func := "coney/coneylaw05.ReadLists", spec := "readLists", inPlace := ["internal/bytealg.IndexByteString", "internal/bytealg.IndexString", "internal/abi.NoEscape"], unfollowed := true, recurses := true, named := ["internal/bytealg.MaxLen", "unicode/utf8.first", "unicode/utf8.acceptRanges", "strconv.ErrSyntax", "strconv.ErrRange", "internal/strconv.uint64pow10", "math/bits.deBruijn32tab", "math/bits.deBruijn64tab", "coney/ops.table"], apart := false, laid := [("coney/ops.table", laid_coney_ops_table), ("math/bits.deBruijn32tab", laid_math_bits_deBruijn32tab), ("math/bits.deBruijn64tab", laid_math_bits_deBruijn64tab), ("internal/strconv.uint64pow10", laid_internal_strconv_uint64pow10), ("unicode/utf8.acceptRanges", laid_unicode_utf8_acceptRanges), ("strconv.ErrRange", laid_strconv_ErrRange), ("strconv.ErrSyntax", laid_strconv_ErrSyntax), ("unicode/utf8.first", laid_unicode_utf8_first)] }
def ReadListsSaid : Prop := readListsRow.holds Tryz.pinned (OpenSpec.ofChange readListsSpec)

/-- ITS FALSE NEIGHBOUR: 'it returns false'. Refute it at one input. -/
def readListsWrong : ChangeSpec := { name := "readLists", fn := fun _ => fun
  | [d1, d2] => { results := [.lit (.bool false)], args := [d1, d2] }
  | _ => none }
def ReadListsWrongFalsely : Prop := readListsRow.holds Tryz.pinned (OpenSpec.ofChange readListsWrong)

/-- 'coneylaw05.ReadNumbers': WHATEVER THE INPUT: true; the input reads as it did. -/
def readNumbersSpec : ChangeSpec := { name := "readNumbers", fn := fun _ => fun
  | [d] => { results := [.lit (.bool true)], args := [d] }
  | _ => none }
def readNumbersRow : OpenClaim := { program := "ytlogcealmiokkaagreatdoor", sum := "19b45d87766a89d51bc7c102b0785d1afe7fc0c40bb4adebb3ad8a21076cefc0", func := "coney/coneylaw05.ReadNumbers", spec := "readNumbers", inPlace := ["internal/bytealg.IndexByteString", "internal/bytealg.IndexString", "internal/abi.NoEscape"], unfollowed := true, recurses := true, named := ["internal/bytealg.MaxLen", "unicode/utf8.first", "unicode/utf8.acceptRanges", "strconv.ErrSyntax", "strconv.ErrRange", "internal/strconv.uint64pow10", "math/bits.deBruijn32tab", "math/bits.deBruijn64tab", "coney/ops.table"], apart := false, laid := [("coney/ops.table", laid_coney_ops_table), ("math/bits.deBruijn32tab", laid_math_bits_deBruijn32tab), ("math/bits.deBruijn64tab", laid_math_bits_deBruijn64tab), ("internal/strconv.uint64pow10", laid_internal_strconv_uint64pow10), ("unicode/utf8.acceptRanges", laid_unicode_utf8_acceptRanges), ("strconv.ErrRange", laid_strconv_ErrRange), ("strconv.ErrSyntax", laid_strconv_ErrSyntax), ("unicode/utf8.first", laid_unicode_utf8_first)] }
def ReadNumbersSaid : Prop := readNumbersRow.holds Tryz.pinned (OpenSpec.ofChange readNumbersSpec)

/-- ITS FALSE NEIGHBOUR: 'it returns false'. Refute it at one input. -/
def readNumbersWrong : ChangeSpec := { name := "readNumbers", fn := fun _ => fun
  | [d] => { results := [.lit (.bool false)], args := [d] }
  | _ => none }
def ReadNumbersWrongFalsely : Prop := readNumbersRow.holds Tryz.pinned (OpenSpec.ofChange readNumbersWrong)

/-- 'coneylaw05.ReadBrackets': WHATEVER THE INPUT: true; the input reads as it did. -/
def readBracketsSpec : ChangeSpec := { name := "readBrackets", fn := fun _ => fun
  | [d] => { results := [.lit (.bool true)], args := [d] }
  | _ => none }
def readBracketsRow : OpenClaim := { program := "ytlogcealmiokkaagreatdoor", sum := "19b45d87766a89d51bc7c102b0785d1afe7fc0c40bb4adebb3ad8a21076cefc0", func := "coney/coneylaw05.ReadBrackets", spec := "readBrackets", inPlace := ["internal/bytealg.IndexByteString", "internal/bytealg.IndexString", "internal/abi.NoEscape"], unfollowed := true, recurses := true, named := ["internal/bytealg.MaxLen", "unicode/utf8.first", "unicode/utf8.acceptRanges", "strconv.ErrSyntax", "strconv.ErrRange", "internal/strconv.uint64pow10", "math/bits.deBruijn32tab", "math/bits.deBruijn64tab", "coney/ops.table"], apart := false, laid := [("coney/ops.table", laid_coney_ops_table), ("math/bits.deBruijn32tab", laid_math_bits_deBruijn32tab), ("math/bits.deBruijn64tab", laid_math_bits_deBruijn64tab), ("internal/strconv.uint64pow10", laid_internal_strconv_uint64pow10), ("unicode/utf8.acceptRanges", laid_unicode_utf8_acceptRanges), ("strconv.ErrRange", laid_strconv_ErrRange), ("strconv.ErrSyntax", laid_strconv_ErrSyntax), ("unicode/utf8.first", laid_unicode_utf8_first)] }
def ReadBracketsSaid : Prop := readBracketsRow.holds Tryz.pinned (OpenSpec.ofChange readBracketsSpec)

/-- ITS FALSE NEIGHBOUR: 'it returns false'. Refute it at one input. -/
def readBracketsWrong : ChangeSpec := { name := "readBrackets", fn := fun _ => fun
  | [d] => { results := [.lit (.bool false)], args := [d] }
  | _ => none }
def ReadBracketsWrongFalsely : Prop := readBracketsRow.holds Tryz.pinned (OpenSpec.ofChange readBracketsWrong)

/- THE SECOND FORM. 'bulk': how many values and letters a reading holds, each counted each time it is reached (what is shared counts as often as it is met; a slice's spare places count too). A statement '..UptoSaid' is the law's where the arguments, and the package variables that the reading takes, are together of bulk at most 1048576: NARROWER than '..Said'. Prove '..Said' where nothing that the law and all that it calls make is longer than what came in: it says more and counts as full. Else prove '..UptoSaid'. A law counts once. -/
mutual
def uptoBulk {H : Type} : DataW H → Nat
  | .lit (.string bytes) => bytes.length + 1
  | .lit _ => 1
  | .nil => 1
  | .ptr d => uptoBulk d + 1
  | .slice elems spare => uptoBulkAll elems + uptoBulkAll spare + 1
  | .agg parts => uptoBulkAll parts + 1
  | .iface _ d => uptoBulk d + 1
  | .map entries => uptoBulkEntries entries + 1
  | .held _ => 1
def uptoBulkAll {H : Type} : List (DataW H) → Nat
  | [] => 0
  | d :: r => uptoBulk d + uptoBulkAll r
def uptoBulkEntries {H : Type} : List (Lit × DataW H) → Nat
  | [] => 0
  | x :: r => uptoBulkEntry x + uptoBulkEntries r
def uptoBulkEntry {H : Type} : Lit × DataW H → Nat
  | (.string bytes, d) => bytes.length + uptoBulk d + 1
  | (_, d) => uptoBulk d + 1
 end
def uptoSmall : (H : Type) → List (DataW H) → Bool := fun _ ds => decide (uptoBulkAll ds ≤ 1048576)
def OpenSpec.upto (s : _root_.Go.ChangeSpec) : _root_.Go.OpenSpec := { _root_.Go.OpenSpec.ofChange s with cond := some uptoSmall }

/-- 'coneylaw05.ReadJoined', WHERE WHAT IT READS IS OF BULK AT MOST 1048576: true; the input reads as it did. -/
def readJoinedUptoRow : OpenClaim := { program := "ytlogcealmiokkaagreatdoor", sum := "19b45d87766a89d51bc7c102b0785d1afe7fc0c40bb4adebb3ad8a21076cefc0", func := "coney/coneylaw05.ReadJoined", spec := "readJoined", inPlace := ["internal/bytealg.IndexByteString", "internal/bytealg.IndexString", "internal/abi.NoEscape"], unfollowed := true, recurses := true, named := ["internal/bytealg.MaxLen", "unicode/utf8.first", "unicode/utf8.acceptRanges", "strconv.ErrSyntax", "strconv.ErrRange", "internal/strconv.uint64pow10", "math/bits.deBruijn32tab", "math/bits.deBruijn64tab", "coney/ops.table"], apart := false, laid := [("coney/ops.table", laid_coney_ops_table), ("math/bits.deBruijn32tab", laid_math_bits_deBruijn32tab), ("math/bits.deBruijn64tab", laid_math_bits_deBruijn64tab), ("internal/strconv.uint64pow10", laid_internal_strconv_uint64pow10), ("unicode/utf8.acceptRanges", laid_unicode_utf8_acceptRanges), ("strconv.ErrRange", laid_strconv_ErrRange), ("strconv.ErrSyntax", laid_strconv_ErrSyntax), ("unicode/utf8.first", laid_unicode_utf8_first)], narrowed := true }
def ReadJoinedUptoSaid : Prop := readJoinedUptoRow.holds Tryz.pinned (OpenSpec.upto readJoinedSpec)

/-- 'coneylaw05.ReadNames', WHERE WHAT IT READS IS OF BULK AT MOST 1048576: true; the input reads as it did. -/
def readNamesUptoRow : OpenClaim := { program := "ytlogcealmiokkaagreatdoor", sum := "19b45d87766a89d51bc7c102b0785d1afe7fc0c40bb4adebb3ad8a21076cefc0", func := "coney/coneylaw05.ReadNames", spec := "readNames", inPlace := ["internal/bytealg.IndexByteString", "internal/bytealg.IndexString", "internal/abi.NoEscape"], unfollowed := true, recurses := true, named := ["internal/bytealg.MaxLen", "unicode/utf8.first", "unicode/utf8.acceptRanges", "strconv.ErrSyntax", "strconv.ErrRange", "internal/strconv.uint64pow10", "math/bits.deBruijn32tab", "math/bits.deBruijn64tab", "coney/ops.table"], apart := false, laid := [("coney/ops.table", laid_coney_ops_table), ("math/bits.deBruijn32tab", laid_math_bits_deBruijn32tab), ("math/bits.deBruijn64tab", laid_math_bits_deBruijn64tab), ("internal/strconv.uint64pow10", laid_internal_strconv_uint64pow10), ("unicode/utf8.acceptRanges", laid_unicode_utf8_acceptRanges), ("strconv.ErrRange", laid_strconv_ErrRange), ("strconv.ErrSyntax", laid_strconv_ErrSyntax), ("unicode/utf8.first", laid_unicode_utf8_first)], narrowed := true }
def ReadNamesUptoSaid : Prop := readNamesUptoRow.holds Tryz.pinned (OpenSpec.upto readNamesSpec)

/-- 'coneylaw05.ReadOperators', WHERE WHAT IT READS IS OF BULK AT MOST 1048576: true; the input reads as it did. -/
def readOperatorsUptoRow : OpenClaim := { program := "ytlogcealmiokkaagreatdoor", sum := "19b45d87766a89d51bc7c102b0785d1afe7fc0c40bb4adebb3ad8a21076cefc0", func := "coney/coneylaw05.ReadOperators", spec := "readOperators", inPlace := ["internal/bytealg.IndexByteString", "internal/bytealg.IndexString", "internal/abi.NoEscape"], unfollowed := true, recurses := true, named := ["internal/bytealg.MaxLen", "unicode/utf8.first", "unicode/utf8.acceptRanges", "strconv.ErrSyntax", "strconv.ErrRange", "internal/strconv.uint64pow10", "math/bits.deBruijn32tab", "math/bits.deBruijn64tab", "coney/ops.table"], apart := false, laid := [("coney/ops.table", laid_coney_ops_table), ("math/bits.deBruijn32tab", laid_math_bits_deBruijn32tab), ("math/bits.deBruijn64tab", laid_math_bits_deBruijn64tab), ("internal/strconv.uint64pow10", laid_internal_strconv_uint64pow10), ("unicode/utf8.acceptRanges", laid_unicode_utf8_acceptRanges), ("strconv.ErrRange", laid_strconv_ErrRange), ("strconv.ErrSyntax", laid_strconv_ErrSyntax), ("unicode/utf8.first", laid_unicode_utf8_first)], narrowed := true }
def ReadOperatorsUptoSaid : Prop := readOperatorsUptoRow.holds Tryz.pinned (OpenSpec.upto readOperatorsSpec)

/-- 'coneylaw05.ReadLists', WHERE WHAT IT READS IS OF BULK AT MOST 1048576: true; the input reads as it did. -/
def readListsUptoRow : OpenClaim := { program := "ytlogcealmiokkaagreatdoor", sum := "19b45d87766a89d51bc7c102b0785d1afe7fc0c40bb4adebb3ad8a21076cefc0", func := "coney/coneylaw05.ReadLists", spec := "readLists", inPlace := ["internal/bytealg.IndexByteString", "internal/bytealg.IndexString", "internal/abi.NoEscape"], unfollowed := true, recurses := true, named := ["internal/bytealg.MaxLen", "unicode/utf8.first", "unicode/utf8.acceptRanges", "strconv.ErrSyntax", "strconv.ErrRange", "internal/strconv.uint64pow10", "math/bits.deBruijn32tab", "math/bits.deBruijn64tab", "coney/ops.table"], apart := false, laid := [("coney/ops.table", laid_coney_ops_table), ("math/bits.deBruijn32tab", laid_math_bits_deBruijn32tab), ("math/bits.deBruijn64tab", laid_math_bits_deBruijn64tab), ("internal/strconv.uint64pow10", laid_internal_strconv_uint64pow10), ("unicode/utf8.acceptRanges", laid_unicode_utf8_acceptRanges), ("strconv.ErrRange", laid_strconv_ErrRange), ("strconv.ErrSyntax", laid_strconv_ErrSyntax), ("unicode/utf8.first", laid_unicode_utf8_first)], narrowed := true }
def ReadListsUptoSaid : Prop := readListsUptoRow.holds Tryz.pinned (OpenSpec.upto readListsSpec)

/-- 'coneylaw05.ReadNumbers', WHERE WHAT IT READS IS OF BULK AT MOST 1048576: true; the input reads as it did. -/
def readNumbersUptoRow : OpenClaim := { program := "ytlogcealmiokkaagreatdoor", sum := "19b45d87766a89d51bc7c102b0785d1afe7fc0c40bb4adebb3ad8a21076cefc0", func := "coney/coneylaw05.ReadNumbers", spec := "readNumbers", inPlace := ["internal/bytealg.IndexByteString", "internal/bytealg.IndexString", "internal/abi.NoEscape"], unfollowed := true, recurses := true, named := ["internal/bytealg.MaxLen", "unicode/utf8.first", "unicode/utf8.acceptRanges", "strconv.ErrSyntax", "strconv.ErrRange", "internal/strconv.uint64pow10", "math/bits.deBruijn32tab", "math/bits.deBruijn64tab", "coney/ops.table"], apart := false, laid := [("coney/ops.table", laid_coney_ops_table), ("math/bits.deBruijn32tab", laid_math_bits_deBruijn32tab), ("math/bits.deBruijn64tab", laid_math_bits_deBruijn64tab), ("internal/strconv.uint64pow10", laid_internal_strconv_uint64pow10), ("unicode/utf8.acceptRanges", laid_unicode_utf8_acceptRanges), ("strconv.ErrRange", laid_strconv_ErrRange), ("strconv.ErrSyntax", laid_strconv_ErrSyntax), ("unicode/utf8.first", laid_unicode_utf8_first)], narrowed := true }
def ReadNumbersUptoSaid : Prop := readNumbersUptoRow.holds Tryz.pinned (OpenSpec.upto readNumbersSpec)

/-- 'coneylaw05.ReadBrackets', WHERE WHAT IT READS IS OF BULK AT MOST 1048576: true; the input reads as it did. -/
def readBracketsUptoRow : OpenClaim := { program := "ytlogcealmiokkaagreatdoor", sum := "19b45d87766a89d51bc7c102b0785d1afe7fc0c40bb4adebb3ad8a21076cefc0", func := "coney/coneylaw05.ReadBrackets", spec := "readBrackets", inPlace := ["internal/bytealg.IndexByteString", "internal/bytealg.IndexString", "internal/abi.NoEscape"], unfollowed := true, recurses := true, named := ["internal/bytealg.MaxLen", "unicode/utf8.first", "unicode/utf8.acceptRanges", "strconv.ErrSyntax", "strconv.ErrRange", "internal/strconv.uint64pow10", "math/bits.deBruijn32tab", "math/bits.deBruijn64tab", "coney/ops.table"], apart := false, laid := [("coney/ops.table", laid_coney_ops_table), ("math/bits.deBruijn32tab", laid_math_bits_deBruijn32tab), ("math/bits.deBruijn64tab", laid_math_bits_deBruijn64tab), ("internal/strconv.uint64pow10", laid_internal_strconv_uint64pow10), ("unicode/utf8.acceptRanges", laid_unicode_utf8_acceptRanges), ("strconv.ErrRange", laid_strconv_ErrRange), ("strconv.ErrSyntax", laid_strconv_ErrSyntax), ("unicode/utf8.first", laid_unicode_utf8_first)], narrowed := true }
def ReadBracketsUptoSaid : Prop := readBracketsUptoRow.holds Tryz.pinned (OpenSpec.upto readBracketsSpec)

end Rows
end Go.Proofs.YtlogcealmiokkaaGreatDoor
