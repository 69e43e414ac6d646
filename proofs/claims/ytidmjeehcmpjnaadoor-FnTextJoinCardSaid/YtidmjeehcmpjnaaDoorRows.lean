/-
  NARROWER THAN 'FOR EVERY INPUT', by the rows' own cells (each row's printed sentence says how): FnExactReadProgram: laid · FnProgramText: laid · FnReadProgram: laid · FnExactCodeText: laid · FnCodePair: laid · FnExactProgramText: laid · FnTextJoin: laid · FnExactReadCode: laid · FnCodeText: laid · FnReadCode: laid.
  DERIVED. THE GIVEN ROWS OF THIS SEAT. 10 by the template 'for every input the law returns true; each argument reads behind the call as it read before'; 0 by the template 'total and deterministic' (their statements: YtidmjeehcmpjnaaDoorTotals.lean).
  GIVEN WITH THE SEED: the statements are not yours to turn. If you find one false, say at which input.
  Laid BY PROGRAM, IN A SANDBOX (cutbox-rows.mjs): the forced cells as the released guide's own fill.sh prints them over the translation e08cebf6eb3eb059… (all of the seat's roots in one cut). By AI agents, Wed Nov 11 2026. No macro, syntax, notation, axiom, sorry.
-/
import Derived.Test.YtidmjeehcmpjnaaDoorChecked
import GoSem.PinnedTables
import GoSem.Claim
import GoSem.ClaimJoined
import GoSem.ClaimMapViews
import Derived.JoinedTies
import Derived.KernelRfl
namespace Go.Proofs.YtidmjeehcmpjnaaDoor
/- THE CELL 'sum', in the pinned program and in every row, IS THE sha256 OF THE DUMP (.gsa) THAT YtidmjeehcmpjnaaDoorProg.lean LOADS. Nothing in Lean hashes anything: it is a label: what it is worth is what the hold of that sum in a sandbox is worth. -/
noncomputable def Tryd.pinned : Pinned := { name := "ytidmjeehcmpjnaadoor", sum := "e08cebf6eb3eb0590534238a8ccfc491897cd20a2b9f450da8323535fc1be44d", checked := Tryd.checked }
namespace Rows
def none {H : Type} : Left H := { results := [], args := [] }

/- WHAT THE LISTED PACKAGE-LEVEL VARIABLES READ AS WHEN THE CALL BEGINS. Each datum BY PROGRAM (the guide's laid-datum.mjs) off the statement by which the dump's own 'gosem.cut.vars' lays the variable. In a bare row this is a premise. The card (YtidmjeehcmpjnaaDoorCards.lean) ties it to the program's text. -/
def laid_math_bits_deBruijn32tab {H : Type} : DataW H := .agg [.lit (.int .u8 0), .lit (.int .u8 1), .lit (.int .u8 28), .lit (.int .u8 2), .lit (.int .u8 29), .lit (.int .u8 14), .lit (.int .u8 24), .lit (.int .u8 3), .lit (.int .u8 30), .lit (.int .u8 22), .lit (.int .u8 20), .lit (.int .u8 15), .lit (.int .u8 25), .lit (.int .u8 17), .lit (.int .u8 4), .lit (.int .u8 8), .lit (.int .u8 31), .lit (.int .u8 27), .lit (.int .u8 13), .lit (.int .u8 23), .lit (.int .u8 21), .lit (.int .u8 19), .lit (.int .u8 16), .lit (.int .u8 7), .lit (.int .u8 26), .lit (.int .u8 12), .lit (.int .u8 18), .lit (.int .u8 6), .lit (.int .u8 11), .lit (.int .u8 5), .lit (.int .u8 10), .lit (.int .u8 9)]
def laid_math_bits_deBruijn64tab {H : Type} : DataW H := .agg [.lit (.int .u8 0), .lit (.int .u8 1), .lit (.int .u8 56), .lit (.int .u8 2), .lit (.int .u8 57), .lit (.int .u8 49), .lit (.int .u8 28), .lit (.int .u8 3), .lit (.int .u8 61), .lit (.int .u8 58), .lit (.int .u8 42), .lit (.int .u8 50), .lit (.int .u8 38), .lit (.int .u8 29), .lit (.int .u8 17), .lit (.int .u8 4), .lit (.int .u8 62), .lit (.int .u8 47), .lit (.int .u8 59), .lit (.int .u8 36), .lit (.int .u8 45), .lit (.int .u8 43), .lit (.int .u8 51), .lit (.int .u8 22), .lit (.int .u8 53), .lit (.int .u8 39), .lit (.int .u8 33), .lit (.int .u8 30), .lit (.int .u8 24), .lit (.int .u8 18), .lit (.int .u8 12), .lit (.int .u8 5), .lit (.int .u8 63), .lit (.int .u8 55), .lit (.int .u8 48), .lit (.int .u8 27), .lit (.int .u8 60), .lit (.int .u8 41), .lit (.int .u8 37), .lit (.int .u8 16), .lit (.int .u8 46), .lit (.int .u8 35), .lit (.int .u8 44), .lit (.int .u8 21), .lit (.int .u8 52), .lit (.int .u8 32), .lit (.int .u8 23), .lit (.int .u8 11), .lit (.int .u8 54), .lit (.int .u8 26), .lit (.int .u8 40), .lit (.int .u8 15), .lit (.int .u8 34), .lit (.int .u8 20), .lit (.int .u8 31), .lit (.int .u8 10), .lit (.int .u8 25), .lit (.int .u8 14), .lit (.int .u8 19), .lit (.int .u8 9), .lit (.int .u8 13), .lit (.int .u8 8), .lit (.int .u8 7), .lit (.int .u8 6)]
def laid_internal_strconv_uint64pow10 {H : Type} : DataW H := .agg [.lit (.int .u64 1), .lit (.int .u64 10), .lit (.int .u64 100), .lit (.int .u64 1000), .lit (.int .u64 10000), .lit (.int .u64 100000), .lit (.int .u64 1000000), .lit (.int .u64 10000000), .lit (.int .u64 100000000), .lit (.int .u64 1000000000), .lit (.int .u64 10000000000), .lit (.int .u64 100000000000), .lit (.int .u64 1000000000000), .lit (.int .u64 10000000000000), .lit (.int .u64 100000000000000), .lit (.int .u64 1000000000000000), .lit (.int .u64 10000000000000000), .lit (.int .u64 100000000000000000), .lit (.int .u64 1000000000000000000), .lit (.int .u64 10000000000000000000)]
def laid_unicode_utf8_acceptRanges {H : Type} : DataW H := .agg [.agg [.lit (.int .u8 128), .lit (.int .u8 191)], .agg [.lit (.int .u8 160), .lit (.int .u8 191)], .agg [.lit (.int .u8 128), .lit (.int .u8 159)], .agg [.lit (.int .u8 144), .lit (.int .u8 191)], .agg [.lit (.int .u8 128), .lit (.int .u8 143)], .agg [.lit (.int .u8 0), .lit (.int .u8 0)], .agg [.lit (.int .u8 0), .lit (.int .u8 0)], .agg [.lit (.int .u8 0), .lit (.int .u8 0)], .agg [.lit (.int .u8 0), .lit (.int .u8 0)], .agg [.lit (.int .u8 0), .lit (.int .u8 0)], .agg [.lit (.int .u8 0), .lit (.int .u8 0)], .agg [.lit (.int .u8 0), .lit (.int .u8 0)], .agg [.lit (.int .u8 0), .lit (.int .u8 0)], .agg [.lit (.int .u8 0), .lit (.int .u8 0)], .agg [.lit (.int .u8 0), .lit (.int .u8 0)], .agg [.lit (.int .u8 0), .lit (.int .u8 0)]]
def laid_strconv_ErrRange {H : Type} : DataW H := .iface "*errors.errorString" (.ptr (.agg [.lit (.string [118, 97, 108, 117, 101, 32, 111, 117, 116, 32, 111, 102, 32, 114, 97, 110, 103, 101])]))
def laid_strconv_ErrSyntax {H : Type} : DataW H := .iface "*errors.errorString" (.ptr (.agg [.lit (.string [105, 110, 118, 97, 108, 105, 100, 32, 115, 121, 110, 116, 97, 120])]))
def laid_loop_example_lanekernel_impl_opNames {H : Type} : DataW H := .agg [.lit (.string []), .lit (.string [115, 101, 116]), .lit (.string [108, 97, 110, 101]), .lit (.string [97, 100, 100]), .lit (.string [109, 117, 108]), .lit (.string [109, 111, 118, 101]), .lit (.string [108, 101, 115, 115]), .lit (.string [112, 105, 99, 107]), .lit (.string [108, 111, 97, 100]), .lit (.string [115, 116, 111, 114, 101]), .lit (.string [98, 97, 114, 114, 105, 101, 114]), .lit (.string [105, 102]), .lit (.string [101, 108, 115, 101]), .lit (.string [108, 111, 111, 112]), .lit (.string [101, 110, 100])]
/-- One of Go's own tables, pinned by name: the form's constant. -/
def laid_unicode_utf8_first : DataW Unit := Go.Pinned.utf8First

/-- 'laws.FnExactReadProgram': WHATEVER THE INPUT: true; the input reads as it did. -/
def fnExactReadProgramSpec : ChangeSpec := { name := "fnExactReadProgram", vars := ["loop.example/lanekernel/impl.opNames"], fn := fun _ => fun
  | [d, g1] => { results := [.lit (.bool true)], args := [d], vars := [g1] }
  | _ => none }
def fnExactReadProgramRow : OpenClaim := { program := "ytidmjeehcmpjnaadoor", sum := "e08cebf6eb3eb0590534238a8ccfc491897cd20a2b9f450da8323535fc1be44d", func := "loop.example/lanekernel/laws.FnExactReadProgram", spec := "fnExactReadProgram", inPlace := ["internal/bytealg.CountString", "internal/bytealg.IndexByteString", "internal/bytealg.IndexString"], named := ["loop.example/lanekernel/impl.opNames", "unicode/utf8.first", "unicode/utf8.acceptRanges", "internal/bytealg.MaxLen", "strconv.ErrSyntax", "strconv.ErrRange", "internal/strconv.uint64pow10", "math/bits.deBruijn32tab", "math/bits.deBruijn64tab"], apart := false, laid := [("math/bits.deBruijn32tab", laid_math_bits_deBruijn32tab), ("math/bits.deBruijn64tab", laid_math_bits_deBruijn64tab), ("internal/strconv.uint64pow10", laid_internal_strconv_uint64pow10), ("unicode/utf8.acceptRanges", laid_unicode_utf8_acceptRanges), ("strconv.ErrRange", laid_strconv_ErrRange), ("strconv.ErrSyntax", laid_strconv_ErrSyntax), ("loop.example/lanekernel/impl.opNames", laid_loop_example_lanekernel_impl_opNames), ("unicode/utf8.first", laid_unicode_utf8_first)] }
def FnExactReadProgramSaid : Prop := fnExactReadProgramRow.holds Tryd.pinned (OpenSpec.ofChange fnExactReadProgramSpec)

/-- ITS FALSE NEIGHBOUR: 'it returns false'. Refute it at one input. -/
def fnExactReadProgramWrong : ChangeSpec := { name := "fnExactReadProgram", vars := ["loop.example/lanekernel/impl.opNames"], fn := fun _ => fun
  | [d, g1] => { results := [.lit (.bool false)], args := [d], vars := [g1] }
  | _ => none }
def FnExactReadProgramWrongFalsely : Prop := fnExactReadProgramRow.holds Tryd.pinned (OpenSpec.ofChange fnExactReadProgramWrong)

/-- 'laws.FnProgramText': WHATEVER THE INPUT: true; the input reads as it did. -/
def fnProgramTextSpec : ChangeSpec := { name := "fnProgramText", vars := ["loop.example/lanekernel/impl.opNames"], fn := fun _ => fun
  | [d, g1] => { results := [.lit (.bool true)], args := [d], vars := [g1] }
  | _ => none }
def fnProgramTextRow : OpenClaim := { program := "ytidmjeehcmpjnaadoor", sum := "e08cebf6eb3eb0590534238a8ccfc491897cd20a2b9f450da8323535fc1be44d", func := "loop.example/lanekernel/laws.FnProgramText", spec := "fnProgramText", inPlace := ["internal/bytealg.CountString", "internal/bytealg.IndexByteString", "internal/bytealg.IndexString"], recurses := true, named := ["loop.example/lanekernel/impl.opNames", "internal/strconv.uint64pow10", "math/bits.deBruijn32tab", "math/bits.deBruijn64tab", "unicode/utf8.first", "unicode/utf8.acceptRanges", "internal/bytealg.MaxLen", "strconv.ErrSyntax", "strconv.ErrRange"], apart := false, laid := [("math/bits.deBruijn32tab", laid_math_bits_deBruijn32tab), ("math/bits.deBruijn64tab", laid_math_bits_deBruijn64tab), ("internal/strconv.uint64pow10", laid_internal_strconv_uint64pow10), ("unicode/utf8.acceptRanges", laid_unicode_utf8_acceptRanges), ("strconv.ErrRange", laid_strconv_ErrRange), ("strconv.ErrSyntax", laid_strconv_ErrSyntax), ("loop.example/lanekernel/impl.opNames", laid_loop_example_lanekernel_impl_opNames), ("unicode/utf8.first", laid_unicode_utf8_first)] }
def FnProgramTextSaid : Prop := fnProgramTextRow.holds Tryd.pinned (OpenSpec.ofChange fnProgramTextSpec)

/-- ITS FALSE NEIGHBOUR: 'it returns false'. Refute it at one input. -/
def fnProgramTextWrong : ChangeSpec := { name := "fnProgramText", vars := ["loop.example/lanekernel/impl.opNames"], fn := fun _ => fun
  | [d, g1] => { results := [.lit (.bool false)], args := [d], vars := [g1] }
  | _ => none }
def FnProgramTextWrongFalsely : Prop := fnProgramTextRow.holds Tryd.pinned (OpenSpec.ofChange fnProgramTextWrong)

/-- 'laws.FnReadProgram': WHATEVER THE INPUT: true; the input reads as it did. -/
def fnReadProgramSpec : ChangeSpec := { name := "fnReadProgram", vars := ["loop.example/lanekernel/impl.opNames"], fn := fun _ => fun
  | [d, g1] => { results := [.lit (.bool true)], args := [d], vars := [g1] }
  | _ => none }
def fnReadProgramRow : OpenClaim := { program := "ytidmjeehcmpjnaadoor", sum := "e08cebf6eb3eb0590534238a8ccfc491897cd20a2b9f450da8323535fc1be44d", func := "loop.example/lanekernel/laws.FnReadProgram", spec := "fnReadProgram", inPlace := ["internal/bytealg.CountString", "internal/bytealg.IndexByteString", "internal/bytealg.IndexString"], recurses := true, named := ["loop.example/lanekernel/impl.opNames", "unicode/utf8.first", "unicode/utf8.acceptRanges", "internal/bytealg.MaxLen", "strconv.ErrSyntax", "strconv.ErrRange", "internal/strconv.uint64pow10", "math/bits.deBruijn32tab", "math/bits.deBruijn64tab"], apart := false, laid := [("math/bits.deBruijn32tab", laid_math_bits_deBruijn32tab), ("math/bits.deBruijn64tab", laid_math_bits_deBruijn64tab), ("internal/strconv.uint64pow10", laid_internal_strconv_uint64pow10), ("unicode/utf8.acceptRanges", laid_unicode_utf8_acceptRanges), ("strconv.ErrRange", laid_strconv_ErrRange), ("strconv.ErrSyntax", laid_strconv_ErrSyntax), ("loop.example/lanekernel/impl.opNames", laid_loop_example_lanekernel_impl_opNames), ("unicode/utf8.first", laid_unicode_utf8_first)] }
def FnReadProgramSaid : Prop := fnReadProgramRow.holds Tryd.pinned (OpenSpec.ofChange fnReadProgramSpec)

/-- ITS FALSE NEIGHBOUR: 'it returns false'. Refute it at one input. -/
def fnReadProgramWrong : ChangeSpec := { name := "fnReadProgram", vars := ["loop.example/lanekernel/impl.opNames"], fn := fun _ => fun
  | [d, g1] => { results := [.lit (.bool false)], args := [d], vars := [g1] }
  | _ => none }
def FnReadProgramWrongFalsely : Prop := fnReadProgramRow.holds Tryd.pinned (OpenSpec.ofChange fnReadProgramWrong)

/-- 'laws.FnExactCodeText': WHATEVER THE INPUT: true; the input reads as it did. -/
def fnExactCodeTextSpec : ChangeSpec := { name := "fnExactCodeText", vars := ["loop.example/lanekernel/impl.opNames"], fn := fun _ => fun
  | [d, g1] => { results := [.lit (.bool true)], args := [d], vars := [g1] }
  | _ => none }
def fnExactCodeTextRow : OpenClaim := { program := "ytidmjeehcmpjnaadoor", sum := "e08cebf6eb3eb0590534238a8ccfc491897cd20a2b9f450da8323535fc1be44d", func := "loop.example/lanekernel/laws.FnExactCodeText", spec := "fnExactCodeText", named := ["loop.example/lanekernel/impl.opNames", "internal/strconv.uint64pow10", "math/bits.deBruijn32tab", "math/bits.deBruijn64tab"], apart := false, laid := [("math/bits.deBruijn32tab", laid_math_bits_deBruijn32tab), ("math/bits.deBruijn64tab", laid_math_bits_deBruijn64tab), ("internal/strconv.uint64pow10", laid_internal_strconv_uint64pow10), ("loop.example/lanekernel/impl.opNames", laid_loop_example_lanekernel_impl_opNames)] }
def FnExactCodeTextSaid : Prop := fnExactCodeTextRow.holds Tryd.pinned (OpenSpec.ofChange fnExactCodeTextSpec)

/-- ITS FALSE NEIGHBOUR: 'it returns false'. Refute it at one input. -/
def fnExactCodeTextWrong : ChangeSpec := { name := "fnExactCodeText", vars := ["loop.example/lanekernel/impl.opNames"], fn := fun _ => fun
  | [d, g1] => { results := [.lit (.bool false)], args := [d], vars := [g1] }
  | _ => none }
def FnExactCodeTextWrongFalsely : Prop := fnExactCodeTextRow.holds Tryd.pinned (OpenSpec.ofChange fnExactCodeTextWrong)

/-- 'laws.FnCodePair': WHATEVER THE INPUT: true; the input reads as it did. -/
def fnCodePairSpec : ChangeSpec := { name := "fnCodePair", vars := ["loop.example/lanekernel/impl.opNames"], fn := fun _ => fun
  | [d1, d2, g1] => { results := [.lit (.bool true)], args := [d1, d2], vars := [g1] }
  | _ => none }
def fnCodePairRow : OpenClaim := { program := "ytidmjeehcmpjnaadoor", sum := "e08cebf6eb3eb0590534238a8ccfc491897cd20a2b9f450da8323535fc1be44d", func := "loop.example/lanekernel/laws.FnCodePair", spec := "fnCodePair", named := ["loop.example/lanekernel/impl.opNames", "internal/strconv.uint64pow10", "math/bits.deBruijn32tab", "math/bits.deBruijn64tab"], apart := false, laid := [("math/bits.deBruijn32tab", laid_math_bits_deBruijn32tab), ("math/bits.deBruijn64tab", laid_math_bits_deBruijn64tab), ("internal/strconv.uint64pow10", laid_internal_strconv_uint64pow10), ("loop.example/lanekernel/impl.opNames", laid_loop_example_lanekernel_impl_opNames)] }
def FnCodePairSaid : Prop := fnCodePairRow.holds Tryd.pinned (OpenSpec.ofChange fnCodePairSpec)

/-- ITS FALSE NEIGHBOUR: 'it returns false'. Refute it at one input. -/
def fnCodePairWrong : ChangeSpec := { name := "fnCodePair", vars := ["loop.example/lanekernel/impl.opNames"], fn := fun _ => fun
  | [d1, d2, g1] => { results := [.lit (.bool false)], args := [d1, d2], vars := [g1] }
  | _ => none }
def FnCodePairWrongFalsely : Prop := fnCodePairRow.holds Tryd.pinned (OpenSpec.ofChange fnCodePairWrong)

/-- 'laws.FnExactProgramText': WHATEVER THE INPUT: true; the input reads as it did. -/
def fnExactProgramTextSpec : ChangeSpec := { name := "fnExactProgramText", vars := ["loop.example/lanekernel/impl.opNames"], fn := fun _ => fun
  | [d, g1] => { results := [.lit (.bool true)], args := [d], vars := [g1] }
  | _ => none }
def fnExactProgramTextRow : OpenClaim := { program := "ytidmjeehcmpjnaadoor", sum := "e08cebf6eb3eb0590534238a8ccfc491897cd20a2b9f450da8323535fc1be44d", func := "loop.example/lanekernel/laws.FnExactProgramText", spec := "fnExactProgramText", named := ["loop.example/lanekernel/impl.opNames", "internal/strconv.uint64pow10", "math/bits.deBruijn32tab", "math/bits.deBruijn64tab"], apart := false, laid := [("math/bits.deBruijn32tab", laid_math_bits_deBruijn32tab), ("math/bits.deBruijn64tab", laid_math_bits_deBruijn64tab), ("internal/strconv.uint64pow10", laid_internal_strconv_uint64pow10), ("loop.example/lanekernel/impl.opNames", laid_loop_example_lanekernel_impl_opNames)] }
def FnExactProgramTextSaid : Prop := fnExactProgramTextRow.holds Tryd.pinned (OpenSpec.ofChange fnExactProgramTextSpec)

/-- ITS FALSE NEIGHBOUR: 'it returns false'. Refute it at one input. -/
def fnExactProgramTextWrong : ChangeSpec := { name := "fnExactProgramText", vars := ["loop.example/lanekernel/impl.opNames"], fn := fun _ => fun
  | [d, g1] => { results := [.lit (.bool false)], args := [d], vars := [g1] }
  | _ => none }
def FnExactProgramTextWrongFalsely : Prop := fnExactProgramTextRow.holds Tryd.pinned (OpenSpec.ofChange fnExactProgramTextWrong)

/-- 'laws.FnTextJoin': WHATEVER THE INPUT: true; the input reads as it did. -/
def fnTextJoinSpec : ChangeSpec := { name := "fnTextJoin", vars := ["loop.example/lanekernel/impl.opNames"], fn := fun _ => fun
  | [d1, d2, g1] => { results := [.lit (.bool true)], args := [d1, d2], vars := [g1] }
  | _ => none }
def fnTextJoinRow : OpenClaim := { program := "ytidmjeehcmpjnaadoor", sum := "e08cebf6eb3eb0590534238a8ccfc491897cd20a2b9f450da8323535fc1be44d", func := "loop.example/lanekernel/laws.FnTextJoin", spec := "fnTextJoin", recurses := true, named := ["loop.example/lanekernel/impl.opNames", "internal/strconv.uint64pow10", "math/bits.deBruijn32tab", "math/bits.deBruijn64tab"], apart := false, laid := [("math/bits.deBruijn32tab", laid_math_bits_deBruijn32tab), ("math/bits.deBruijn64tab", laid_math_bits_deBruijn64tab), ("internal/strconv.uint64pow10", laid_internal_strconv_uint64pow10), ("loop.example/lanekernel/impl.opNames", laid_loop_example_lanekernel_impl_opNames)] }
def FnTextJoinSaid : Prop := fnTextJoinRow.holds Tryd.pinned (OpenSpec.ofChange fnTextJoinSpec)

/-- ITS FALSE NEIGHBOUR: 'it returns false'. Refute it at one input. -/
def fnTextJoinWrong : ChangeSpec := { name := "fnTextJoin", vars := ["loop.example/lanekernel/impl.opNames"], fn := fun _ => fun
  | [d1, d2, g1] => { results := [.lit (.bool false)], args := [d1, d2], vars := [g1] }
  | _ => none }
def FnTextJoinWrongFalsely : Prop := fnTextJoinRow.holds Tryd.pinned (OpenSpec.ofChange fnTextJoinWrong)

/-- 'laws.FnExactReadCode': WHATEVER THE INPUT: true; the input reads as it did. -/
def fnExactReadCodeSpec : ChangeSpec := { name := "fnExactReadCode", vars := ["loop.example/lanekernel/impl.opNames"], fn := fun _ => fun
  | [d, g1] => { results := [.lit (.bool true)], args := [d], vars := [g1] }
  | _ => none }
def fnExactReadCodeRow : OpenClaim := { program := "ytidmjeehcmpjnaadoor", sum := "e08cebf6eb3eb0590534238a8ccfc491897cd20a2b9f450da8323535fc1be44d", func := "loop.example/lanekernel/laws.FnExactReadCode", spec := "fnExactReadCode", inPlace := ["internal/bytealg.CountString", "internal/bytealg.IndexByteString", "internal/bytealg.IndexString"], named := ["loop.example/lanekernel/impl.opNames", "unicode/utf8.first", "unicode/utf8.acceptRanges", "internal/bytealg.MaxLen", "strconv.ErrSyntax", "strconv.ErrRange", "internal/strconv.uint64pow10", "math/bits.deBruijn32tab", "math/bits.deBruijn64tab"], apart := false, laid := [("math/bits.deBruijn32tab", laid_math_bits_deBruijn32tab), ("math/bits.deBruijn64tab", laid_math_bits_deBruijn64tab), ("internal/strconv.uint64pow10", laid_internal_strconv_uint64pow10), ("unicode/utf8.acceptRanges", laid_unicode_utf8_acceptRanges), ("strconv.ErrRange", laid_strconv_ErrRange), ("strconv.ErrSyntax", laid_strconv_ErrSyntax), ("loop.example/lanekernel/impl.opNames", laid_loop_example_lanekernel_impl_opNames), ("unicode/utf8.first", laid_unicode_utf8_first)] }
def FnExactReadCodeSaid : Prop := fnExactReadCodeRow.holds Tryd.pinned (OpenSpec.ofChange fnExactReadCodeSpec)

/-- ITS FALSE NEIGHBOUR: 'it returns false'. Refute it at one input. -/
def fnExactReadCodeWrong : ChangeSpec := { name := "fnExactReadCode", vars := ["loop.example/lanekernel/impl.opNames"], fn := fun _ => fun
  | [d, g1] => { results := [.lit (.bool false)], args := [d], vars := [g1] }
  | _ => none }
def FnExactReadCodeWrongFalsely : Prop := fnExactReadCodeRow.holds Tryd.pinned (OpenSpec.ofChange fnExactReadCodeWrong)

/-- 'laws.FnCodeText': WHATEVER THE INPUT: true; the input reads as it did. -/
def fnCodeTextSpec : ChangeSpec := { name := "fnCodeText", vars := ["loop.example/lanekernel/impl.opNames"], fn := fun _ => fun
  | [d, g1] => { results := [.lit (.bool true)], args := [d], vars := [g1] }
  | _ => none }
def fnCodeTextRow : OpenClaim := { program := "ytidmjeehcmpjnaadoor", sum := "e08cebf6eb3eb0590534238a8ccfc491897cd20a2b9f450da8323535fc1be44d", func := "loop.example/lanekernel/laws.FnCodeText", spec := "fnCodeText", inPlace := ["internal/bytealg.CountString", "internal/bytealg.IndexByteString", "internal/bytealg.IndexString"], named := ["loop.example/lanekernel/impl.opNames", "internal/strconv.uint64pow10", "math/bits.deBruijn32tab", "math/bits.deBruijn64tab", "unicode/utf8.first", "unicode/utf8.acceptRanges", "internal/bytealg.MaxLen", "strconv.ErrSyntax", "strconv.ErrRange"], apart := false, laid := [("math/bits.deBruijn32tab", laid_math_bits_deBruijn32tab), ("math/bits.deBruijn64tab", laid_math_bits_deBruijn64tab), ("internal/strconv.uint64pow10", laid_internal_strconv_uint64pow10), ("unicode/utf8.acceptRanges", laid_unicode_utf8_acceptRanges), ("strconv.ErrRange", laid_strconv_ErrRange), ("strconv.ErrSyntax", laid_strconv_ErrSyntax), ("loop.example/lanekernel/impl.opNames", laid_loop_example_lanekernel_impl_opNames), ("unicode/utf8.first", laid_unicode_utf8_first)] }
def FnCodeTextSaid : Prop := fnCodeTextRow.holds Tryd.pinned (OpenSpec.ofChange fnCodeTextSpec)

/-- ITS FALSE NEIGHBOUR: 'it returns false'. Refute it at one input. -/
def fnCodeTextWrong : ChangeSpec := { name := "fnCodeText", vars := ["loop.example/lanekernel/impl.opNames"], fn := fun _ => fun
  | [d, g1] => { results := [.lit (.bool false)], args := [d], vars := [g1] }
  | _ => none }
def FnCodeTextWrongFalsely : Prop := fnCodeTextRow.holds Tryd.pinned (OpenSpec.ofChange fnCodeTextWrong)

/-- 'laws.FnReadCode': WHATEVER THE INPUT: true; the input reads as it did. -/
def fnReadCodeSpec : ChangeSpec := { name := "fnReadCode", vars := ["loop.example/lanekernel/impl.opNames"], fn := fun _ => fun
  | [d, g1] => { results := [.lit (.bool true)], args := [d], vars := [g1] }
  | _ => none }
def fnReadCodeRow : OpenClaim := { program := "ytidmjeehcmpjnaadoor", sum := "e08cebf6eb3eb0590534238a8ccfc491897cd20a2b9f450da8323535fc1be44d", func := "loop.example/lanekernel/laws.FnReadCode", spec := "fnReadCode", inPlace := ["internal/bytealg.CountString", "internal/bytealg.IndexByteString", "internal/bytealg.IndexString"], named := ["loop.example/lanekernel/impl.opNames", "unicode/utf8.first", "unicode/utf8.acceptRanges", "internal/bytealg.MaxLen", "strconv.ErrSyntax", "strconv.ErrRange", "internal/strconv.uint64pow10", "math/bits.deBruijn32tab", "math/bits.deBruijn64tab"], apart := false, laid := [("math/bits.deBruijn32tab", laid_math_bits_deBruijn32tab), ("math/bits.deBruijn64tab", laid_math_bits_deBruijn64tab), ("internal/strconv.uint64pow10", laid_internal_strconv_uint64pow10), ("unicode/utf8.acceptRanges", laid_unicode_utf8_acceptRanges), ("strconv.ErrRange", laid_strconv_ErrRange), ("strconv.ErrSyntax", laid_strconv_ErrSyntax), ("loop.example/lanekernel/impl.opNames", laid_loop_example_lanekernel_impl_opNames), ("unicode/utf8.first", laid_unicode_utf8_first)] }
def FnReadCodeSaid : Prop := fnReadCodeRow.holds Tryd.pinned (OpenSpec.ofChange fnReadCodeSpec)

/-- ITS FALSE NEIGHBOUR: 'it returns false'. Refute it at one input. -/
def fnReadCodeWrong : ChangeSpec := { name := "fnReadCode", vars := ["loop.example/lanekernel/impl.opNames"], fn := fun _ => fun
  | [d, g1] => { results := [.lit (.bool false)], args := [d], vars := [g1] }
  | _ => none }
def FnReadCodeWrongFalsely : Prop := fnReadCodeRow.holds Tryd.pinned (OpenSpec.ofChange fnReadCodeWrong)

/- THE SECOND FORM. 'bulk': how many values and letters a reading holds, each counted each time it is reached (what is shared counts as often as it is met; a slice's spare places count too). A statement '..UptoSaid' is the law's where the arguments, and the package variables that the reading takes, are together of bulk at most 1048576: NARROWER than '..Said'. Prove '..Said' where nothing that the law and all that it calls make is longer than what came in: it says more and counts as full. Else prove '..UptoSaid'. A law counts once. -/
mutual
def uptoBulk {H : Type} : DataW H → Nat
  | .lit (.string bytes) => bytes.length + 1
  | .lit _ => 1
  | .nil => 1
  | .ptr d => uptoBulk d + 1
  | .slice elems spare => uptoBulkAll elems + uptoBulkAll spare + 1
  | .agg parts => uptoBulkAll parts + 1
  | .iface _ d => uptoBulk d + 1
  | .map entries => uptoBulkEntries entries + 1
  | .held _ => 1
def uptoBulkAll {H : Type} : List (DataW H) → Nat
  | [] => 0
  | d :: r => uptoBulk d + uptoBulkAll r
def uptoBulkEntries {H : Type} : List (Lit × DataW H) → Nat
  | [] => 0
  | x :: r => uptoBulkEntry x + uptoBulkEntries r
def uptoBulkEntry {H : Type} : Lit × DataW H → Nat
  | (.string bytes, d) => bytes.length + uptoBulk d + 1
  | (_, d) => uptoBulk d + 1
 end
def uptoSmall : (H : Type) → List (DataW H) → Bool := fun _ ds => decide (uptoBulkAll ds ≤ 1048576)
def OpenSpec.upto (s : _root_.Go.ChangeSpec) : _root_.Go.OpenSpec := { _root_.Go.OpenSpec.ofChange s with cond := some uptoSmall }

/-- 'laws.FnExactReadProgram', WHERE WHAT IT READS IS OF BULK AT MOST 1048576: true; the input reads as it did. -/
def fnExactReadProgramUptoRow : OpenClaim := { program := "ytidmjeehcmpjnaadoor", sum := "e08cebf6eb3eb0590534238a8ccfc491897cd20a2b9f450da8323535fc1be44d", func := "loop.example/lanekernel/laws.FnExactReadProgram", spec := "fnExactReadProgram", inPlace := ["internal/bytealg.CountString", "internal/bytealg.IndexByteString", "internal/bytealg.IndexString"], named := ["loop.example/lanekernel/impl.opNames", "unicode/utf8.first", "unicode/utf8.acceptRanges", "internal/bytealg.MaxLen", "strconv.ErrSyntax", "strconv.ErrRange", "internal/strconv.uint64pow10", "math/bits.deBruijn32tab", "math/bits.deBruijn64tab"], apart := false, laid := [("math/bits.deBruijn32tab", laid_math_bits_deBruijn32tab), ("math/bits.deBruijn64tab", laid_math_bits_deBruijn64tab), ("internal/strconv.uint64pow10", laid_internal_strconv_uint64pow10), ("unicode/utf8.acceptRanges", laid_unicode_utf8_acceptRanges), ("strconv.ErrRange", laid_strconv_ErrRange), ("strconv.ErrSyntax", laid_strconv_ErrSyntax), ("loop.example/lanekernel/impl.opNames", laid_loop_example_lanekernel_impl_opNames), ("unicode/utf8.first", laid_unicode_utf8_first)], narrowed := true }
def FnExactReadProgramUptoSaid : Prop := fnExactReadProgramUptoRow.holds Tryd.pinned (OpenSpec.upto fnExactReadProgramSpec)

/-- 'laws.FnProgramText', WHERE WHAT IT READS IS OF BULK AT MOST 1048576: true; the input reads as it did. -/
def fnProgramTextUptoRow : OpenClaim := { program := "ytidmjeehcmpjnaadoor", sum := "e08cebf6eb3eb0590534238a8ccfc491897cd20a2b9f450da8323535fc1be44d", func := "loop.example/lanekernel/laws.FnProgramText", spec := "fnProgramText", inPlace := ["internal/bytealg.CountString", "internal/bytealg.IndexByteString", "internal/bytealg.IndexString"], recurses := true, named := ["loop.example/lanekernel/impl.opNames", "internal/strconv.uint64pow10", "math/bits.deBruijn32tab", "math/bits.deBruijn64tab", "unicode/utf8.first", "unicode/utf8.acceptRanges", "internal/bytealg.MaxLen", "strconv.ErrSyntax", "strconv.ErrRange"], apart := false, laid := [("math/bits.deBruijn32tab", laid_math_bits_deBruijn32tab), ("math/bits.deBruijn64tab", laid_math_bits_deBruijn64tab), ("internal/strconv.uint64pow10", laid_internal_strconv_uint64pow10), ("unicode/utf8.acceptRanges", laid_unicode_utf8_acceptRanges), ("strconv.ErrRange", laid_strconv_ErrRange), ("strconv.ErrSyntax", laid_strconv_ErrSyntax), ("loop.example/lanekernel/impl.opNames", laid_loop_example_lanekernel_impl_opNames), ("unicode/utf8.first", laid_unicode_utf8_first)], narrowed := true }
def FnProgramTextUptoSaid : Prop := fnProgramTextUptoRow.holds Tryd.pinned (OpenSpec.upto fnProgramTextSpec)

/-- 'laws.FnReadProgram', WHERE WHAT IT READS IS OF BULK AT MOST 1048576: true; the input reads as it did. -/
def fnReadProgramUptoRow : OpenClaim := { program := "ytidmjeehcmpjnaadoor", sum := "e08cebf6eb3eb0590534238a8ccfc491897cd20a2b9f450da8323535fc1be44d", func := "loop.example/lanekernel/laws.FnReadProgram", spec := "fnReadProgram", inPlace := ["internal/bytealg.CountString", "internal/bytealg.IndexByteString", "internal/bytealg.IndexString"], recurses := true, named := ["loop.example/lanekernel/impl.opNames", "unicode/utf8.first", "unicode/utf8.acceptRanges", "internal/bytealg.MaxLen", "strconv.ErrSyntax", "strconv.ErrRange", "internal/strconv.uint64pow10", "math/bits.deBruijn32tab", "math/bits.deBruijn64tab"], apart := false, laid := [("math/bits.deBruijn32tab", laid_math_bits_deBruijn32tab), ("math/bits.deBruijn64tab", laid_math_bits_deBruijn64tab), ("internal/strconv.uint64pow10", laid_internal_strconv_uint64pow10), ("unicode/utf8.acceptRanges", laid_unicode_utf8_acceptRanges), ("strconv.ErrRange", laid_strconv_ErrRange), ("strconv.ErrSyntax", laid_strconv_ErrSyntax), ("loop.example/lanekernel/impl.opNames", laid_loop_example_lanekernel_impl_opNames), ("unicode/utf8.first", laid_unicode_utf8_first)], narrowed := true }
def FnReadProgramUptoSaid : Prop := fnReadProgramUptoRow.holds Tryd.pinned (OpenSpec.upto fnReadProgramSpec)

/-- 'laws.FnExactCodeText', WHERE WHAT IT READS IS OF BULK AT MOST 1048576: true; the input reads as it did. -/
def fnExactCodeTextUptoRow : OpenClaim := { program := "ytidmjeehcmpjnaadoor", sum := "e08cebf6eb3eb0590534238a8ccfc491897cd20a2b9f450da8323535fc1be44d", func := "loop.example/lanekernel/laws.FnExactCodeText", spec := "fnExactCodeText", named := ["loop.example/lanekernel/impl.opNames", "internal/strconv.uint64pow10", "math/bits.deBruijn32tab", "math/bits.deBruijn64tab"], apart := false, laid := [("math/bits.deBruijn32tab", laid_math_bits_deBruijn32tab), ("math/bits.deBruijn64tab", laid_math_bits_deBruijn64tab), ("internal/strconv.uint64pow10", laid_internal_strconv_uint64pow10), ("loop.example/lanekernel/impl.opNames", laid_loop_example_lanekernel_impl_opNames)], narrowed := true }
def FnExactCodeTextUptoSaid : Prop := fnExactCodeTextUptoRow.holds Tryd.pinned (OpenSpec.upto fnExactCodeTextSpec)

/-- 'laws.FnCodePair', WHERE WHAT IT READS IS OF BULK AT MOST 1048576: true; the input reads as it did. -/
def fnCodePairUptoRow : OpenClaim := { program := "ytidmjeehcmpjnaadoor", sum := "e08cebf6eb3eb0590534238a8ccfc491897cd20a2b9f450da8323535fc1be44d", func := "loop.example/lanekernel/laws.FnCodePair", spec := "fnCodePair", named := ["loop.example/lanekernel/impl.opNames", "internal/strconv.uint64pow10", "math/bits.deBruijn32tab", "math/bits.deBruijn64tab"], apart := false, laid := [("math/bits.deBruijn32tab", laid_math_bits_deBruijn32tab), ("math/bits.deBruijn64tab", laid_math_bits_deBruijn64tab), ("internal/strconv.uint64pow10", laid_internal_strconv_uint64pow10), ("loop.example/lanekernel/impl.opNames", laid_loop_example_lanekernel_impl_opNames)], narrowed := true }
def FnCodePairUptoSaid : Prop := fnCodePairUptoRow.holds Tryd.pinned (OpenSpec.upto fnCodePairSpec)

/-- 'laws.FnExactProgramText', WHERE WHAT IT READS IS OF BULK AT MOST 1048576: true; the input reads as it did. -/
def fnExactProgramTextUptoRow : OpenClaim := { program := "ytidmjeehcmpjnaadoor", sum := "e08cebf6eb3eb0590534238a8ccfc491897cd20a2b9f450da8323535fc1be44d", func := "loop.example/lanekernel/laws.FnExactProgramText", spec := "fnExactProgramText", named := ["loop.example/lanekernel/impl.opNames", "internal/strconv.uint64pow10", "math/bits.deBruijn32tab", "math/bits.deBruijn64tab"], apart := false, laid := [("math/bits.deBruijn32tab", laid_math_bits_deBruijn32tab), ("math/bits.deBruijn64tab", laid_math_bits_deBruijn64tab), ("internal/strconv.uint64pow10", laid_internal_strconv_uint64pow10), ("loop.example/lanekernel/impl.opNames", laid_loop_example_lanekernel_impl_opNames)], narrowed := true }
def FnExactProgramTextUptoSaid : Prop := fnExactProgramTextUptoRow.holds Tryd.pinned (OpenSpec.upto fnExactProgramTextSpec)

/-- 'laws.FnTextJoin', WHERE WHAT IT READS IS OF BULK AT MOST 1048576: true; the input reads as it did. -/
def fnTextJoinUptoRow : OpenClaim := { program := "ytidmjeehcmpjnaadoor", sum := "e08cebf6eb3eb0590534238a8ccfc491897cd20a2b9f450da8323535fc1be44d", func := "loop.example/lanekernel/laws.FnTextJoin", spec := "fnTextJoin", recurses := true, named := ["loop.example/lanekernel/impl.opNames", "internal/strconv.uint64pow10", "math/bits.deBruijn32tab", "math/bits.deBruijn64tab"], apart := false, laid := [("math/bits.deBruijn32tab", laid_math_bits_deBruijn32tab), ("math/bits.deBruijn64tab", laid_math_bits_deBruijn64tab), ("internal/strconv.uint64pow10", laid_internal_strconv_uint64pow10), ("loop.example/lanekernel/impl.opNames", laid_loop_example_lanekernel_impl_opNames)], narrowed := true }
def FnTextJoinUptoSaid : Prop := fnTextJoinUptoRow.holds Tryd.pinned (OpenSpec.upto fnTextJoinSpec)

/-- 'laws.FnExactReadCode', WHERE WHAT IT READS IS OF BULK AT MOST 1048576: true; the input reads as it did. -/
def fnExactReadCodeUptoRow : OpenClaim := { program := "ytidmjeehcmpjnaadoor", sum := "e08cebf6eb3eb0590534238a8ccfc491897cd20a2b9f450da8323535fc1be44d", func := "loop.example/lanekernel/laws.FnExactReadCode", spec := "fnExactReadCode", inPlace := ["internal/bytealg.CountString", "internal/bytealg.IndexByteString", "internal/bytealg.IndexString"], named := ["loop.example/lanekernel/impl.opNames", "unicode/utf8.first", "unicode/utf8.acceptRanges", "internal/bytealg.MaxLen", "strconv.ErrSyntax", "strconv.ErrRange", "internal/strconv.uint64pow10", "math/bits.deBruijn32tab", "math/bits.deBruijn64tab"], apart := false, laid := [("math/bits.deBruijn32tab", laid_math_bits_deBruijn32tab), ("math/bits.deBruijn64tab", laid_math_bits_deBruijn64tab), ("internal/strconv.uint64pow10", laid_internal_strconv_uint64pow10), ("unicode/utf8.acceptRanges", laid_unicode_utf8_acceptRanges), ("strconv.ErrRange", laid_strconv_ErrRange), ("strconv.ErrSyntax", laid_strconv_ErrSyntax), ("loop.example/lanekernel/impl.opNames", laid_loop_example_lanekernel_impl_opNames), ("unicode/utf8.first", laid_unicode_utf8_first)], narrowed := true }
def FnExactReadCodeUptoSaid : Prop := fnExactReadCodeUptoRow.holds Tryd.pinned (OpenSpec.upto fnExactReadCodeSpec)

/-- 'laws.FnCodeText', WHERE WHAT IT READS IS OF BULK AT MOST 1048576: true; the input reads as it did. -/
def fnCodeTextUptoRow : OpenClaim := { program := "ytidmjeehcmpjnaadoor", sum := "e08cebf6eb3eb0590534238a8ccfc491897cd20a2b9f450da8323535fc1be44d", func := "loop.example/lanekernel/laws.FnCodeText", spec := "fnCodeText", inPlace := ["internal/bytealg.CountString", "internal/bytealg.IndexByteString", "internal/bytealg.IndexString"], named := ["loop.example/lanekernel/impl.opNames", "internal/strconv.uint64pow10", "math/bits.deBruijn32tab", "math/bits.deBruijn64tab", "unicode/utf8.first", "unicode/utf8.acceptRanges", "internal/bytealg.MaxLen", "strconv.ErrSyntax", "strconv.ErrRange"], apart := false, laid := [("math/bits.deBruijn32tab", laid_math_bits_deBruijn32tab), ("math/bits.deBruijn64tab", laid_math_bits_deBruijn64tab), ("internal/strconv.uint64pow10", laid_internal_strconv_uint64pow10), ("unicode/utf8.acceptRanges", laid_unicode_utf8_acceptRanges), ("strconv.ErrRange", laid_strconv_ErrRange), ("strconv.ErrSyntax", laid_strconv_ErrSyntax), ("loop.example/lanekernel/impl.opNames", laid_loop_example_lanekernel_impl_opNames), ("unicode/utf8.first", laid_unicode_utf8_first)], narrowed := true }
def FnCodeTextUptoSaid : Prop := fnCodeTextUptoRow.holds Tryd.pinned (OpenSpec.upto fnCodeTextSpec)

/-- 'laws.FnReadCode', WHERE WHAT IT READS IS OF BULK AT MOST 1048576: true; the input reads as it did. -/
def fnReadCodeUptoRow : OpenClaim := { program := "ytidmjeehcmpjnaadoor", sum := "e08cebf6eb3eb0590534238a8ccfc491897cd20a2b9f450da8323535fc1be44d", func := "loop.example/lanekernel/laws.FnReadCode", spec := "fnReadCode", inPlace := ["internal/bytealg.CountString", "internal/bytealg.IndexByteString", "internal/bytealg.IndexString"], named := ["loop.example/lanekernel/impl.opNames", "unicode/utf8.first", "unicode/utf8.acceptRanges", "internal/bytealg.MaxLen", "strconv.ErrSyntax", "strconv.ErrRange", "internal/strconv.uint64pow10", "math/bits.deBruijn32tab", "math/bits.deBruijn64tab"], apart := false, laid := [("math/bits.deBruijn32tab", laid_math_bits_deBruijn32tab), ("math/bits.deBruijn64tab", laid_math_bits_deBruijn64tab), ("internal/strconv.uint64pow10", laid_internal_strconv_uint64pow10), ("unicode/utf8.acceptRanges", laid_unicode_utf8_acceptRanges), ("strconv.ErrRange", laid_strconv_ErrRange), ("strconv.ErrSyntax", laid_strconv_ErrSyntax), ("loop.example/lanekernel/impl.opNames", laid_loop_example_lanekernel_impl_opNames), ("unicode/utf8.first", laid_unicode_utf8_first)], narrowed := true }
def FnReadCodeUptoSaid : Prop := fnReadCodeUptoRow.holds Tryd.pinned (OpenSpec.upto fnReadCodeSpec)

end Rows
end Go.Proofs.YtidmjeehcmpjnaaDoor
