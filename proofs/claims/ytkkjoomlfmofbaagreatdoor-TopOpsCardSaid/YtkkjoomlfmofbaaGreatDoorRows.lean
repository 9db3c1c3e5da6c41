/-
  NARROWER THAN 'FOR EVERY INPUT', by the rows' own cells (each row's printed sentence says how): TopFirst: laid · TopBranches: laid · TopClosures: laid · TopShadows: laid · TopArms: laid · TopOps: laid · TopLess: laid.
  DERIVED. THE GIVEN ROWS OF THIS SEAT. 7 by the template 'for every input the law returns true; each argument reads behind the call as it read before'; 0 by the template 'total and deterministic' (their statements: YtkkjoomlfmofbaaGreatDoorTotals.lean).
  GIVEN WITH THE SEED: the statements are not yours to turn. If you find one false, say at which input.
  Laid BY PROGRAM, IN A SANDBOX (cutbox-rows.mjs): the forced cells as the released guide's own fill.sh prints them over the translation d3f074a3f8973b23… (all of the seat's roots in one cut). By AI agents, Wed Nov 11 2026. No macro, syntax, notation, axiom, sorry.
-/
import Derived.Test.YtkkjoomlfmofbaaGreatDoorChecked
import GoSem.Claim
import GoSem.ClaimJoined
import GoSem.ClaimMapViews
import Derived.JoinedTies
import Derived.KernelRfl
namespace Go.Proofs.YtkkjoomlfmofbaaGreatDoor
/- THE CELL 'sum', in the pinned program and in every row, IS THE sha256 OF THE DUMP (.gsa) THAT YtkkjoomlfmofbaaGreatDoorProg.lean LOADS. Nothing in Lean hashes anything: it is a label: what it is worth is what the hold of that sum in a sandbox is worth. -/
noncomputable def Tryz.pinned : Pinned := { name := "ytkkjoomlfmofbaagreatdoor", sum := "d3f074a3f8973b23a6015536bb52af41c579aba6ab8c0690c4b1ae9fdeee00bf", checked := Tryz.checked }
namespace Rows
def none {H : Type} : Left H := { results := [], args := [] }

/- WHAT THE LISTED PACKAGE-LEVEL VARIABLES READ AS WHEN THE CALL BEGINS. Each datum BY PROGRAM (the guide's laid-datum.mjs) off the statement by which the dump's own 'gosem.cut.vars' lays the variable. In a bare row this is a premise. The card (YtkkjoomlfmofbaaGreatDoorCards.lean) ties it to the program's text. -/
def laid_strings_asciiSpace {H : Type} : DataW H := .agg [.lit (.int .u8 0), .lit (.int .u8 0), .lit (.int .u8 0), .lit (.int .u8 0), .lit (.int .u8 0), .lit (.int .u8 0), .lit (.int .u8 0), .lit (.int .u8 0), .lit (.int .u8 0), .lit (.int .u8 1), .lit (.int .u8 1), .lit (.int .u8 1), .lit (.int .u8 1), .lit (.int .u8 1), .lit (.int .u8 0), .lit (.int .u8 0), .lit (.int .u8 0), .lit (.int .u8 0), .lit (.int .u8 0), .lit (.int .u8 0), .lit (.int .u8 0), .lit (.int .u8 0), .lit (.int .u8 0), .lit (.int .u8 0), .lit (.int .u8 0), .lit (.int .u8 0), .lit (.int .u8 0), .lit (.int .u8 0), .lit (.int .u8 0), .lit (.int .u8 0), .lit (.int .u8 0), .lit (.int .u8 0), .lit (.int .u8 1), .lit (.int .u8 0), .lit (.int .u8 0), .lit (.int .u8 0), .lit (.int .u8 0), .lit (.int .u8 0), .lit (.int .u8 0), .lit (.int .u8 0), .lit (.int .u8 0), .lit (.int .u8 0), .lit (.int .u8 0), .lit (.int .u8 0), .lit (.int .u8 0), .lit (.int .u8 0), .lit (.int .u8 0), .lit (.int .u8 0), .lit (.int .u8 0), .lit (.int .u8 0), .lit (.int .u8 0), .lit (.int .u8 0), .lit (.int .u8 0), .lit (.int .u8 0), .lit (.int .u8 0), .lit (.int .u8 0), .lit (.int .u8 0), .lit (.int .u8 0), .lit (.int .u8 0), .lit (.int .u8 0), .lit (.int .u8 0), .lit (.int .u8 0), .lit (.int .u8 0), .lit (.int .u8 0), .lit (.int .u8 0), .lit (.int .u8 0), .lit (.int .u8 0), .lit (.int .u8 0), .lit (.int .u8 0), .lit (.int .u8 0), .lit (.int .u8 0), .lit (.int .u8 0), .lit (.int .u8 0), .lit (.int .u8 0), .lit (.int .u8 0), .lit (.int .u8 0), .lit (.int .u8 0), .lit (.int .u8 0), .lit (.int .u8 0), .lit (.int .u8 0), .lit (.int .u8 0), .lit (.int .u8 0), .lit (.int .u8 0), .lit (.int .u8 0), .lit (.int .u8 0), .lit (.int .u8 0), .lit (.int .u8 0), .lit (.int .u8 0), .lit (.int .u8 0), .lit (.int .u8 0), .lit (.int .u8 0), .lit (.int .u8 0), .lit (.int .u8 0), .lit (.int .u8 0), .lit (.int .u8 0), .lit (.int .u8 0), .lit (.int .u8 0), .lit (.int .u8 0), .lit (.int .u8 0), .lit (.int .u8 0), .lit (.int .u8 0), .lit (.int .u8 0), .lit (.int .u8 0), .lit (.int .u8 0), .lit (.int .u8 0), .lit (.int .u8 0), .lit (.int .u8 0), .lit (.int .u8 0), .lit (.int .u8 0), .lit (.int .u8 0), .lit (.int .u8 0), .lit (.int .u8 0), .lit (.int .u8 0), .lit (.int .u8 0), .lit (.int .u8 0), .lit (.int .u8 0), .lit (.int .u8 0), .lit (.int .u8 0), .lit (.int .u8 0), .lit (.int .u8 0), .lit (.int .u8 0), .lit (.int .u8 0), .lit (.int .u8 0), .lit (.int .u8 0), .lit (.int .u8 0), .lit (.int .u8 0), .lit (.int .u8 0), .lit (.int .u8 0), .lit (.int .u8 0), .lit (.int .u8 0), .lit (.int .u8 0), .lit (.int .u8 0), .lit (.int .u8 0), .lit (.int .u8 0), .lit (.int .u8 0), .lit (.int .u8 0), .lit (.int .u8 0), .lit (.int .u8 0), .lit (.int .u8 0), .lit (.int .u8 0), .lit (.int .u8 0), .lit (.int .u8 0), .lit (.int .u8 0), .lit (.int .u8 0), .lit (.int .u8 0), .lit (.int .u8 0), .lit (.int .u8 0), .lit (.int .u8 0), .lit (.int .u8 0), .lit (.int .u8 0), .lit (.int .u8 0), .lit (.int .u8 0), .lit (.int .u8 0), .lit (.int .u8 0), .lit (.int .u8 0), .lit (.int .u8 0), .lit (.int .u8 0), .lit (.int .u8 0), .lit (.int .u8 0), .lit (.int .u8 0), .lit (.int .u8 0), .lit (.int .u8 0), .lit (.int .u8 0), .lit (.int .u8 0), .lit (.int .u8 0), .lit (.int .u8 0), .lit (.int .u8 0), .lit (.int .u8 0), .lit (.int .u8 0), .lit (.int .u8 0), .lit (.int .u8 0), .lit (.int .u8 0), .lit (.int .u8 0), .lit (.int .u8 0), .lit (.int .u8 0), .lit (.int .u8 0), .lit (.int .u8 0), .lit (.int .u8 0), .lit (.int .u8 0), .lit (.int .u8 0), .lit (.int .u8 0), .lit (.int .u8 0), .lit (.int .u8 0), .lit (.int .u8 0), .lit (.int .u8 0), .lit (.int .u8 0), .lit (.int .u8 0), .lit (.int .u8 0), .lit (.int .u8 0), .lit (.int .u8 0), .lit (.int .u8 0), .lit (.int .u8 0), .lit (.int .u8 0), .lit (.int .u8 0), .lit (.int .u8 0), .lit (.int .u8 0), .lit (.int .u8 0), .lit (.int .u8 0), .lit (.int .u8 0), .lit (.int .u8 0), .lit (.int .u8 0), .lit (.int .u8 0), .lit (.int .u8 0), .lit (.int .u8 0), .lit (.int .u8 0), .lit (.int .u8 0), .lit (.int .u8 0), .lit (.int .u8 0), .lit (.int .u8 0), .lit (.int .u8 0), .lit (.int .u8 0), .lit (.int .u8 0), .lit (.int .u8 0), .lit (.int .u8 0), .lit (.int .u8 0), .lit (.int .u8 0), .lit (.int .u8 0), .lit (.int .u8 0), .lit (.int .u8 0), .lit (.int .u8 0), .lit (.int .u8 0), .lit (.int .u8 0), .lit (.int .u8 0), .lit (.int .u8 0), .lit (.int .u8 0), .lit (.int .u8 0), .lit (.int .u8 0), .lit (.int .u8 0), .lit (.int .u8 0), .lit (.int .u8 0), .lit (.int .u8 0), .lit (.int .u8 0), .lit (.int .u8 0), .lit (.int .u8 0), .lit (.int .u8 0), .lit (.int .u8 0), .lit (.int .u8 0), .lit (.int .u8 0), .lit (.int .u8 0), .lit (.int .u8 0), .lit (.int .u8 0), .lit (.int .u8 0), .lit (.int .u8 0), .lit (.int .u8 0), .lit (.int .u8 0), .lit (.int .u8 0), .lit (.int .u8 0), .lit (.int .u8 0), .lit (.int .u8 0), .lit (.int .u8 0), .lit (.int .u8 0), .lit (.int .u8 0), .lit (.int .u8 0), .lit (.int .u8 0), .lit (.int .u8 0), .lit (.int .u8 0)]
def laid_unicode_White_Space {H : Type} : DataW H := .ptr (.agg [.slice [.agg [.lit (.int .u16 9), .lit (.int .u16 13), .lit (.int .u16 1)], .agg [.lit (.int .u16 32), .lit (.int .u16 133), .lit (.int .u16 101)], .agg [.lit (.int .u16 160), .lit (.int .u16 5760), .lit (.int .u16 5600)], .agg [.lit (.int .u16 8192), .lit (.int .u16 8202), .lit (.int .u16 1)], .agg [.lit (.int .u16 8232), .lit (.int .u16 8233), .lit (.int .u16 1)], .agg [.lit (.int .u16 8239), .lit (.int .u16 8287), .lit (.int .u16 48)], .agg [.lit (.int .u16 12288), .lit (.int .u16 12288), .lit (.int .u16 1)]] [], .nil, .lit (.int .i64 2)])
def laid_internal_strconv_uint64pow10 {H : Type} : DataW H := .agg [.lit (.int .u64 1), .lit (.int .u64 10), .lit (.int .u64 100), .lit (.int .u64 1000), .lit (.int .u64 10000), .lit (.int .u64 100000), .lit (.int .u64 1000000), .lit (.int .u64 10000000), .lit (.int .u64 100000000), .lit (.int .u64 1000000000), .lit (.int .u64 10000000000), .lit (.int .u64 100000000000), .lit (.int .u64 1000000000000), .lit (.int .u64 10000000000000), .lit (.int .u64 100000000000000), .lit (.int .u64 1000000000000000), .lit (.int .u64 10000000000000000), .lit (.int .u64 100000000000000000), .lit (.int .u64 1000000000000000000), .lit (.int .u64 10000000000000000000)]
def laid_math_bits_deBruijn32tab {H : Type} : DataW H := .agg [.lit (.int .u8 0), .lit (.int .u8 1), .lit (.int .u8 28), .lit (.int .u8 2), .lit (.int .u8 29), .lit (.int .u8 14), .lit (.int .u8 24), .lit (.int .u8 3), .lit (.int .u8 30), .lit (.int .u8 22), .lit (.int .u8 20), .lit (.int .u8 15), .lit (.int .u8 25), .lit (.int .u8 17), .lit (.int .u8 4), .lit (.int .u8 8), .lit (.int .u8 31), .lit (.int .u8 27), .lit (.int .u8 13), .lit (.int .u8 23), .lit (.int .u8 21), .lit (.int .u8 19), .lit (.int .u8 16), .lit (.int .u8 7), .lit (.int .u8 26), .lit (.int .u8 12), .lit (.int .u8 18), .lit (.int .u8 6), .lit (.int .u8 11), .lit (.int .u8 5), .lit (.int .u8 10), .lit (.int .u8 9)]
def laid_math_bits_deBruijn64tab {H : Type} : DataW H := .agg [.lit (.int .u8 0), .lit (.int .u8 1), .lit (.int .u8 56), .lit (.int .u8 2), .lit (.int .u8 57), .lit (.int .u8 49), .lit (.int .u8 28), .lit (.int .u8 3), .lit (.int .u8 61), .lit (.int .u8 58), .lit (.int .u8 42), .lit (.int .u8 50), .lit (.int .u8 38), .lit (.int .u8 29), .lit (.int .u8 17), .lit (.int .u8 4), .lit (.int .u8 62), .lit (.int .u8 47), .lit (.int .u8 59), .lit (.int .u8 36), .lit (.int .u8 45), .lit (.int .u8 43), .lit (.int .u8 51), .lit (.int .u8 22), .lit (.int .u8 53), .lit (.int .u8 39), .lit (.int .u8 33), .lit (.int .u8 30), .lit (.int .u8 24), .lit (.int .u8 18), .lit (.int .u8 12), .lit (.int .u8 5), .lit (.int .u8 63), .lit (.int .u8 55), .lit (.int .u8 48), .lit (.int .u8 27), .lit (.int .u8 60), .lit (.int .u8 41), .lit (.int .u8 37), .lit (.int .u8 16), .lit (.int .u8 46), .lit (.int .u8 35), .lit (.int .u8 44), .lit (.int .u8 21), .lit (.int .u8 52), .lit (.int .u8 32), .lit (.int .u8 23), .lit (.int .u8 11), .lit (.int .u8 54), .lit (.int .u8 26), .lit (.int .u8 40), .lit (.int .u8 15), .lit (.int .u8 34), .lit (.int .u8 20), .lit (.int .u8 31), .lit (.int .u8 10), .lit (.int .u8 25), .lit (.int .u8 14), .lit (.int .u8 19), .lit (.int .u8 9), .lit (.int .u8 13), .lit (.int .u8 8), .lit (.int .u8 7), .lit (.int .u8 6)]
def laid_strconv_ErrSyntax {H : Type} : DataW H := .iface "*errors.errorString" (.ptr (.agg [.lit (.string [105, 110, 118, 97, 108, 105, 100, 32, 115, 121, 110, 116, 97, 120])]))
def laid_strconv_ErrRange {H : Type} : DataW H := .iface "*errors.errorString" (.ptr (.agg [.lit (.string [118, 97, 108, 117, 101, 32, 111, 117, 116, 32, 111, 102, 32, 114, 97, 110, 103, 101])]))

/-- 'hawsertop.TopFirst': WHATEVER THE INPUT: true; the input reads as it did. -/
def topFirstSpec : ChangeSpec := { name := "topFirst", fn := fun _ => fun
  | [d1, d2] => { results := [.lit (.bool true)], args := [d1, d2] }
  | _ => none }
def topFirstRow : OpenClaim := { program := "ytkkjoomlfmofbaagreatdoor", sum := "d3f074a3f8973b23a6015536bb52af41c579aba6ab8c0690c4b1ae9fdeee00bf", func := "hawser/hawsertop.TopFirst", spec := "topFirst", inPlace := ["internal/bytealg.IndexByteString", "internal/bytealg.IndexString", "internal/abi.NoEscape", "internal/bytealg.MakeNoZero", "math.archTrunc", "math.Float64bits", "math.Float64frombits"], unfollowed := true, recurses := true, named := ["internal/bytealg.MaxLen", "strings.asciiSpace", "unicode.White_Space", "internal/strconv.uint64pow10", "math/bits.deBruijn32tab", "math/bits.deBruijn64tab", "strconv.ErrSyntax", "strconv.ErrRange"], plainKeys := false, apart := false, laid := [("strings.asciiSpace", laid_strings_asciiSpace), ("unicode.White_Space", laid_unicode_White_Space), ("internal/strconv.uint64pow10", laid_internal_strconv_uint64pow10), ("math/bits.deBruijn32tab", laid_math_bits_deBruijn32tab), ("math/bits.deBruijn64tab", laid_math_bits_deBruijn64tab), ("strconv.ErrSyntax", laid_strconv_ErrSyntax), ("strconv.ErrRange", laid_strconv_ErrRange)] }
def TopFirstSaid : Prop := topFirstRow.holds Tryz.pinned (OpenSpec.ofChange topFirstSpec)

/-- ITS FALSE NEIGHBOUR: 'it returns false'. Refute it at one input. -/
def topFirstWrong : ChangeSpec := { name := "topFirst", fn := fun _ => fun
  | [d1, d2] => { results := [.lit (.bool false)], args := [d1, d2] }
  | _ => none }
def TopFirstWrongFalsely : Prop := topFirstRow.holds Tryz.pinned (OpenSpec.ofChange topFirstWrong)

/-- 'hawsertop.TopBranches': WHATEVER THE INPUT: true; the input reads as it did. -/
def topBranchesSpec : ChangeSpec := { name := "topBranches", fn := fun _ => fun
  | [d1, d2, d3] => { results := [.lit (.bool true)], args := [d1, d2, d3] }
  | _ => none }
def topBranchesRow : OpenClaim := { program := "ytkkjoomlfmofbaagreatdoor", sum := "d3f074a3f8973b23a6015536bb52af41c579aba6ab8c0690c4b1ae9fdeee00bf", func := "hawser/hawsertop.TopBranches", spec := "topBranches", inPlace := ["internal/bytealg.IndexByteString", "internal/bytealg.IndexString", "internal/abi.NoEscape", "internal/bytealg.MakeNoZero", "math.archTrunc", "math.Float64bits", "math.Float64frombits"], unfollowed := true, recurses := true, named := ["internal/bytealg.MaxLen", "strings.asciiSpace", "unicode.White_Space", "internal/strconv.uint64pow10", "math/bits.deBruijn32tab", "math/bits.deBruijn64tab", "strconv.ErrSyntax", "strconv.ErrRange"], plainKeys := false, apart := false, laid := [("strings.asciiSpace", laid_strings_asciiSpace), ("unicode.White_Space", laid_unicode_White_Space), ("internal/strconv.uint64pow10", laid_internal_strconv_uint64pow10), ("math/bits.deBruijn32tab", laid_math_bits_deBruijn32tab), ("math/bits.deBruijn64tab", laid_math_bits_deBruijn64tab), ("strconv.ErrSyntax", laid_strconv_ErrSyntax), ("strconv.ErrRange", laid_strconv_ErrRange)] }
def TopBranchesSaid : Prop := topBranchesRow.holds Tryz.pinned (OpenSpec.ofChange topBranchesSpec)

/-- ITS FALSE NEIGHBOUR: 'it returns false'. Refute it at one input. -/
def topBranchesWrong : ChangeSpec := { name := "topBranches", fn := fun _ => fun
  | [d1, d2, d3] => { results := [.lit (.bool false)], args := [d1, d2, d3] }
  | _ => none }
def TopBranchesWrongFalsely : Prop := topBranchesRow.holds Tryz.pinned (OpenSpec.ofChange topBranchesWrong)

/-- 'hawsertop.TopClosures': WHATEVER THE INPUT: true; the input reads as it did. -/
def topClosuresSpec : ChangeSpec := { name := "topClosures", fn := fun _ => fun
  | [d1, d2, d3] => { results := [.lit (.bool true)], args := [d1, d2, d3] }
  | _ => none }
def topClosuresRow : OpenClaim := { program := "ytkkjoomlfmofbaagreatdoor", sum := "d3f074a3f8973b23a6015536bb52af41c579aba6ab8c0690c4b1ae9fdeee00bf", func := "hawser/hawsertop.TopClosures", spec := "topClosures", inPlace := ["internal/bytealg.IndexByteString", "internal/bytealg.IndexString", "internal/abi.NoEscape", "internal/bytealg.MakeNoZero", "math.archTrunc", "math.Float64bits", "math.Float64frombits"], unfollowed := true, recurses := true, named := ["internal/bytealg.MaxLen", "strings.asciiSpace", "unicode.White_Space", "internal/strconv.uint64pow10", "math/bits.deBruijn32tab", "math/bits.deBruijn64tab", "strconv.ErrSyntax", "strconv.ErrRange"], plainKeys := false, apart := false, laid := [("strings.asciiSpace", laid_strings_asciiSpace), ("unicode.White_Space", laid_unicode_White_Space), ("internal/strconv.uint64pow10", laid_internal_strconv_uint64pow10), ("math/bits.deBruijn32tab", laid_math_bits_deBruijn32tab), ("math/bits.deBruijn64tab", laid_math_bits_deBruijn64tab), ("strconv.ErrSyntax", laid_strconv_ErrSyntax), ("strconv.ErrRange", laid_strconv_ErrRange)] }
def TopClosuresSaid : Prop := topClosuresRow.holds Tryz.pinned (OpenSpec.ofChange topClosuresSpec)

/-- ITS FALSE NEIGHBOUR: 'it returns false'. Refute it at one input. -/
def topClosuresWrong : ChangeSpec := { name := "topClosures", fn := fun _ => fun
  | [d1, d2, d3] => { results := [.lit (.bool false)], args := [d1, d2, d3] }
  | _ => none }
def TopClosuresWrongFalsely : Prop := topClosuresRow.holds Tryz.pinned (OpenSpec.ofChange topClosuresWrong)

/-- 'hawsertop.TopShadows': WHATEVER THE INPUT: true; the input reads as it did. -/
def topShadowsSpec : ChangeSpec := { name := "topShadows", fn := fun _ => fun
  | [d1, d2, d3] => { results := [.lit (.bool true)], args := [d1, d2, d3] }
  | _ => none }
def topShadowsRow : OpenClaim := { program := "ytkkjoomlfmofbaagreatdoor", sum := "d3f074a3f8973b23a6015536bb52af41c579aba6ab8c0690c4b1ae9fdeee00bf", func := "hawser/hawsertop.TopShadows", spec := "topShadows", inPlace := ["internal/bytealg.IndexByteString", "internal/bytealg.IndexString", "internal/abi.NoEscape", "internal/bytealg.MakeNoZero", "math.archTrunc", "math.Float64bits", "math.Float64frombits"], unfollowed := true, recurses := true, named := ["internal/bytealg.MaxLen", "strings.asciiSpace", "unicode.White_Space", "internal/strconv.uint64pow10", "math/bits.deBruijn32tab", "math/bits.deBruijn64tab", "strconv.ErrSyntax", "strconv.ErrRange"], plainKeys := false, apart := false, laid := [("strings.asciiSpace", laid_strings_asciiSpace), ("unicode.White_Space", laid_unicode_White_Space), ("internal/strconv.uint64pow10", laid_internal_strconv_uint64pow10), ("math/bits.deBruijn32tab", laid_math_bits_deBruijn32tab), ("math/bits.deBruijn64tab", laid_math_bits_deBruijn64tab), ("strconv.ErrSyntax", laid_strconv_ErrSyntax), ("strconv.ErrRange", laid_strconv_ErrRange)] }
def TopShadowsSaid : Prop := topShadowsRow.holds Tryz.pinned (OpenSpec.ofChange topShadowsSpec)

/-- ITS FALSE NEIGHBOUR: 'it returns false'. Refute it at one input. -/
def topShadowsWrong : ChangeSpec := { name := "topShadows", fn := fun _ => fun
  | [d1, d2, d3] => { results := [.lit (.bool false)], args := [d1, d2, d3] }
  | _ => none }
def TopShadowsWrongFalsely : Prop := topShadowsRow.holds Tryz.pinned (OpenSpec.ofChange topShadowsWrong)

/-- 'hawsertop.TopArms': WHATEVER THE INPUT: true; the input reads as it did. -/
def topArmsSpec : ChangeSpec := { name := "topArms", fn := fun _ => fun
  | [d1, d2, d3, d4] => { results := [.lit (.bool true)], args := [d1, d2, d3, d4] }
  | _ => none }
def topArmsRow : OpenClaim := { program := "ytkkjoomlfmofbaagreatdoor", sum := "d3f074a3f8973b23a6015536bb52af41c579aba6ab8c0690c4b1ae9fdeee00bf", func := "hawser/hawsertop.TopArms", spec := "topArms", inPlace := ["internal/bytealg.IndexByteString", "internal/bytealg.IndexString", "internal/abi.NoEscape", "internal/bytealg.MakeNoZero", "math.archTrunc", "math.Float64bits", "math.Float64frombits"], unfollowed := true, recurses := true, named := ["internal/bytealg.MaxLen", "strings.asciiSpace", "unicode.White_Space", "internal/strconv.uint64pow10", "math/bits.deBruijn32tab", "math/bits.deBruijn64tab", "strconv.ErrSyntax", "strconv.ErrRange"], plainKeys := false, apart := false, laid := [("strings.asciiSpace", laid_strings_asciiSpace), ("unicode.White_Space", laid_unicode_White_Space), ("internal/strconv.uint64pow10", laid_internal_strconv_uint64pow10), ("math/bits.deBruijn32tab", laid_math_bits_deBruijn32tab), ("math/bits.deBruijn64tab", laid_math_bits_deBruijn64tab), ("strconv.ErrSyntax", laid_strconv_ErrSyntax), ("strconv.ErrRange", laid_strconv_ErrRange)] }
def TopArmsSaid : Prop := topArmsRow.holds Tryz.pinned (OpenSpec.ofChange topArmsSpec)

/-- ITS FALSE NEIGHBOUR: 'it returns false'. Refute it at one input. -/
def topArmsWrong : ChangeSpec := { name := "topArms", fn := fun _ => fun
  | [d1, d2, d3, d4] => { results := [.lit (.bool false)], args := [d1, d2, d3, d4] }
  | _ => none }
def TopArmsWrongFalsely : Prop := topArmsRow.holds Tryz.pinned (OpenSpec.ofChange topArmsWrong)

/-- 'hawsertop.TopOps': WHATEVER THE INPUT: true; the input reads as it did. -/
def topOpsSpec : ChangeSpec := { name := "topOps", fn := fun _ => fun
  | [d1, d2, d3, d4, d5] => { results := [.lit (.bool true)], args := [d1, d2, d3, d4, d5] }
  | _ => none }
def topOpsRow : OpenClaim := { program := "ytkkjoomlfmofbaagreatdoor", sum := "d3f074a3f8973b23a6015536bb52af41c579aba6ab8c0690c4b1ae9fdeee00bf", func := "hawser/hawsertop.TopOps", spec := "topOps", inPlace := ["math.archTrunc", "math.Float64bits", "math.Float64frombits", "internal/bytealg.IndexByteString", "internal/bytealg.IndexString", "internal/abi.NoEscape", "internal/bytealg.MakeNoZero"], unfollowed := true, recurses := true, named := ["internal/bytealg.MaxLen", "strings.asciiSpace", "unicode.White_Space", "internal/strconv.uint64pow10", "math/bits.deBruijn32tab", "math/bits.deBruijn64tab", "strconv.ErrSyntax", "strconv.ErrRange"], plainKeys := false, apart := false, laid := [("strings.asciiSpace", laid_strings_asciiSpace), ("unicode.White_Space", laid_unicode_White_Space), ("internal/strconv.uint64pow10", laid_internal_strconv_uint64pow10), ("math/bits.deBruijn32tab", laid_math_bits_deBruijn32tab), ("math/bits.deBruijn64tab", laid_math_bits_deBruijn64tab), ("strconv.ErrSyntax", laid_strconv_ErrSyntax), ("strconv.ErrRange", laid_strconv_ErrRange)] }
def TopOpsSaid : Prop := topOpsRow.holds Tryz.pinned (OpenSpec.ofChange topOpsSpec)

/-- ITS FALSE NEIGHBOUR: 'it returns false'. Refute it at one input. -/
def topOpsWrong : ChangeSpec := { name := "topOps", fn := fun _ => fun
  | [d1, d2, d3, d4, d5] => { results := [.lit (.bool false)], args := [d1, d2, d3, d4, d5] }
  | _ => none }
def TopOpsWrongFalsely : Prop := topOpsRow.holds Tryz.pinned (OpenSpec.ofChange topOpsWrong)

/-- 'hawsertop.TopLess': WHATEVER THE INPUT: true; the input reads as it did. -/
def topLessSpec : ChangeSpec := { name := "topLess", fn := fun _ => fun
  | [d1, d2, d3, d4] => { results := [.lit (.bool true)], args := [d1, d2, d3, d4] }
  | _ => none }
def topLessRow : OpenClaim := { program := "ytkkjoomlfmofbaagreatdoor", sum := "d3f074a3f8973b23a6015536bb52af41c579aba6ab8c0690c4b1ae9fdeee00bf", func := "hawser/hawsertop.TopLess", spec := "topLess", inPlace := ["internal/bytealg.IndexByteString", "internal/bytealg.IndexString", "internal/abi.NoEscape", "internal/bytealg.MakeNoZero", "math.archTrunc", "math.Float64bits", "math.Float64frombits"], unfollowed := true, recurses := true, named := ["internal/bytealg.MaxLen", "strings.asciiSpace", "unicode.White_Space", "internal/strconv.uint64pow10", "math/bits.deBruijn32tab", "math/bits.deBruijn64tab", "strconv.ErrSyntax", "strconv.ErrRange"], plainKeys := false, apart := false, laid := [("strings.asciiSpace", laid_strings_asciiSpace), ("unicode.White_Space", laid_unicode_White_Space), ("internal/strconv.uint64pow10", laid_internal_strconv_uint64pow10), ("math/bits.deBruijn32tab", laid_math_bits_deBruijn32tab), ("math/bits.deBruijn64tab", laid_math_bits_deBruijn64tab), ("strconv.ErrSyntax", laid_strconv_ErrSyntax), ("strconv.ErrRange", laid_strconv_ErrRange)] }
def TopLessSaid : Prop := topLessRow.holds Tryz.pinned (OpenSpec.ofChange topLessSpec)

/-- ITS FALSE NEIGHBOUR: 'it returns false'. Refute it at one input. -/
def topLessWrong : ChangeSpec := { name := "topLess", fn := fun _ => fun
  | [d1, d2, d3, d4] => { results := [.lit (.bool false)], args := [d1, d2, d3, d4] }
  | _ => none }
def TopLessWrongFalsely : Prop := topLessRow.holds Tryz.pinned (OpenSpec.ofChange topLessWrong)

/- THE SECOND FORM. 'bulk': how many values and letters a reading holds, each counted each time it is reached (what is shared counts as often as it is met; a slice's spare places count too). A statement '..UptoSaid' is the law's where the arguments, and the package variables that the reading takes, are together of bulk at most 1048576: NARROWER than '..Said'. Prove '..Said' where nothing that the law and all that it calls make is longer than what came in: it says more and counts as full. Else prove '..UptoSaid'. A law counts once. -/
mutual
def uptoBulk {H : Type} : DataW H → Nat
  | .lit (.string bytes) => bytes.length + 1
  | .lit _ => 1
  | .nil => 1
  | .ptr d => uptoBulk d + 1
  | .slice elems spare => uptoBulkAll elems + uptoBulkAll spare + 1
  | .agg parts => uptoBulkAll parts + 1
  | .iface _ d => uptoBulk d + 1
  | .map entries => uptoBulkEntries entries + 1
  | .held _ => 1
def uptoBulkAll {H : Type} : List (DataW H) → Nat
  | [] => 0
  | d :: r => uptoBulk d + uptoBulkAll r
def uptoBulkEntries {H : Type} : List (Lit × DataW H) → Nat
  | [] => 0
  | x :: r => uptoBulkEntry x + uptoBulkEntries r
def uptoBulkEntry {H : Type} : Lit × DataW H → Nat
  | (.string bytes, d) => bytes.length + uptoBulk d + 1
  | (_, d) => uptoBulk d + 1
 end
def uptoSmall : (H : Type) → List (DataW H) → Bool := fun _ ds => decide (uptoBulkAll ds ≤ 1048576)
def OpenSpec.upto (s : _root_.Go.ChangeSpec) : _root_.Go.OpenSpec := { _root_.Go.OpenSpec.ofChange s with cond := some uptoSmall }

/-- 'hawsertop.TopFirst', WHERE WHAT IT READS IS OF BULK AT MOST 1048576: true; the input reads as it did. -/
def topFirstUptoRow : OpenClaim := { program := "ytkkjoomlfmofbaagreatdoor", sum := "d3f074a3f8973b23a6015536bb52af41c579aba6ab8c0690c4b1ae9fdeee00bf", func := "hawser/hawsertop.TopFirst", spec := "topFirst", inPlace := ["internal/bytealg.IndexByteString", "internal/bytealg.IndexString", "internal/abi.NoEscape", "internal/bytealg.MakeNoZero", "math.archTrunc", "math.Float64bits", "math.Float64frombits"], unfollowed := true, recurses := true, named := ["internal/bytealg.MaxLen", "strings.asciiSpace", "unicode.White_Space", "internal/strconv.uint64pow10", "math/bits.deBruijn32tab", "math/bits.deBruijn64tab", "strconv.ErrSyntax", "strconv.ErrRange"], plainKeys := false, apart := false, laid := [("strings.asciiSpace", laid_strings_asciiSpace), ("unicode.White_Space", laid_unicode_White_Space), ("internal/strconv.uint64pow10", laid_internal_strconv_uint64pow10), ("math/bits.deBruijn32tab", laid_math_bits_deBruijn32tab), ("math/bits.deBruijn64tab", laid_math_bits_deBruijn64tab), ("strconv.ErrSyntax", laid_strconv_ErrSyntax), ("strconv.ErrRange", laid_strconv_ErrRange)], narrowed := true }
def TopFirstUptoSaid : Prop := topFirstUptoRow.holds Tryz.pinned (OpenSpec.upto topFirstSpec)

/-- 'hawsertop.TopBranches', WHERE WHAT IT READS IS OF BULK AT MOST 1048576: true; the input reads as it did. -/
def topBranchesUptoRow : OpenClaim := { program := "ytkkjoomlfmofbaagreatdoor", sum := "d3f074a3f8973b23a6015536bb52af41c579aba6ab8c0690c4b1ae9fdeee00bf", func := "hawser/hawsertop.TopBranches", spec := "topBranches", inPlace := ["internal/bytealg.IndexByteString", "internal/bytealg.IndexString", "internal/abi.NoEscape", "internal/bytealg.MakeNoZero", "math.archTrunc", "math.Float64bits", "math.Float64frombits"], unfollowed := true, recurses := true, named := ["internal/bytealg.MaxLen", "strings.asciiSpace", "unicode.White_Space", "internal/strconv.uint64pow10", "math/bits.deBruijn32tab", "math/bits.deBruijn64tab", "strconv.ErrSyntax", "strconv.ErrRange"], plainKeys := false, apart := false, laid := [("strings.asciiSpace", laid_strings_asciiSpace), ("unicode.White_Space", laid_unicode_White_Space), ("internal/strconv.uint64pow10", laid_internal_strconv_uint64pow10), ("math/bits.deBruijn32tab", laid_math_bits_deBruijn32tab), ("math/bits.deBruijn64tab", laid_math_bits_deBruijn64tab), ("strconv.ErrSyntax", laid_strconv_ErrSyntax), ("strconv.ErrRange", laid_strconv_ErrRange)], narrowed := true }
def TopBranchesUptoSaid : Prop := topBranchesUptoRow.holds Tryz.pinned (OpenSpec.upto topBranchesSpec)

/-- 'hawsertop.TopClosures', WHERE WHAT IT READS IS OF BULK AT MOST 1048576: true; the input reads as it did. -/
def topClosuresUptoRow : OpenClaim := { program := "ytkkjoomlfmofbaagreatdoor", sum := "d3f074a3f8973b23a6015536bb52af41c579aba6ab8c0690c4b1ae9fdeee00bf", func := "hawser/hawsertop.TopClosures", spec := "topClosures", inPlace := ["internal/bytealg.IndexByteString", "internal/bytealg.IndexString", "internal/abi.NoEscape", "internal/bytealg.MakeNoZero", "math.archTrunc", "math.Float64bits", "math.Float64frombits"], unfollowed := true, recurses := true, named := ["internal/bytealg.MaxLen", "strings.asciiSpace", "unicode.White_Space", "internal/strconv.uint64pow10", "math/bits.deBruijn32tab", "math/bits.deBruijn64tab", "strconv.ErrSyntax", "strconv.ErrRange"], plainKeys := false, apart := false, laid := [("strings.asciiSpace", laid_strings_asciiSpace), ("unicode.White_Space", laid_unicode_White_Space), ("internal/strconv.uint64pow10", laid_internal_strconv_uint64pow10), ("math/bits.deBruijn32tab", laid_math_bits_deBruijn32tab), ("math/bits.deBruijn64tab", laid_math_bits_deBruijn64tab), ("strconv.ErrSyntax", laid_strconv_ErrSyntax), ("strconv.ErrRange", laid_strconv_ErrRange)], narrowed := true }
def TopClosuresUptoSaid : Prop := topClosuresUptoRow.holds Tryz.pinned (OpenSpec.upto topClosuresSpec)

/-- 'hawsertop.TopShadows', WHERE WHAT IT READS IS OF BULK AT MOST 1048576: true; the input reads as it did. -/
def topShadowsUptoRow : OpenClaim := { program := "ytkkjoomlfmofbaagreatdoor", sum := "d3f074a3f8973b23a6015536bb52af41c579aba6ab8c0690c4b1ae9fdeee00bf", func := "hawser/hawsertop.TopShadows", spec := "topShadows", inPlace := ["internal/bytealg.IndexByteString", "internal/bytealg.IndexString", "internal/abi.NoEscape", "internal/bytealg.MakeNoZero", "math.archTrunc", "math.Float64bits", "math.Float64frombits"], unfollowed := true, recurses := true, named := ["internal/bytealg.MaxLen", "strings.asciiSpace", "unicode.White_Space", "internal/strconv.uint64pow10", "math/bits.deBruijn32tab", "math/bits.deBruijn64tab", "strconv.ErrSyntax", "strconv.ErrRange"], plainKeys := false, apart := false, laid := [("strings.asciiSpace", laid_strings_asciiSpace), ("unicode.White_Space", laid_unicode_White_Space), ("internal/strconv.uint64pow10", laid_internal_strconv_uint64pow10), ("math/bits.deBruijn32tab", laid_math_bits_deBruijn32tab), ("math/bits.deBruijn64tab", laid_math_bits_deBruijn64tab), ("strconv.ErrSyntax", laid_strconv_ErrSyntax), ("strconv.ErrRange", laid_strconv_ErrRange)], narrowed := true }
def TopShadowsUptoSaid : Prop := topShadowsUptoRow.holds Tryz.pinned (OpenSpec.upto topShadowsSpec)

/-- 'hawsertop.TopArms', WHERE WHAT IT READS IS OF BULK AT MOST 1048576: true; the input reads as it did. -/
def topArmsUptoRow : OpenClaim := { program := "ytkkjoomlfmofbaagreatdoor", sum := "d3f074a3f8973b23a6015536bb52af41c579aba6ab8c0690c4b1ae9fdeee00bf", func := "hawser/hawsertop.TopArms", spec := "topArms", inPlace := ["internal/bytealg.IndexByteString", "internal/bytealg.IndexString", "internal/abi.NoEscape", "internal/bytealg.MakeNoZero", "math.archTrunc", "math.Float64bits", "math.Float64frombits"], unfollowed := true, recurses := true, named := ["internal/bytealg.MaxLen", "strings.asciiSpace", "unicode.White_Space", "internal/strconv.uint64pow10", "math/bits.deBruijn32tab", "math/bits.deBruijn64tab", "strconv.ErrSyntax", "strconv.ErrRange"], plainKeys := false, apart := false, laid := [("strings.asciiSpace", laid_strings_asciiSpace), ("unicode.White_Space", laid_unicode_White_Space), ("internal/strconv.uint64pow10", laid_internal_strconv_uint64pow10), ("math/bits.deBruijn32tab", laid_math_bits_deBruijn32tab), ("math/bits.deBruijn64tab", laid_math_bits_deBruijn64tab), ("strconv.ErrSyntax", laid_strconv_ErrSyntax), ("strconv.ErrRange", laid_strconv_ErrRange)], narrowed := true }
def TopArmsUptoSaid : Prop := topArmsUptoRow.holds Tryz.pinned (OpenSpec.upto topArmsSpec)

/-- 'hawsertop.TopOps', WHERE WHAT IT READS IS OF BULK AT MOST 1048576: true; the input reads as it did. -/
def topOpsUptoRow : OpenClaim := { program := "ytkkjoomlfmofbaagreatdoor", sum := "d3f074a3f8973b23a6015536bb52af41c579aba6ab8c0690c4b1ae9fdeee00bf", func := "hawser/hawsertop.TopOps", spec := "topOps", inPlace := ["math.archTrunc", "math.Float64bits", "math.Float64frombits", "internal/bytealg.IndexByteString", "internal/bytealg.IndexString", "internal/abi.NoEscape", "internal/bytealg.MakeNoZero"], unfollowed := true, recurses := true, named := ["internal/bytealg.MaxLen", "strings.asciiSpace", "unicode.White_Space", "internal/strconv.uint64pow10", "math/bits.deBruijn32tab", "math/bits.deBruijn64tab", "strconv.ErrSyntax", "strconv.ErrRange"], plainKeys := false, apart := false, laid := [("strings.asciiSpace", laid_strings_asciiSpace), ("unicode.White_Space", laid_unicode_White_Space), ("internal/strconv.uint64pow10", laid_internal_strconv_uint64pow10), ("math/bits.deBruijn32tab", laid_math_bits_deBruijn32tab), ("math/bits.deBruijn64tab", laid_math_bits_deBruijn64tab), ("strconv.ErrSyntax", laid_strconv_ErrSyntax), ("strconv.ErrRange", laid_strconv_ErrRange)], narrowed := true }
def TopOpsUptoSaid : Prop := topOpsUptoRow.holds Tryz.pinned (OpenSpec.upto topOpsSpec)

/-- 'hawsertop.TopLess', WHERE WHAT IT READS IS OF BULK AT MOST 1048576: true; the input reads as it did. -/
def topLessUptoRow : OpenClaim := { program := "ytkkjoomlfmofbaagreatdoor", sum := "d3f074a3f8973b23a6015536bb52af41c579aba6ab8c0690c4b1ae9fdeee00bf", func := "hawser/hawsertop.TopLess", spec := "topLess", inPlace := ["internal/bytealg.IndexByteString", "internal/bytealg.IndexString", "internal/abi.NoEscape", "internal/bytealg.MakeNoZero", "math.archTrunc", "math.Float64bits", "math.Float64frombits"], unfollowed := true, recurses := true, named := ["internal/bytealg.MaxLen", "strings.asciiSpace", "unicode.White_Space", "internal/strconv.uint64pow10", "math/bits.deBruijn32tab", "math/bits.deBruijn64tab", "strconv.ErrSyntax", "strconv.ErrRange"], plainKeys := false, apart := false, laid := [("strings.asciiSpace", laid_strings_asciiSpace), ("unicode.White_Space", laid_unicode_White_Space), ("internal/strconv.uint64pow10", laid_internal_strconv_uint64pow10), ("math/bits.deBruijn32tab", laid_math_bits_deBruijn32tab), ("math/bits.deBruijn64tab", laid_math_bits_deBruijn64tab), ("strconv.ErrSyntax", laid_strconv_ErrSyntax), ("strconv.ErrRange", laid_strconv_ErrRange)], narrowed := true }
def TopLessUptoSaid : Prop := topLessUptoRow.holds Tryz.pinned (OpenSpec.upto topLessSpec)

end Rows
end Go.Proofs.YtkkjoomlfmofbaaGreatDoor
