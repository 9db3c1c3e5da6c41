/-
  No cell of these rows narrows 'for every input' (looked for: loops, veiled, ifaces, maps, wideKeys, modest, calm, conditions, laid).
  DERIVED. THE GIVEN ROWS OF THIS SEAT. 5 by the template 'for every input the law returns true; each argument reads behind the call as it read before'; 0 by the template 'total and deterministic' (their statements: YtomjidlkaocmkaaGreatTotals.lean).
  GIVEN WITH THE SEED: the statements are not yours to turn. If you find one false, say at which input.
  Laid BY PROGRAM, IN A SANDBOX (cutbox-rows.mjs): the forced cells as the released guide's own fill.sh prints them over the translation 85aaa7e43997ac01… (all of the seat's roots in one cut). By AI agents, Wed Nov 11 2026. No macro, syntax, notation, axiom, sorry.
-/
import Derived.Test.YtomjidlkaocmkaaGreatChecked
import GoSem.Claim
import GoSem.ClaimJoined
import GoSem.ClaimMapViews
import Derived.JoinedTies
import Derived.KernelRfl
namespace Go.Proofs.YtomjidlkaocmkaaGreat
/- THE CELL 'sum', in the pinned program and in every row, IS THE sha256 OF THE DUMP (.gsa) THAT YtomjidlkaocmkaaGreatProg.lean LOADS. Nothing in Lean hashes anything: it is a label: what it is worth is what the hold of that sum in a sandbox is worth. -/
noncomputable def Tryz.pinned : Pinned := { name := "ytomjidlkaocmkaagreat", sum := "85aaa7e43997ac014430390875641c672b088051c489b02c7c477102585bb6d5", checked := Tryz.checked }
namespace Rows
def none {H : Type} : Left H := { results := [], args := [] }

/-- 'hawserlaw12.MeanNumbers': WHATEVER THE INPUT: true; the input reads as it did. -/
def meanNumbersSpec : ChangeSpec := { name := "meanNumbers", fn := fun _ => fun
  | [] => { results := [.lit (.bool true)], args := [] }
  | _ => none }
def meanNumbersRow : OpenClaim := { program := "ytomjidlkaocmkaagreat", sum := "85aaa7e43997ac014430390875641c672b088051c489b02c7c477102585bb6d5", func := "hawser/hawserlaw12.MeanNumbers", spec := "meanNumbers", inPlace := ["internal/abi.NoEscape", "internal/bytealg.MakeNoZero", "internal/bytealg.IndexByteString", "internal/bytealg.IndexString", "math.archTrunc", "math.Float64bits", "math.Float64frombits"], unfollowed := true, recurses := true, named := ["internal/bytealg.MaxLen"], apart := false }
def MeanNumbersSaid : Prop := meanNumbersRow.holds Tryz.pinned (OpenSpec.ofChange meanNumbersSpec)

/-- ITS FALSE NEIGHBOUR: 'it returns false'. Refute it at one input. -/
def meanNumbersWrong : ChangeSpec := { name := "meanNumbers", fn := fun _ => fun
  | [] => { results := [.lit (.bool false)], args := [] }
  | _ => none }
def MeanNumbersWrongFalsely : Prop := meanNumbersRow.holds Tryz.pinned (OpenSpec.ofChange meanNumbersWrong)

/-- 'hawserlaw12.MeanRuns': WHATEVER THE INPUT: true; the input reads as it did. -/
def meanRunsSpec : ChangeSpec := { name := "meanRuns", fn := fun _ => fun
  | [d1, d2, d3, d4, d5, d6, d7] => { results := [.lit (.bool true)], args := [d1, d2, d3, d4, d5, d6, d7] }
  | _ => none }
def meanRunsRow : OpenClaim := { program := "ytomjidlkaocmkaagreat", sum := "85aaa7e43997ac014430390875641c672b088051c489b02c7c477102585bb6d5", func := "hawser/hawserlaw12.MeanRuns", spec := "meanRuns", inPlace := ["internal/abi.NoEscape", "internal/bytealg.MakeNoZero", "internal/bytealg.IndexByteString", "internal/bytealg.IndexString", "math.archTrunc", "math.Float64bits", "math.Float64frombits"], unfollowed := true, recurses := true, named := ["internal/bytealg.MaxLen"], apart := false }
def MeanRunsSaid : Prop := meanRunsRow.holds Tryz.pinned (OpenSpec.ofChange meanRunsSpec)

/-- ITS FALSE NEIGHBOUR: 'it returns false'. Refute it at one input. -/
def meanRunsWrong : ChangeSpec := { name := "meanRuns", fn := fun _ => fun
  | [d1, d2, d3, d4, d5, d6, d7] => { results := [.lit (.bool false)], args := [d1, d2, d3, d4, d5, d6, d7] }
  | _ => none }
def MeanRunsWrongFalsely : Prop := meanRunsRow.holds Tryz.pinned (OpenSpec.ofChange meanRunsWrong)

/-- 'hawserlaw12.MeanFuel': WHATEVER THE INPUT: true; the input reads as it did. -/
def meanFuelSpec : ChangeSpec := { name := "meanFuel", fn := fun _ => fun
  | [d1, d2, d3, d4, d5, d6] => { results := [.lit (.bool true)], args := [d1, d2, d3, d4, d5, d6] }
  | _ => none }
def meanFuelRow : OpenClaim := { program := "ytomjidlkaocmkaagreat", sum := "85aaa7e43997ac014430390875641c672b088051c489b02c7c477102585bb6d5", func := "hawser/hawserlaw12.MeanFuel", spec := "meanFuel", inPlace := ["internal/abi.NoEscape", "internal/bytealg.MakeNoZero", "internal/bytealg.IndexByteString", "internal/bytealg.IndexString", "math.archTrunc", "math.Float64bits", "math.Float64frombits"], unfollowed := true, recurses := true, named := ["internal/bytealg.MaxLen"], apart := false }
def MeanFuelSaid : Prop := meanFuelRow.holds Tryz.pinned (OpenSpec.ofChange meanFuelSpec)

/-- ITS FALSE NEIGHBOUR: 'it returns false'. Refute it at one input. -/
def meanFuelWrong : ChangeSpec := { name := "meanFuel", fn := fun _ => fun
  | [d1, d2, d3, d4, d5, d6] => { results := [.lit (.bool false)], args := [d1, d2, d3, d4, d5, d6] }
  | _ => none }
def MeanFuelWrongFalsely : Prop := meanFuelRow.holds Tryz.pinned (OpenSpec.ofChange meanFuelWrong)

/-- 'hawserlaw12.MeanOrderless': WHATEVER THE INPUT: true; the input reads as it did. -/
def meanOrderlessSpec : ChangeSpec := { name := "meanOrderless", fn := fun _ => fun
  | [d1, d2, d3, d4, d5] => { results := [.lit (.bool true)], args := [d1, d2, d3, d4, d5] }
  | _ => none }
def meanOrderlessRow : OpenClaim := { program := "ytomjidlkaocmkaagreat", sum := "85aaa7e43997ac014430390875641c672b088051c489b02c7c477102585bb6d5", func := "hawser/hawserlaw12.MeanOrderless", spec := "meanOrderless", inPlace := ["internal/abi.NoEscape", "internal/bytealg.MakeNoZero", "internal/bytealg.IndexByteString", "internal/bytealg.IndexString", "math.archTrunc", "math.Float64bits", "math.Float64frombits"], unfollowed := true, recurses := true, named := ["internal/bytealg.MaxLen"], apart := false }
def MeanOrderlessSaid : Prop := meanOrderlessRow.holds Tryz.pinned (OpenSpec.ofChange meanOrderlessSpec)

/-- ITS FALSE NEIGHBOUR: 'it returns false'. Refute it at one input. -/
def meanOrderlessWrong : ChangeSpec := { name := "meanOrderless", fn := fun _ => fun
  | [d1, d2, d3, d4, d5] => { results := [.lit (.bool false)], args := [d1, d2, d3, d4, d5] }
  | _ => none }
def MeanOrderlessWrongFalsely : Prop := meanOrderlessRow.holds Tryz.pinned (OpenSpec.ofChange meanOrderlessWrong)

/-- 'hawserlaw12.MeanCounts': WHATEVER THE INPUT: true; the input reads as it did. -/
def meanCountsSpec : ChangeSpec := { name := "meanCounts", fn := fun _ => fun
  | [d] => { results := [.lit (.bool true)], args := [d] }
  | _ => none }
def meanCountsRow : OpenClaim := { program := "ytomjidlkaocmkaagreat", sum := "85aaa7e43997ac014430390875641c672b088051c489b02c7c477102585bb6d5", func := "hawser/hawserlaw12.MeanCounts", spec := "meanCounts", inPlace := ["internal/abi.NoEscape", "internal/bytealg.MakeNoZero", "internal/bytealg.IndexByteString", "internal/bytealg.IndexString", "math.archTrunc", "math.Float64bits", "math.Float64frombits"], unfollowed := true, recurses := true, named := ["internal/bytealg.MaxLen"], apart := false }
def MeanCountsSaid : Prop := meanCountsRow.holds Tryz.pinned (OpenSpec.ofChange meanCountsSpec)

/-- ITS FALSE NEIGHBOUR: 'it returns false'. Refute it at one input. -/
def meanCountsWrong : ChangeSpec := { name := "meanCounts", fn := fun _ => fun
  | [d] => { results := [.lit (.bool false)], args := [d] }
  | _ => none }
def MeanCountsWrongFalsely : Prop := meanCountsRow.holds Tryz.pinned (OpenSpec.ofChange meanCountsWrong)

/- THE SECOND FORM. 'bulk': how many values and letters a reading holds, each counted each time it is reached (what is shared counts as often as it is met; a slice's spare places count too). A statement '..UptoSaid' is the law's where the arguments, and the package variables that the reading takes, are together of bulk at most 1048576: NARROWER than '..Said'. Prove '..Said' where nothing that the law and all that it calls make is longer than what came in: it says more and counts as full. Else prove '..UptoSaid'. A law counts once. -/
mutual
def uptoBulk {H : Type} : DataW H → Nat
  | .lit (.string bytes) => bytes.length + 1
  | .lit _ => 1
  | .nil => 1
  | .ptr d => uptoBulk d + 1
  | .slice elems spare => uptoBulkAll elems + uptoBulkAll spare + 1
  | .agg parts => uptoBulkAll parts + 1
  | .iface _ d => uptoBulk d + 1
  | .map entries => uptoBulkEntries entries + 1
  | .held _ => 1
def uptoBulkAll {H : Type} : List (DataW H) → Nat
  | [] => 0
  | d :: r => uptoBulk d + uptoBulkAll r
def uptoBulkEntries {H : Type} : List (Lit × DataW H) → Nat
  | [] => 0
  | x :: r => uptoBulkEntry x + uptoBulkEntries r
def uptoBulkEntry {H : Type} : Lit × DataW H → Nat
  | (.string bytes, d) => bytes.length + uptoBulk d + 1
  | (_, d) => uptoBulk d + 1
 end
def uptoSmall : (H : Type) → List (DataW H) → Bool := fun _ ds => decide (uptoBulkAll ds ≤ 1048576)
def OpenSpec.upto (s : _root_.Go.ChangeSpec) : _root_.Go.OpenSpec := { _root_.Go.OpenSpec.ofChange s with cond := some uptoSmall }

/-- 'hawserlaw12.MeanNumbers', WHERE WHAT IT READS IS OF BULK AT MOST 1048576: true; the input reads as it did. -/
def meanNumbersUptoRow : OpenClaim := { program := "ytomjidlkaocmkaagreat", sum := "85aaa7e43997ac014430390875641c672b088051c489b02c7c477102585bb6d5", func := "hawser/hawserlaw12.MeanNumbers", spec := "meanNumbers", inPlace := ["internal/abi.NoEscape", "internal/bytealg.MakeNoZero", "internal/bytealg.IndexByteString", "internal/bytealg.IndexString", "math.archTrunc", "math.Float64bits", "math.Float64frombits"], unfollowed := true, recurses := true, named := ["internal/bytealg.MaxLen"], apart := false, narrowed := true }
def MeanNumbersUptoSaid : Prop := meanNumbersUptoRow.holds Tryz.pinned (OpenSpec.upto meanNumbersSpec)

/-- 'hawserlaw12.MeanRuns', WHERE WHAT IT READS IS OF BULK AT MOST 1048576: true; the input reads as it did. -/
def meanRunsUptoRow : OpenClaim := { program := "ytomjidlkaocmkaagreat", sum := "85aaa7e43997ac014430390875641c672b088051c489b02c7c477102585bb6d5", func := "hawser/hawserlaw12.MeanRuns", spec := "meanRuns", inPlace := ["internal/abi.NoEscape", "internal/bytealg.MakeNoZero", "internal/bytealg.IndexByteString", "internal/bytealg.IndexString", "math.archTrunc", "math.Float64bits", "math.Float64frombits"], unfollowed := true, recurses := true, named := ["internal/bytealg.MaxLen"], apart := false, narrowed := true }
def MeanRunsUptoSaid : Prop := meanRunsUptoRow.holds Tryz.pinned (OpenSpec.upto meanRunsSpec)

/-- 'hawserlaw12.MeanFuel', WHERE WHAT IT READS IS OF BULK AT MOST 1048576: true; the input reads as it did. -/
def meanFuelUptoRow : OpenClaim := { program := "ytomjidlkaocmkaagreat", sum := "85aaa7e43997ac014430390875641c672b088051c489b02c7c477102585bb6d5", func := "hawser/hawserlaw12.MeanFuel", spec := "meanFuel", inPlace := ["internal/abi.NoEscape", "internal/bytealg.MakeNoZero", "internal/bytealg.IndexByteString", "internal/bytealg.IndexString", "math.archTrunc", "math.Float64bits", "math.Float64frombits"], unfollowed := true, recurses := true, named := ["internal/bytealg.MaxLen"], apart := false, narrowed := true }
def MeanFuelUptoSaid : Prop := meanFuelUptoRow.holds Tryz.pinned (OpenSpec.upto meanFuelSpec)

/-- 'hawserlaw12.MeanOrderless', WHERE WHAT IT READS IS OF BULK AT MOST 1048576: true; the input reads as it did. -/
def meanOrderlessUptoRow : OpenClaim := { program := "ytomjidlkaocmkaagreat", sum := "85aaa7e43997ac014430390875641c672b088051c489b02c7c477102585bb6d5", func := "hawser/hawserlaw12.MeanOrderless", spec := "meanOrderless", inPlace := ["internal/abi.NoEscape", "internal/bytealg.MakeNoZero", "internal/bytealg.IndexByteString", "internal/bytealg.IndexString", "math.archTrunc", "math.Float64bits", "math.Float64frombits"], unfollowed := true, recurses := true, named := ["internal/bytealg.MaxLen"], apart := false, narrowed := true }
def MeanOrderlessUptoSaid : Prop := meanOrderlessUptoRow.holds Tryz.pinned (OpenSpec.upto meanOrderlessSpec)

/-- 'hawserlaw12.MeanCounts', WHERE WHAT IT READS IS OF BULK AT MOST 1048576: true; the input reads as it did. -/
def meanCountsUptoRow : OpenClaim := { program := "ytomjidlkaocmkaagreat", sum := "85aaa7e43997ac014430390875641c672b088051c489b02c7c477102585bb6d5", func := "hawser/hawserlaw12.MeanCounts", spec := "meanCounts", inPlace := ["internal/abi.NoEscape", "internal/bytealg.MakeNoZero", "internal/bytealg.IndexByteString", "internal/bytealg.IndexString", "math.archTrunc", "math.Float64bits", "math.Float64frombits"], unfollowed := true, recurses := true, named := ["internal/bytealg.MaxLen"], apart := false, narrowed := true }
def MeanCountsUptoSaid : Prop := meanCountsUptoRow.holds Tryz.pinned (OpenSpec.upto meanCountsSpec)

end Rows
end Go.Proofs.YtomjidlkaocmkaaGreat
