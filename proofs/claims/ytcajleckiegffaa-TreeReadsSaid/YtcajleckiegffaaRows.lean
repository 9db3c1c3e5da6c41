/-
  No cell of these rows narrows 'for every input' (looked for: loops, veiled, ifaces, maps, wideKeys, modest, calm, conditions, laid).
  DERIVED. THE GIVEN ROWS OF THIS SEAT. 7 by the template 'for every input the law returns true; each argument reads behind the call as it read before'; 0 by the template 'total and deterministic' (their statements: YtcajleckiegffaaTotals.lean).
  GIVEN WITH THE SEED: the statements are not yours to turn. If you find one false, say at which input.
  Laid BY PROGRAM, IN A SANDBOX (cutbox-rows.mjs): the forced cells as the released guide's own fill.sh prints them over the translation d9152ea6890c368a… (all of the seat's roots in one cut). By AI agents, Wed Nov 11 2026. No macro, syntax, notation, axiom, sorry.
-/
import Derived.Test.YtcajleckiegffaaChecked
import GoSem.Claim
import GoSem.ClaimJoined
import GoSem.ClaimMapViews
import Derived.JoinedTies
import Derived.KernelRfl
namespace Go.Proofs.Ytcajleckiegffaa
/- THE CELL 'sum', in the pinned program and in every row, IS THE sha256 OF THE DUMP (.gsa) THAT YtcajleckiegffaaProg.lean LOADS. Nothing in Lean hashes anything: it is a label: what it is worth is what the hold of that sum in a sandbox is worth. -/
noncomputable def Try.pinned : Pinned := { name := "ytcajleckiegffaa", sum := "d9152ea6890c368a9aff921716ffde4f404f8a81d98dce9e09859faf37d4eb38", checked := Try.checked }
namespace Rows
def none {H : Type} : Left H := { results := [], args := [] }

/-- 'hawserlaw3.LexPlaces': WHATEVER THE INPUT: true; the input reads as it did. -/
def lexPlacesSpec : ChangeSpec := { name := "lexPlaces", fn := fun _ => fun
  | [d] => { results := [.lit (.bool true)], args := [d] }
  | _ => none }
def lexPlacesRow : OpenClaim := { program := "ytcajleckiegffaa", sum := "d9152ea6890c368a9aff921716ffde4f404f8a81d98dce9e09859faf37d4eb38", func := "hawser/hawserlaw3.LexPlaces", spec := "lexPlaces", inPlace := ["internal/bytealg.IndexByteString"], apart := false }
def LexPlacesSaid : Prop := lexPlacesRow.holds Try.pinned (OpenSpec.ofChange lexPlacesSpec)

/-- ITS FALSE NEIGHBOUR: 'it returns false'. Refute it at one input. -/
def lexPlacesWrong : ChangeSpec := { name := "lexPlaces", fn := fun _ => fun
  | [d] => { results := [.lit (.bool false)], args := [d] }
  | _ => none }
def LexPlacesWrongFalsely : Prop := lexPlacesRow.holds Try.pinned (OpenSpec.ofChange lexPlacesWrong)

/-- 'hawserlaw3.LexRemarks': WHATEVER THE INPUT: true; the input reads as it did. -/
def lexRemarksSpec : ChangeSpec := { name := "lexRemarks", fn := fun _ => fun
  | [d1, d2, d3] => { results := [.lit (.bool true)], args := [d1, d2, d3] }
  | _ => none }
def lexRemarksRow : OpenClaim := { program := "ytcajleckiegffaa", sum := "d9152ea6890c368a9aff921716ffde4f404f8a81d98dce9e09859faf37d4eb38", func := "hawser/hawserlaw3.LexRemarks", spec := "lexRemarks", inPlace := ["internal/bytealg.IndexByteString"], apart := false }
def LexRemarksSaid : Prop := lexRemarksRow.holds Try.pinned (OpenSpec.ofChange lexRemarksSpec)

/-- ITS FALSE NEIGHBOUR: 'it returns false'. Refute it at one input. -/
def lexRemarksWrong : ChangeSpec := { name := "lexRemarks", fn := fun _ => fun
  | [d1, d2, d3] => { results := [.lit (.bool false)], args := [d1, d2, d3] }
  | _ => none }
def LexRemarksWrongFalsely : Prop := lexRemarksRow.holds Try.pinned (OpenSpec.ofChange lexRemarksWrong)

/-- 'hawserlaw4.TreeNumbers': WHATEVER THE INPUT: true; the input reads as it did. -/
def treeNumbersSpec : ChangeSpec := { name := "treeNumbers", fn := fun _ => fun
  | [] => { results := [.lit (.bool true)], args := [] }
  | _ => none }
def treeNumbersRow : OpenClaim := { program := "ytcajleckiegffaa", sum := "d9152ea6890c368a9aff921716ffde4f404f8a81d98dce9e09859faf37d4eb38", func := "hawser/hawserlaw4.TreeNumbers", spec := "treeNumbers", inPlace := ["internal/bytealg.IndexByteString", "internal/abi.NoEscape", "internal/bytealg.MakeNoZero"], recurses := true, apart := false }
def TreeNumbersSaid : Prop := treeNumbersRow.holds Try.pinned (OpenSpec.ofChange treeNumbersSpec)

/-- ITS FALSE NEIGHBOUR: 'it returns false'. Refute it at one input. -/
def treeNumbersWrong : ChangeSpec := { name := "treeNumbers", fn := fun _ => fun
  | [] => { results := [.lit (.bool false)], args := [] }
  | _ => none }
def TreeNumbersWrongFalsely : Prop := treeNumbersRow.holds Try.pinned (OpenSpec.ofChange treeNumbersWrong)

/-- 'hawserlaw4.TreeReads': WHATEVER THE INPUT: true; the input reads as it did. -/
def treeReadsSpec : ChangeSpec := { name := "treeReads", fn := fun _ => fun
  | [d] => { results := [.lit (.bool true)], args := [d] }
  | _ => none }
def treeReadsRow : OpenClaim := { program := "ytcajleckiegffaa", sum := "d9152ea6890c368a9aff921716ffde4f404f8a81d98dce9e09859faf37d4eb38", func := "hawser/hawserlaw4.TreeReads", spec := "treeReads", inPlace := ["internal/bytealg.IndexByteString", "internal/abi.NoEscape", "internal/bytealg.MakeNoZero"], recurses := true, apart := false }
def TreeReadsSaid : Prop := treeReadsRow.holds Try.pinned (OpenSpec.ofChange treeReadsSpec)

/-- ITS FALSE NEIGHBOUR: 'it returns false'. Refute it at one input. -/
def treeReadsWrong : ChangeSpec := { name := "treeReads", fn := fun _ => fun
  | [d] => { results := [.lit (.bool false)], args := [d] }
  | _ => none }
def TreeReadsWrongFalsely : Prop := treeReadsRow.holds Try.pinned (OpenSpec.ofChange treeReadsWrong)

/-- 'hawserlaw4.TreeBack': WHATEVER THE INPUT: true; the input reads as it did. -/
def treeBackSpec : ChangeSpec := { name := "treeBack", fn := fun _ => fun
  | [d1, d2] => { results := [.lit (.bool true)], args := [d1, d2] }
  | _ => none }
def treeBackRow : OpenClaim := { program := "ytcajleckiegffaa", sum := "d9152ea6890c368a9aff921716ffde4f404f8a81d98dce9e09859faf37d4eb38", func := "hawser/hawserlaw4.TreeBack", spec := "treeBack", inPlace := ["internal/abi.NoEscape", "internal/bytealg.MakeNoZero", "internal/bytealg.IndexByteString"], recurses := true, apart := false }
def TreeBackSaid : Prop := treeBackRow.holds Try.pinned (OpenSpec.ofChange treeBackSpec)

/-- ITS FALSE NEIGHBOUR: 'it returns false'. Refute it at one input. -/
def treeBackWrong : ChangeSpec := { name := "treeBack", fn := fun _ => fun
  | [d1, d2] => { results := [.lit (.bool false)], args := [d1, d2] }
  | _ => none }
def TreeBackWrongFalsely : Prop := treeBackRow.holds Try.pinned (OpenSpec.ofChange treeBackWrong)

/-- 'hawserlaw4.TreeDeep': WHATEVER THE INPUT: true; the input reads as it did. -/
def treeDeepSpec : ChangeSpec := { name := "treeDeep", fn := fun _ => fun
  | [d1, d2] => { results := [.lit (.bool true)], args := [d1, d2] }
  | _ => none }
def treeDeepRow : OpenClaim := { program := "ytcajleckiegffaa", sum := "d9152ea6890c368a9aff921716ffde4f404f8a81d98dce9e09859faf37d4eb38", func := "hawser/hawserlaw4.TreeDeep", spec := "treeDeep", inPlace := ["internal/bytealg.IndexByteString", "internal/abi.NoEscape", "internal/bytealg.MakeNoZero"], recurses := true, apart := false }
def TreeDeepSaid : Prop := treeDeepRow.holds Try.pinned (OpenSpec.ofChange treeDeepSpec)

/-- ITS FALSE NEIGHBOUR: 'it returns false'. Refute it at one input. -/
def treeDeepWrong : ChangeSpec := { name := "treeDeep", fn := fun _ => fun
  | [d1, d2] => { results := [.lit (.bool false)], args := [d1, d2] }
  | _ => none }
def TreeDeepWrongFalsely : Prop := treeDeepRow.holds Try.pinned (OpenSpec.ofChange treeDeepWrong)

/-- 'hawserlaw4.TreeKids': WHATEVER THE INPUT: true; the input reads as it did. -/
def treeKidsSpec : ChangeSpec := { name := "treeKids", fn := fun _ => fun
  | [d] => { results := [.lit (.bool true)], args := [d] }
  | _ => none }
def treeKidsRow : OpenClaim := { program := "ytcajleckiegffaa", sum := "d9152ea6890c368a9aff921716ffde4f404f8a81d98dce9e09859faf37d4eb38", func := "hawser/hawserlaw4.TreeKids", spec := "treeKids", inPlace := ["internal/bytealg.IndexByteString", "internal/abi.NoEscape", "internal/bytealg.MakeNoZero"], recurses := true, apart := false }
def TreeKidsSaid : Prop := treeKidsRow.holds Try.pinned (OpenSpec.ofChange treeKidsSpec)

/-- ITS FALSE NEIGHBOUR: 'it returns false'. Refute it at one input. -/
def treeKidsWrong : ChangeSpec := { name := "treeKids", fn := fun _ => fun
  | [d] => { results := [.lit (.bool false)], args := [d] }
  | _ => none }
def TreeKidsWrongFalsely : Prop := treeKidsRow.holds Try.pinned (OpenSpec.ofChange treeKidsWrong)

/- THE SECOND FORM. 'bulk': how many values and letters a reading holds, each counted each time it is reached (what is shared counts as often as it is met; a slice's spare places count too). A statement '..UptoSaid' is the law's where the arguments, and the package variables that the reading takes, are together of bulk at most 1048576: NARROWER than '..Said'. Prove '..Said' where nothing that the law and all that it calls make is longer than what came in: it says more and counts as full. Else prove '..UptoSaid'. A law counts once. -/
mutual
def uptoBulk {H : Type} : DataW H → Nat
  | .lit (.string bytes) => bytes.length + 1
  | .lit _ => 1
  | .nil => 1
  | .ptr d => uptoBulk d + 1
  | .slice elems spare => uptoBulkAll elems + uptoBulkAll spare + 1
  | .agg parts => uptoBulkAll parts + 1
  | .iface _ d => uptoBulk d + 1
  | .map entries => uptoBulkEntries entries + 1
  | .held _ => 1
def uptoBulkAll {H : Type} : List (DataW H) → Nat
  | [] => 0
  | d :: r => uptoBulk d + uptoBulkAll r
def uptoBulkEntries {H : Type} : List (Lit × DataW H) → Nat
  | [] => 0
  | x :: r => uptoBulkEntry x + uptoBulkEntries r
def uptoBulkEntry {H : Type} : Lit × DataW H → Nat
  | (.string bytes, d) => bytes.length + uptoBulk d + 1
  | (_, d) => uptoBulk d + 1
 end
def uptoSmall : (H : Type) → List (DataW H) → Bool := fun _ ds => decide (uptoBulkAll ds ≤ 1048576)
def OpenSpec.upto (s : _root_.Go.ChangeSpec) : _root_.Go.OpenSpec := { _root_.Go.OpenSpec.ofChange s with cond := some uptoSmall }

/-- 'hawserlaw3.LexPlaces', WHERE WHAT IT READS IS OF BULK AT MOST 1048576: true; the input reads as it did. -/
def lexPlacesUptoRow : OpenClaim := { program := "ytcajleckiegffaa", sum := "d9152ea6890c368a9aff921716ffde4f404f8a81d98dce9e09859faf37d4eb38", func := "hawser/hawserlaw3.LexPlaces", spec := "lexPlaces", inPlace := ["internal/bytealg.IndexByteString"], apart := false, narrowed := true }
def LexPlacesUptoSaid : Prop := lexPlacesUptoRow.holds Try.pinned (OpenSpec.upto lexPlacesSpec)

/-- 'hawserlaw3.LexRemarks', WHERE WHAT IT READS IS OF BULK AT MOST 1048576: true; the input reads as it did. -/
def lexRemarksUptoRow : OpenClaim := { program := "ytcajleckiegffaa", sum := "d9152ea6890c368a9aff921716ffde4f404f8a81d98dce9e09859faf37d4eb38", func := "hawser/hawserlaw3.LexRemarks", spec := "lexRemarks", inPlace := ["internal/bytealg.IndexByteString"], apart := false, narrowed := true }
def LexRemarksUptoSaid : Prop := lexRemarksUptoRow.holds Try.pinned (OpenSpec.upto lexRemarksSpec)

/-- 'hawserlaw4.TreeNumbers', WHERE WHAT IT READS IS OF BULK AT MOST 1048576: true; the input reads as it did. -/
def treeNumbersUptoRow : OpenClaim := { program := "ytcajleckiegffaa", sum := "d9152ea6890c368a9aff921716ffde4f404f8a81d98dce9e09859faf37d4eb38", func := "hawser/hawserlaw4.TreeNumbers", spec := "treeNumbers", inPlace := ["internal/bytealg.IndexByteString", "internal/abi.NoEscape", "internal/bytealg.MakeNoZero"], recurses := true, apart := false, narrowed := true }
def TreeNumbersUptoSaid : Prop := treeNumbersUptoRow.holds Try.pinned (OpenSpec.upto treeNumbersSpec)

/-- 'hawserlaw4.TreeReads', WHERE WHAT IT READS IS OF BULK AT MOST 1048576: true; the input reads as it did. -/
def treeReadsUptoRow : OpenClaim := { program := "ytcajleckiegffaa", sum := "d9152ea6890c368a9aff921716ffde4f404f8a81d98dce9e09859faf37d4eb38", func := "hawser/hawserlaw4.TreeReads", spec := "treeReads", inPlace := ["internal/bytealg.IndexByteString", "internal/abi.NoEscape", "internal/bytealg.MakeNoZero"], recurses := true, apart := false, narrowed := true }
def TreeReadsUptoSaid : Prop := treeReadsUptoRow.holds Try.pinned (OpenSpec.upto treeReadsSpec)

/-- 'hawserlaw4.TreeBack', WHERE WHAT IT READS IS OF BULK AT MOST 1048576: true; the input reads as it did. -/
def treeBackUptoRow : OpenClaim := { program := "ytcajleckiegffaa", sum := "d9152ea6890c368a9aff921716ffde4f404f8a81d98dce9e09859faf37d4eb38", func := "hawser/hawserlaw4.TreeBack", spec := "treeBack", inPlace := ["internal/abi.NoEscape", "internal/bytealg.MakeNoZero", "internal/bytealg.IndexByteString"], recurses := true, apart := false, narrowed := true }
def TreeBackUptoSaid : Prop := treeBackUptoRow.holds Try.pinned (OpenSpec.upto treeBackSpec)

/-- 'hawserlaw4.TreeDeep', WHERE WHAT IT READS IS OF BULK AT MOST 1048576: true; the input reads as it did. -/
def treeDeepUptoRow : OpenClaim := { program := "ytcajleckiegffaa", sum := "d9152ea6890c368a9aff921716ffde4f404f8a81d98dce9e09859faf37d4eb38", func := "hawser/hawserlaw4.TreeDeep", spec := "treeDeep", inPlace := ["internal/bytealg.IndexByteString", "internal/abi.NoEscape", "internal/bytealg.MakeNoZero"], recurses := true, apart := false, narrowed := true }
def TreeDeepUptoSaid : Prop := treeDeepUptoRow.holds Try.pinned (OpenSpec.upto treeDeepSpec)

/-- 'hawserlaw4.TreeKids', WHERE WHAT IT READS IS OF BULK AT MOST 1048576: true; the input reads as it did. -/
def treeKidsUptoRow : OpenClaim := { program := "ytcajleckiegffaa", sum := "d9152ea6890c368a9aff921716ffde4f404f8a81d98dce9e09859faf37d4eb38", func := "hawser/hawserlaw4.TreeKids", spec := "treeKids", inPlace := ["internal/bytealg.IndexByteString", "internal/abi.NoEscape", "internal/bytealg.MakeNoZero"], recurses := true, apart := false, narrowed := true }
def TreeKidsUptoSaid : Prop := treeKidsUptoRow.holds Try.pinned (OpenSpec.upto treeKidsSpec)

end Rows
end Go.Proofs.Ytcajleckiegffaa
