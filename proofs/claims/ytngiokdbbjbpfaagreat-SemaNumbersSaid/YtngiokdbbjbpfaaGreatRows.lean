/-
  No cell of these rows narrows 'for every input' (looked for: loops, veiled, ifaces, maps, wideKeys, modest, calm, conditions, laid).
  DERIVED. THE GIVEN ROWS OF THIS SEAT. 4 by the template 'for every input the law returns true; each argument reads behind the call as it read before'; 0 by the template 'total and deterministic' (their statements: YtngiokdbbjbpfaaGreatTotals.lean).
  GIVEN WITH THE SEED: the statements are not yours to turn. If you find one false, say at which input.
  Laid BY PROGRAM, IN A SANDBOX (cutbox-rows.mjs): the forced cells as the released guide's own fill.sh prints them over the translation 74d8569073e7e4b2… (all of the seat's roots in one cut). By AI agents, Wed Nov 11 2026. No macro, syntax, notation, axiom, sorry.
-/
import Derived.Test.YtngiokdbbjbpfaaGreatChecked
import GoSem.Claim
import GoSem.ClaimJoined
import GoSem.ClaimMapViews
import Derived.JoinedTies
import Derived.KernelRfl
namespace Go.Proofs.YtngiokdbbjbpfaaGreat
/- THE CELL 'sum', in the pinned program and in every row, IS THE sha256 OF THE DUMP (.gsa) THAT YtngiokdbbjbpfaaGreatProg.lean LOADS. Nothing in Lean hashes anything: it is a label: what it is worth is what the hold of that sum in a sandbox is worth. -/
noncomputable def Tryz.pinned : Pinned := { name := "ytngiokdbbjbpfaagreat", sum := "74d8569073e7e4b24cb8aa33621f51c9c43ca9b9976e25ca996c285e6f2708da", checked := Tryz.checked }
namespace Rows
def none {H : Type} : Left H := { results := [], args := [] }

/-- 'hawserlaw9.SemaNumbers': WHATEVER THE INPUT: true; the input reads as it did. -/
def semaNumbersSpec : ChangeSpec := { name := "semaNumbers", fn := fun _ => fun
  | [] => { results := [.lit (.bool true)], args := [] }
  | _ => none }
def semaNumbersRow : OpenClaim := { program := "ytngiokdbbjbpfaagreat", sum := "74d8569073e7e4b24cb8aa33621f51c9c43ca9b9976e25ca996c285e6f2708da", func := "hawser/hawserlaw9.SemaNumbers", spec := "semaNumbers", inPlace := ["internal/abi.NoEscape", "internal/bytealg.MakeNoZero", "internal/bytealg.IndexByteString", "internal/bytealg.IndexString"], unfollowed := true, recurses := true, named := ["internal/bytealg.MaxLen"], apart := false }
def SemaNumbersSaid : Prop := semaNumbersRow.holds Tryz.pinned (OpenSpec.ofChange semaNumbersSpec)

/-- ITS FALSE NEIGHBOUR: 'it returns false'. Refute it at one input. -/
def semaNumbersWrong : ChangeSpec := { name := "semaNumbers", fn := fun _ => fun
  | [] => { results := [.lit (.bool false)], args := [] }
  | _ => none }
def SemaNumbersWrongFalsely : Prop := semaNumbersRow.holds Tryz.pinned (OpenSpec.ofChange semaNumbersWrong)

/-- 'hawserlaw9.SemaExprs': WHATEVER THE INPUT: true; the input reads as it did. -/
def semaExprsSpec : ChangeSpec := { name := "semaExprs", fn := fun _ => fun
  | [d1, d2, d3, d4] => { results := [.lit (.bool true)], args := [d1, d2, d3, d4] }
  | _ => none }
def semaExprsRow : OpenClaim := { program := "ytngiokdbbjbpfaagreat", sum := "74d8569073e7e4b24cb8aa33621f51c9c43ca9b9976e25ca996c285e6f2708da", func := "hawser/hawserlaw9.SemaExprs", spec := "semaExprs", inPlace := ["internal/abi.NoEscape", "internal/bytealg.MakeNoZero", "internal/bytealg.IndexByteString", "internal/bytealg.IndexString"], unfollowed := true, recurses := true, named := ["internal/bytealg.MaxLen"], apart := false }
def SemaExprsSaid : Prop := semaExprsRow.holds Tryz.pinned (OpenSpec.ofChange semaExprsSpec)

/-- ITS FALSE NEIGHBOUR: 'it returns false'. Refute it at one input. -/
def semaExprsWrong : ChangeSpec := { name := "semaExprs", fn := fun _ => fun
  | [d1, d2, d3, d4] => { results := [.lit (.bool false)], args := [d1, d2, d3, d4] }
  | _ => none }
def SemaExprsWrongFalsely : Prop := semaExprsRow.holds Tryz.pinned (OpenSpec.ofChange semaExprsWrong)

/-- 'hawserlaw9.SemaHides': WHATEVER THE INPUT: true; the input reads as it did. -/
def semaHidesSpec : ChangeSpec := { name := "semaHides", fn := fun _ => fun
  | [d1, d2] => { results := [.lit (.bool true)], args := [d1, d2] }
  | _ => none }
def semaHidesRow : OpenClaim := { program := "ytngiokdbbjbpfaagreat", sum := "74d8569073e7e4b24cb8aa33621f51c9c43ca9b9976e25ca996c285e6f2708da", func := "hawser/hawserlaw9.SemaHides", spec := "semaHides", inPlace := ["internal/abi.NoEscape", "internal/bytealg.MakeNoZero", "internal/bytealg.IndexByteString", "internal/bytealg.IndexString"], unfollowed := true, recurses := true, named := ["internal/bytealg.MaxLen"], apart := false }
def SemaHidesSaid : Prop := semaHidesRow.holds Tryz.pinned (OpenSpec.ofChange semaHidesSpec)

/-- ITS FALSE NEIGHBOUR: 'it returns false'. Refute it at one input. -/
def semaHidesWrong : ChangeSpec := { name := "semaHides", fn := fun _ => fun
  | [d1, d2] => { results := [.lit (.bool false)], args := [d1, d2] }
  | _ => none }
def SemaHidesWrongFalsely : Prop := semaHidesRow.holds Tryz.pinned (OpenSpec.ofChange semaHidesWrong)

/-- 'hawserlaw9.SemaBranches': WHATEVER THE INPUT: true; the input reads as it did. -/
def semaBranchesSpec : ChangeSpec := { name := "semaBranches", fn := fun _ => fun
  | [d1, d2] => { results := [.lit (.bool true)], args := [d1, d2] }
  | _ => none }
def semaBranchesRow : OpenClaim := { program := "ytngiokdbbjbpfaagreat", sum := "74d8569073e7e4b24cb8aa33621f51c9c43ca9b9976e25ca996c285e6f2708da", func := "hawser/hawserlaw9.SemaBranches", spec := "semaBranches", inPlace := ["internal/abi.NoEscape", "internal/bytealg.MakeNoZero", "internal/bytealg.IndexByteString", "internal/bytealg.IndexString"], unfollowed := true, recurses := true, named := ["internal/bytealg.MaxLen"], apart := false }
def SemaBranchesSaid : Prop := semaBranchesRow.holds Tryz.pinned (OpenSpec.ofChange semaBranchesSpec)

/-- ITS FALSE NEIGHBOUR: 'it returns false'. Refute it at one input. -/
def semaBranchesWrong : ChangeSpec := { name := "semaBranches", fn := fun _ => fun
  | [d1, d2] => { results := [.lit (.bool false)], args := [d1, d2] }
  | _ => none }
def SemaBranchesWrongFalsely : Prop := semaBranchesRow.holds Tryz.pinned (OpenSpec.ofChange semaBranchesWrong)

/- THE SECOND FORM. 'bulk': how many values and letters a reading holds, each counted each time it is reached (what is shared counts as often as it is met; a slice's spare places count too). A statement '..UptoSaid' is the law's where the arguments, and the package variables that the reading takes, are together of bulk at most 1048576: NARROWER than '..Said'. Prove '..Said' where nothing that the law and all that it calls make is longer than what came in: it says more and counts as full. Else prove '..UptoSaid'. A law counts once. -/
mutual
def uptoBulk {H : Type} : DataW H → Nat
  | .lit (.string bytes) => bytes.length + 1
  | .lit _ => 1
  | .nil => 1
  | .ptr d => uptoBulk d + 1
  | .slice elems spare => uptoBulkAll elems + uptoBulkAll spare + 1
  | .agg parts => uptoBulkAll parts + 1
  | .iface _ d => uptoBulk d + 1
  | .map entries => uptoBulkEntries entries + 1
  | .held _ => 1
def uptoBulkAll {H : Type} : List (DataW H) → Nat
  | [] => 0
  | d :: r => uptoBulk d + uptoBulkAll r
def uptoBulkEntries {H : Type} : List (Lit × DataW H) → Nat
  | [] => 0
  | x :: r => uptoBulkEntry x + uptoBulkEntries r
def uptoBulkEntry {H : Type} : Lit × DataW H → Nat
  | (.string bytes, d) => bytes.length + uptoBulk d + 1
  | (_, d) => uptoBulk d + 1
 end
def uptoSmall : (H : Type) → List (DataW H) → Bool := fun _ ds => decide (uptoBulkAll ds ≤ 1048576)
def OpenSpec.upto (s : _root_.Go.ChangeSpec) : _root_.Go.OpenSpec := { _root_.Go.OpenSpec.ofChange s with cond := some uptoSmall }

/-- 'hawserlaw9.SemaNumbers', WHERE WHAT IT READS IS OF BULK AT MOST 1048576: true; the input reads as it did. -/
def semaNumbersUptoRow : OpenClaim := { program := "ytngiokdbbjbpfaagreat", sum := "74d8569073e7e4b24cb8aa33621f51c9c43ca9b9976e25ca996c285e6f2708da", func := "hawser/hawserlaw9.SemaNumbers", spec := "semaNumbers", inPlace := ["internal/abi.NoEscape", "internal/bytealg.MakeNoZero", "internal/bytealg.IndexByteString", "internal/bytealg.IndexString"], unfollowed := true, recurses := true, named := ["internal/bytealg.MaxLen"], apart := false, narrowed := true }
def SemaNumbersUptoSaid : Prop := semaNumbersUptoRow.holds Tryz.pinned (OpenSpec.upto semaNumbersSpec)

/-- 'hawserlaw9.SemaExprs', WHERE WHAT IT READS IS OF BULK AT MOST 1048576: true; the input reads as it did. -/
def semaExprsUptoRow : OpenClaim := { program := "ytngiokdbbjbpfaagreat", sum := "74d8569073e7e4b24cb8aa33621f51c9c43ca9b9976e25ca996c285e6f2708da", func := "hawser/hawserlaw9.SemaExprs", spec := "semaExprs", inPlace := ["internal/abi.NoEscape", "internal/bytealg.MakeNoZero", "internal/bytealg.IndexByteString", "internal/bytealg.IndexString"], unfollowed := true, recurses := true, named := ["internal/bytealg.MaxLen"], apart := false, narrowed := true }
def SemaExprsUptoSaid : Prop := semaExprsUptoRow.holds Tryz.pinned (OpenSpec.upto semaExprsSpec)

/-- 'hawserlaw9.SemaHides', WHERE WHAT IT READS IS OF BULK AT MOST 1048576: true; the input reads as it did. -/
def semaHidesUptoRow : OpenClaim := { program := "ytngiokdbbjbpfaagreat", sum := "74d8569073e7e4b24cb8aa33621f51c9c43ca9b9976e25ca996c285e6f2708da", func := "hawser/hawserlaw9.SemaHides", spec := "semaHides", inPlace := ["internal/abi.NoEscape", "internal/bytealg.MakeNoZero", "internal/bytealg.IndexByteString", "internal/bytealg.IndexString"], unfollowed := true, recurses := true, named := ["internal/bytealg.MaxLen"], apart := false, narrowed := true }
def SemaHidesUptoSaid : Prop := semaHidesUptoRow.holds Tryz.pinned (OpenSpec.upto semaHidesSpec)

/-- 'hawserlaw9.SemaBranches', WHERE WHAT IT READS IS OF BULK AT MOST 1048576: true; the input reads as it did. -/
def semaBranchesUptoRow : OpenClaim := { program := "ytngiokdbbjbpfaagreat", sum := "74d8569073e7e4b24cb8aa33621f51c9c43ca9b9976e25ca996c285e6f2708da", func := "hawser/hawserlaw9.SemaBranches", spec := "semaBranches", inPlace := ["internal/abi.NoEscape", "internal/bytealg.MakeNoZero", "internal/bytealg.IndexByteString", "internal/bytealg.IndexString"], unfollowed := true, recurses := true, named := ["internal/bytealg.MaxLen"], apart := false, narrowed := true }
def SemaBranchesUptoSaid : Prop := semaBranchesUptoRow.holds Tryz.pinned (OpenSpec.upto semaBranchesSpec)

end Rows
end Go.Proofs.YtngiokdbbjbpfaaGreat
