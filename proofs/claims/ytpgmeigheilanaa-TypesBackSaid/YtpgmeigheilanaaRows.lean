/-
  No cell of these rows narrows 'for every input' (looked for: loops, veiled, ifaces, maps, wideKeys, modest, calm, conditions, laid).
  DERIVED. THE GIVEN ROWS OF THIS SEAT. 4 by the template 'for every input the law returns true; each argument reads behind the call as it read before'; 0 by the template 'total and deterministic' (their statements: YtpgmeigheilanaaTotals.lean).
  GIVEN WITH THE SEED: the statements are not yours to turn. If you find one false, say at which input.
  Laid BY PROGRAM, IN A SANDBOX (cutbox-rows.mjs): the forced cells as the released guide's own fill.sh prints them over the translation 19fd771f3c3d267b… (all of the seat's roots in one cut). By AI agents, Wed Nov 11 2026. No macro, syntax, notation, axiom, sorry.
-/
import Derived.Test.YtpgmeigheilanaaChecked
import GoSem.Claim
import GoSem.ClaimJoined
import GoSem.ClaimMapViews
import Derived.JoinedTies
import Derived.KernelRfl
namespace Go.Proofs.Ytpgmeigheilanaa
/- THE CELL 'sum', in the pinned program and in every row, IS THE sha256 OF THE DUMP (.gsa) THAT YtpgmeigheilanaaProg.lean LOADS. Nothing in Lean hashes anything: it is a label: what it is worth is what the hold of that sum in a sandbox is worth. -/
noncomputable def Try.pinned : Pinned := { name := "ytpgmeigheilanaa", sum := "19fd771f3c3d267bff282b6fc91f48ed8a5aa2c8244401efa9ac6c27bef4b303", checked := Try.checked }
namespace Rows
def none {H : Type} : Left H := { results := [], args := [] }

/-- 'hawserlaw5.TypesBack': WHATEVER THE INPUT: true; the input reads as it did. -/
def typesBackSpec : ChangeSpec := { name := "typesBack", fn := fun _ => fun
  | [d] => { results := [.lit (.bool true)], args := [d] }
  | _ => none }
def typesBackRow : OpenClaim := { program := "ytpgmeigheilanaa", sum := "19fd771f3c3d267bff282b6fc91f48ed8a5aa2c8244401efa9ac6c27bef4b303", func := "hawser/hawserlaw5.TypesBack", spec := "typesBack", inPlace := ["internal/abi.NoEscape", "internal/bytealg.MakeNoZero", "internal/bytealg.IndexByteString", "internal/bytealg.IndexString"], recurses := true, named := ["internal/bytealg.MaxLen"], apart := false }
def TypesBackSaid : Prop := typesBackRow.holds Try.pinned (OpenSpec.ofChange typesBackSpec)

/-- ITS FALSE NEIGHBOUR: 'it returns false'. Refute it at one input. -/
def typesBackWrong : ChangeSpec := { name := "typesBack", fn := fun _ => fun
  | [d] => { results := [.lit (.bool false)], args := [d] }
  | _ => none }
def TypesBackWrongFalsely : Prop := typesBackRow.holds Try.pinned (OpenSpec.ofChange typesBackWrong)

/-- 'hawserlaw5.TypesLong': WHATEVER THE INPUT: true; the input reads as it did. -/
def typesLongSpec : ChangeSpec := { name := "typesLong", fn := fun _ => fun
  | [d] => { results := [.lit (.bool true)], args := [d] }
  | _ => none }
def typesLongRow : OpenClaim := { program := "ytpgmeigheilanaa", sum := "19fd771f3c3d267bff282b6fc91f48ed8a5aa2c8244401efa9ac6c27bef4b303", func := "hawser/hawserlaw5.TypesLong", spec := "typesLong", inPlace := ["internal/bytealg.IndexByteString", "internal/bytealg.IndexString", "internal/abi.NoEscape", "internal/bytealg.MakeNoZero"], recurses := true, named := ["internal/bytealg.MaxLen"], apart := false }
def TypesLongSaid : Prop := typesLongRow.holds Try.pinned (OpenSpec.ofChange typesLongSpec)

/-- ITS FALSE NEIGHBOUR: 'it returns false'. Refute it at one input. -/
def typesLongWrong : ChangeSpec := { name := "typesLong", fn := fun _ => fun
  | [d] => { results := [.lit (.bool false)], args := [d] }
  | _ => none }
def TypesLongWrongFalsely : Prop := typesLongRow.holds Try.pinned (OpenSpec.ofChange typesLongWrong)

/-- 'hawserlaw5.TypesNames': WHATEVER THE INPUT: true; the input reads as it did. -/
def typesNamesSpec : ChangeSpec := { name := "typesNames", fn := fun _ => fun
  | [d] => { results := [.lit (.bool true)], args := [d] }
  | _ => none }
def typesNamesRow : OpenClaim := { program := "ytpgmeigheilanaa", sum := "19fd771f3c3d267bff282b6fc91f48ed8a5aa2c8244401efa9ac6c27bef4b303", func := "hawser/hawserlaw5.TypesNames", spec := "typesNames", inPlace := ["internal/abi.NoEscape", "internal/bytealg.MakeNoZero", "internal/bytealg.IndexByteString", "internal/bytealg.IndexString"], unfollowed := true, recurses := true, named := ["internal/bytealg.MaxLen"], apart := false }
def TypesNamesSaid : Prop := typesNamesRow.holds Try.pinned (OpenSpec.ofChange typesNamesSpec)

/-- ITS FALSE NEIGHBOUR: 'it returns false'. Refute it at one input. -/
def typesNamesWrong : ChangeSpec := { name := "typesNames", fn := fun _ => fun
  | [d] => { results := [.lit (.bool false)], args := [d] }
  | _ => none }
def TypesNamesWrongFalsely : Prop := typesNamesRow.holds Try.pinned (OpenSpec.ofChange typesNamesWrong)

/-- 'hawserlaw5.TypesNumbers': WHATEVER THE INPUT: true; the input reads as it did. -/
def typesNumbersSpec : ChangeSpec := { name := "typesNumbers", fn := fun _ => fun
  | [] => { results := [.lit (.bool true)], args := [] }
  | _ => none }
def typesNumbersRow : OpenClaim := { program := "ytpgmeigheilanaa", sum := "19fd771f3c3d267bff282b6fc91f48ed8a5aa2c8244401efa9ac6c27bef4b303", func := "hawser/hawserlaw5.TypesNumbers", spec := "typesNumbers", inPlace := ["internal/bytealg.IndexByteString", "internal/bytealg.IndexString", "internal/abi.NoEscape", "internal/bytealg.MakeNoZero"], unfollowed := true, recurses := true, named := ["internal/bytealg.MaxLen"], apart := false }
def TypesNumbersSaid : Prop := typesNumbersRow.holds Try.pinned (OpenSpec.ofChange typesNumbersSpec)

/-- ITS FALSE NEIGHBOUR: 'it returns false'. Refute it at one input. -/
def typesNumbersWrong : ChangeSpec := { name := "typesNumbers", fn := fun _ => fun
  | [] => { results := [.lit (.bool false)], args := [] }
  | _ => none }
def TypesNumbersWrongFalsely : Prop := typesNumbersRow.holds Try.pinned (OpenSpec.ofChange typesNumbersWrong)

/- THE SECOND FORM. 'bulk': how many values and letters a reading holds, each counted each time it is reached (what is shared counts as often as it is met; a slice's spare places count too). A statement '..UptoSaid' is the law's where the arguments, and the package variables that the reading takes, are together of bulk at most 1048576: NARROWER than '..Said'. Prove '..Said' where nothing that the law and all that it calls make is longer than what came in: it says more and counts as full. Else prove '..UptoSaid'. A law counts once. -/
mutual
def uptoBulk {H : Type} : DataW H → Nat
  | .lit (.string bytes) => bytes.length + 1
  | .lit _ => 1
  | .nil => 1
  | .ptr d => uptoBulk d + 1
  | .slice elems spare => uptoBulkAll elems + uptoBulkAll spare + 1
  | .agg parts => uptoBulkAll parts + 1
  | .iface _ d => uptoBulk d + 1
  | .map entries => uptoBulkEntries entries + 1
  | .held _ => 1
def uptoBulkAll {H : Type} : List (DataW H) → Nat
  | [] => 0
  | d :: r => uptoBulk d + uptoBulkAll r
def uptoBulkEntries {H : Type} : List (Lit × DataW H) → Nat
  | [] => 0
  | x :: r => uptoBulkEntry x + uptoBulkEntries r
def uptoBulkEntry {H : Type} : Lit × DataW H → Nat
  | (.string bytes, d) => bytes.length + uptoBulk d + 1
  | (_, d) => uptoBulk d + 1
 end
def uptoSmall : (H : Type) → List (DataW H) → Bool := fun _ ds => decide (uptoBulkAll ds ≤ 1048576)
def OpenSpec.upto (s : _root_.Go.ChangeSpec) : _root_.Go.OpenSpec := { _root_.Go.OpenSpec.ofChange s with cond := some uptoSmall }

/-- 'hawserlaw5.TypesBack', WHERE WHAT IT READS IS OF BULK AT MOST 1048576: true; the input reads as it did. -/
def typesBackUptoRow : OpenClaim := { program := "ytpgmeigheilanaa", sum := "19fd771f3c3d267bff282b6fc91f48ed8a5aa2c8244401efa9ac6c27bef4b303", func := "hawser/hawserlaw5.TypesBack", spec := "typesBack", inPlace := ["internal/abi.NoEscape", "internal/bytealg.MakeNoZero", "internal/bytealg.IndexByteString", "internal/bytealg.IndexString"], recurses := true, named := ["internal/bytealg.MaxLen"], apart := false, narrowed := true }
def TypesBackUptoSaid : Prop := typesBackUptoRow.holds Try.pinned (OpenSpec.upto typesBackSpec)

/-- 'hawserlaw5.TypesLong', WHERE WHAT IT READS IS OF BULK AT MOST 1048576: true; the input reads as it did. -/
def typesLongUptoRow : OpenClaim := { program := "ytpgmeigheilanaa", sum := "19fd771f3c3d267bff282b6fc91f48ed8a5aa2c8244401efa9ac6c27bef4b303", func := "hawser/hawserlaw5.TypesLong", spec := "typesLong", inPlace := ["internal/bytealg.IndexByteString", "internal/bytealg.IndexString", "internal/abi.NoEscape", "internal/bytealg.MakeNoZero"], recurses := true, named := ["internal/bytealg.MaxLen"], apart := false, narrowed := true }
def TypesLongUptoSaid : Prop := typesLongUptoRow.holds Try.pinned (OpenSpec.upto typesLongSpec)

/-- 'hawserlaw5.TypesNames', WHERE WHAT IT READS IS OF BULK AT MOST 1048576: true; the input reads as it did. -/
def typesNamesUptoRow : OpenClaim := { program := "ytpgmeigheilanaa", sum := "19fd771f3c3d267bff282b6fc91f48ed8a5aa2c8244401efa9ac6c27bef4b303", func := "hawser/hawserlaw5.TypesNames", spec := "typesNames", inPlace := ["internal/abi.NoEscape", "internal/bytealg.MakeNoZero", "internal/bytealg.IndexByteString", "internal/bytealg.IndexString"], unfollowed := true, recurses := true, named := ["internal/bytealg.MaxLen"], apart := false, narrowed := true }
def TypesNamesUptoSaid : Prop := typesNamesUptoRow.holds Try.pinned (OpenSpec.upto typesNamesSpec)

/-- 'hawserlaw5.TypesNumbers', WHERE WHAT IT READS IS OF BULK AT MOST 1048576: true; the input reads as it did. -/
def typesNumbersUptoRow : OpenClaim := { program := "ytpgmeigheilanaa", sum := "19fd771f3c3d267bff282b6fc91f48ed8a5aa2c8244401efa9ac6c27bef4b303", func := "hawser/hawserlaw5.TypesNumbers", spec := "typesNumbers", inPlace := ["internal/bytealg.IndexByteString", "internal/bytealg.IndexString", "internal/abi.NoEscape", "internal/bytealg.MakeNoZero"], unfollowed := true, recurses := true, named := ["internal/bytealg.MaxLen"], apart := false, narrowed := true }
def TypesNumbersUptoSaid : Prop := typesNumbersUptoRow.holds Try.pinned (OpenSpec.upto typesNumbersSpec)

end Rows
end Go.Proofs.Ytpgmeigheilanaa
