/-
  No cell of these rows narrows 'for every input' (looked for: loops, veiled, ifaces, maps, wideKeys, modest, calm, conditions, laid).
  DERIVED. THE GIVEN ROWS OF THIS SEAT. 4 by the template 'for every input the law returns true; each argument reads behind the call as it read before'; 0 by the template 'total and deterministic' (their statements: YtenaiofflgnegaaGreatTotals.lean).
  GIVEN WITH THE SEED: the statements are not yours to turn. If you find one false, say at which input.
  Laid BY PROGRAM, IN A SANDBOX (cutbox-rows.mjs): the forced cells as the released guide's own fill.sh prints them over the translation ebb203b207d08c17… (all of the seat's roots in one cut). By AI agents, Wed Nov 11 2026. No macro, syntax, notation, axiom, sorry.
-/
import Derived.Test.YtenaiofflgnegaaGreatChecked
import GoSem.Claim
import GoSem.ClaimJoined
import GoSem.ClaimMapViews
import Derived.JoinedTies
import Derived.KernelRfl
namespace Go.Proofs.YtenaiofflgnegaaGreat
/- THE CELL 'sum', in the pinned program and in every row, IS THE sha256 OF THE DUMP (.gsa) THAT YtenaiofflgnegaaGreatProg.lean LOADS. Nothing in Lean hashes anything: it is a label: what it is worth is what the hold of that sum in a sandbox is worth. -/
noncomputable def Tryz.pinned : Pinned := { name := "ytenaiofflgnegaagreat", sum := "ebb203b207d08c179d9e70145a6001143abfbff3f9a372d79f2d5c89608d31a4", checked := Tryz.checked }
namespace Rows
def none {H : Type} : Left H := { results := [], args := [] }

/-- 'hawserlaw7.IfaceNumbers': WHATEVER THE INPUT: true; the input reads as it did. -/
def ifaceNumbersSpec : ChangeSpec := { name := "ifaceNumbers", fn := fun _ => fun
  | [] => { results := [.lit (.bool true)], args := [] }
  | _ => none }
def ifaceNumbersRow : OpenClaim := { program := "ytenaiofflgnegaagreat", sum := "ebb203b207d08c179d9e70145a6001143abfbff3f9a372d79f2d5c89608d31a4", func := "hawser/hawserlaw7.IfaceNumbers", spec := "ifaceNumbers", inPlace := ["internal/abi.NoEscape", "internal/bytealg.MakeNoZero", "internal/bytealg.IndexByteString", "internal/bytealg.IndexString"], unfollowed := true, recurses := true, named := ["internal/bytealg.MaxLen"], apart := false }
def IfaceNumbersSaid : Prop := ifaceNumbersRow.holds Tryz.pinned (OpenSpec.ofChange ifaceNumbersSpec)

/-- ITS FALSE NEIGHBOUR: 'it returns false'. Refute it at one input. -/
def ifaceNumbersWrong : ChangeSpec := { name := "ifaceNumbers", fn := fun _ => fun
  | [] => { results := [.lit (.bool false)], args := [] }
  | _ => none }
def IfaceNumbersWrongFalsely : Prop := ifaceNumbersRow.holds Tryz.pinned (OpenSpec.ofChange ifaceNumbersWrong)

/-- 'hawserlaw7.IfaceSame': WHATEVER THE INPUT: true; the input reads as it did. -/
def ifaceSameSpec : ChangeSpec := { name := "ifaceSame", fn := fun _ => fun
  | [d1, d2, d3] => { results := [.lit (.bool true)], args := [d1, d2, d3] }
  | _ => none }
def ifaceSameRow : OpenClaim := { program := "ytenaiofflgnegaagreat", sum := "ebb203b207d08c179d9e70145a6001143abfbff3f9a372d79f2d5c89608d31a4", func := "hawser/hawserlaw7.IfaceSame", spec := "ifaceSame", inPlace := ["internal/bytealg.IndexByteString", "internal/bytealg.IndexString", "internal/abi.NoEscape", "internal/bytealg.MakeNoZero"], unfollowed := true, recurses := true, named := ["internal/bytealg.MaxLen"], apart := false }
def IfaceSameSaid : Prop := ifaceSameRow.holds Tryz.pinned (OpenSpec.ofChange ifaceSameSpec)

/-- ITS FALSE NEIGHBOUR: 'it returns false'. Refute it at one input. -/
def ifaceSameWrong : ChangeSpec := { name := "ifaceSame", fn := fun _ => fun
  | [d1, d2, d3] => { results := [.lit (.bool false)], args := [d1, d2, d3] }
  | _ => none }
def IfaceSameWrongFalsely : Prop := ifaceSameRow.holds Tryz.pinned (OpenSpec.ofChange ifaceSameWrong)

/-- 'hawserlaw7.IfaceBack': WHATEVER THE INPUT: true; the input reads as it did. -/
def ifaceBackSpec : ChangeSpec := { name := "ifaceBack", fn := fun _ => fun
  | [d1, d2, d3] => { results := [.lit (.bool true)], args := [d1, d2, d3] }
  | _ => none }
def ifaceBackRow : OpenClaim := { program := "ytenaiofflgnegaagreat", sum := "ebb203b207d08c179d9e70145a6001143abfbff3f9a372d79f2d5c89608d31a4", func := "hawser/hawserlaw7.IfaceBack", spec := "ifaceBack", inPlace := ["internal/bytealg.IndexByteString", "internal/bytealg.IndexString", "internal/abi.NoEscape", "internal/bytealg.MakeNoZero"], unfollowed := true, recurses := true, named := ["internal/bytealg.MaxLen"], apart := false }
def IfaceBackSaid : Prop := ifaceBackRow.holds Tryz.pinned (OpenSpec.ofChange ifaceBackSpec)

/-- ITS FALSE NEIGHBOUR: 'it returns false'. Refute it at one input. -/
def ifaceBackWrong : ChangeSpec := { name := "ifaceBack", fn := fun _ => fun
  | [d1, d2, d3] => { results := [.lit (.bool false)], args := [d1, d2, d3] }
  | _ => none }
def IfaceBackWrongFalsely : Prop := ifaceBackRow.holds Tryz.pinned (OpenSpec.ofChange ifaceBackWrong)

/-- 'hawserlaw8.ScopeFirst': WHATEVER THE INPUT: true; the input reads as it did. -/
def scopeFirstSpec : ChangeSpec := { name := "scopeFirst", fn := fun _ => fun
  | [d1, d2] => { results := [.lit (.bool true)], args := [d1, d2] }
  | _ => none }
def scopeFirstRow : OpenClaim := { program := "ytenaiofflgnegaagreat", sum := "ebb203b207d08c179d9e70145a6001143abfbff3f9a372d79f2d5c89608d31a4", func := "hawser/hawserlaw8.ScopeFirst", spec := "scopeFirst", inPlace := ["internal/abi.NoEscape", "internal/bytealg.MakeNoZero", "internal/bytealg.IndexByteString", "internal/bytealg.IndexString"], unfollowed := true, recurses := true, named := ["internal/bytealg.MaxLen"], apart := false }
def ScopeFirstSaid : Prop := scopeFirstRow.holds Tryz.pinned (OpenSpec.ofChange scopeFirstSpec)

/-- ITS FALSE NEIGHBOUR: 'it returns false'. Refute it at one input. -/
def scopeFirstWrong : ChangeSpec := { name := "scopeFirst", fn := fun _ => fun
  | [d1, d2] => { results := [.lit (.bool false)], args := [d1, d2] }
  | _ => none }
def ScopeFirstWrongFalsely : Prop := scopeFirstRow.holds Tryz.pinned (OpenSpec.ofChange scopeFirstWrong)

/- THE SECOND FORM. 'bulk': how many values and letters a reading holds, each counted each time it is reached (what is shared counts as often as it is met; a slice's spare places count too). A statement '..UptoSaid' is the law's where the arguments, and the package variables that the reading takes, are together of bulk at most 1048576: NARROWER than '..Said'. Prove '..Said' where nothing that the law and all that it calls make is longer than what came in: it says more and counts as full. Else prove '..UptoSaid'. A law counts once. -/
mutual
def uptoBulk {H : Type} : DataW H → Nat
  | .lit (.string bytes) => bytes.length + 1
  | .lit _ => 1
  | .nil => 1
  | .ptr d => uptoBulk d + 1
  | .slice elems spare => uptoBulkAll elems + uptoBulkAll spare + 1
  | .agg parts => uptoBulkAll parts + 1
  | .iface _ d => uptoBulk d + 1
  | .map entries => uptoBulkEntries entries + 1
  | .held _ => 1
def uptoBulkAll {H : Type} : List (DataW H) → Nat
  | [] => 0
  | d :: r => uptoBulk d + uptoBulkAll r
def uptoBulkEntries {H : Type} : List (Lit × DataW H) → Nat
  | [] => 0
  | x :: r => uptoBulkEntry x + uptoBulkEntries r
def uptoBulkEntry {H : Type} : Lit × DataW H → Nat
  | (.string bytes, d) => bytes.length + uptoBulk d + 1
  | (_, d) => uptoBulk d + 1
 end
def uptoSmall : (H : Type) → List (DataW H) → Bool := fun _ ds => decide (uptoBulkAll ds ≤ 1048576)
def OpenSpec.upto (s : _root_.Go.ChangeSpec) : _root_.Go.OpenSpec := { _root_.Go.OpenSpec.ofChange s with cond := some uptoSmall }

/-- 'hawserlaw7.IfaceNumbers', WHERE WHAT IT READS IS OF BULK AT MOST 1048576: true; the input reads as it did. -/
def ifaceNumbersUptoRow : OpenClaim := { program := "ytenaiofflgnegaagreat", sum := "ebb203b207d08c179d9e70145a6001143abfbff3f9a372d79f2d5c89608d31a4", func := "hawser/hawserlaw7.IfaceNumbers", spec := "ifaceNumbers", inPlace := ["internal/abi.NoEscape", "internal/bytealg.MakeNoZero", "internal/bytealg.IndexByteString", "internal/bytealg.IndexString"], unfollowed := true, recurses := true, named := ["internal/bytealg.MaxLen"], apart := false, narrowed := true }
def IfaceNumbersUptoSaid : Prop := ifaceNumbersUptoRow.holds Tryz.pinned (OpenSpec.upto ifaceNumbersSpec)

/-- 'hawserlaw7.IfaceSame', WHERE WHAT IT READS IS OF BULK AT MOST 1048576: true; the input reads as it did. -/
def ifaceSameUptoRow : OpenClaim := { program := "ytenaiofflgnegaagreat", sum := "ebb203b207d08c179d9e70145a6001143abfbff3f9a372d79f2d5c89608d31a4", func := "hawser/hawserlaw7.IfaceSame", spec := "ifaceSame", inPlace := ["internal/bytealg.IndexByteString", "internal/bytealg.IndexString", "internal/abi.NoEscape", "internal/bytealg.MakeNoZero"], unfollowed := true, recurses := true, named := ["internal/bytealg.MaxLen"], apart := false, narrowed := true }
def IfaceSameUptoSaid : Prop := ifaceSameUptoRow.holds Tryz.pinned (OpenSpec.upto ifaceSameSpec)

/-- 'hawserlaw7.IfaceBack', WHERE WHAT IT READS IS OF BULK AT MOST 1048576: true; the input reads as it did. -/
def ifaceBackUptoRow : OpenClaim := { program := "ytenaiofflgnegaagreat", sum := "ebb203b207d08c179d9e70145a6001143abfbff3f9a372d79f2d5c89608d31a4", func := "hawser/hawserlaw7.IfaceBack", spec := "ifaceBack", inPlace := ["internal/bytealg.IndexByteString", "internal/bytealg.IndexString", "internal/abi.NoEscape", "internal/bytealg.MakeNoZero"], unfollowed := true, recurses := true, named := ["internal/bytealg.MaxLen"], apart := false, narrowed := true }
def IfaceBackUptoSaid : Prop := ifaceBackUptoRow.holds Tryz.pinned (OpenSpec.upto ifaceBackSpec)

/-- 'hawserlaw8.ScopeFirst', WHERE WHAT IT READS IS OF BULK AT MOST 1048576: true; the input reads as it did. -/
def scopeFirstUptoRow : OpenClaim := { program := "ytenaiofflgnegaagreat", sum := "ebb203b207d08c179d9e70145a6001143abfbff3f9a372d79f2d5c89608d31a4", func := "hawser/hawserlaw8.ScopeFirst", spec := "scopeFirst", inPlace := ["internal/abi.NoEscape", "internal/bytealg.MakeNoZero", "internal/bytealg.IndexByteString", "internal/bytealg.IndexString"], unfollowed := true, recurses := true, named := ["internal/bytealg.MaxLen"], apart := false, narrowed := true }
def ScopeFirstUptoSaid : Prop := scopeFirstUptoRow.holds Tryz.pinned (OpenSpec.upto scopeFirstSpec)

end Rows
end Go.Proofs.YtenaiofflgnegaaGreat
