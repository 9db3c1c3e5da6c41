/-
  No cell of these rows narrows 'for every input' (looked for: loops, veiled, ifaces, maps, wideKeys, modest, calm, conditions, laid).
  DERIVED. THE GIVEN ROWS OF THIS SEAT. 3 by the template 'for every input the law returns true; each argument reads behind the call as it read before'; 0 by the template 'total and deterministic' (their statements: YtdeieadpdedbjaaTotals.lean).
  GIVEN WITH THE SEED: the statements are not yours to turn. If you find one false, say at which input.
  Laid BY PROGRAM, IN A SANDBOX (cutbox-rows.mjs): the forced cells as the released guide's own fill.sh prints them over the translation 7517e7c316c537cd… (all of the seat's roots in one cut). By AI agents, Wed Nov 11 2026. No macro, syntax, notation, axiom, sorry.
-/
import Derived.Test.YtdeieadpdedbjaaChecked
import GoSem.Claim
import GoSem.ClaimJoined
import GoSem.ClaimMapViews
import Derived.JoinedTies
import Derived.KernelRfl
namespace Go.Proofs.Ytdeieadpdedbjaa
/- THE CELL 'sum', in the pinned program and in every row, IS THE sha256 OF THE DUMP (.gsa) THAT YtdeieadpdedbjaaProg.lean LOADS. Nothing in Lean hashes anything: it is a label: what it is worth is what the hold of that sum in a sandbox is worth. -/
noncomputable def Try.pinned : Pinned := { name := "ytdeieadpdedbjaa", sum := "7517e7c316c537cdb7a50b4d288c69f9b36bbd6cfd0efdf7e94b1f49519e7e30", checked := Try.checked }
namespace Rows
def none {H : Type} : Left H := { results := [], args := [] }

/-- 'hawserlaw11.CaptureNumbers': WHATEVER THE INPUT: true; the input reads as it did. -/
def captureNumbersSpec : ChangeSpec := { name := "captureNumbers", fn := fun _ => fun
  | [] => { results := [.lit (.bool true)], args := [] }
  | _ => none }
def captureNumbersRow : OpenClaim := { program := "ytdeieadpdedbjaa", sum := "7517e7c316c537cdb7a50b4d288c69f9b36bbd6cfd0efdf7e94b1f49519e7e30", func := "hawser/hawserlaw11.CaptureNumbers", spec := "captureNumbers", inPlace := ["internal/bytealg.IndexByteString", "internal/bytealg.IndexString"], unfollowed := true, recurses := true, named := ["internal/bytealg.MaxLen"], apart := false }
def CaptureNumbersSaid : Prop := captureNumbersRow.holds Try.pinned (OpenSpec.ofChange captureNumbersSpec)

/-- ITS FALSE NEIGHBOUR: 'it returns false'. Refute it at one input. -/
def captureNumbersWrong : ChangeSpec := { name := "captureNumbers", fn := fun _ => fun
  | [] => { results := [.lit (.bool false)], args := [] }
  | _ => none }
def CaptureNumbersWrongFalsely : Prop := captureNumbersRow.holds Try.pinned (OpenSpec.ofChange captureNumbersWrong)

/-- 'hawserlaw11.CaptureTells': WHATEVER THE INPUT: true; the input reads as it did. -/
def captureTellsSpec : ChangeSpec := { name := "captureTells", fn := fun _ => fun
  | [d1, d2] => { results := [.lit (.bool true)], args := [d1, d2] }
  | _ => none }
def captureTellsRow : OpenClaim := { program := "ytdeieadpdedbjaa", sum := "7517e7c316c537cdb7a50b4d288c69f9b36bbd6cfd0efdf7e94b1f49519e7e30", func := "hawser/hawserlaw11.CaptureTells", spec := "captureTells", inPlace := ["internal/bytealg.IndexByteString", "internal/bytealg.IndexString"], unfollowed := true, recurses := true, named := ["internal/bytealg.MaxLen"], apart := false }
def CaptureTellsSaid : Prop := captureTellsRow.holds Try.pinned (OpenSpec.ofChange captureTellsSpec)

/-- ITS FALSE NEIGHBOUR: 'it returns false'. Refute it at one input. -/
def captureTellsWrong : ChangeSpec := { name := "captureTells", fn := fun _ => fun
  | [d1, d2] => { results := [.lit (.bool false)], args := [d1, d2] }
  | _ => none }
def CaptureTellsWrongFalsely : Prop := captureTellsRow.holds Try.pinned (OpenSpec.ofChange captureTellsWrong)

/-- 'hawserlaw11.CaptureParts': WHATEVER THE INPUT: true; the input reads as it did. -/
def capturePartsSpec : ChangeSpec := { name := "captureParts", fn := fun _ => fun
  | [d1, d2] => { results := [.lit (.bool true)], args := [d1, d2] }
  | _ => none }
def capturePartsRow : OpenClaim := { program := "ytdeieadpdedbjaa", sum := "7517e7c316c537cdb7a50b4d288c69f9b36bbd6cfd0efdf7e94b1f49519e7e30", func := "hawser/hawserlaw11.CaptureParts", spec := "captureParts", inPlace := ["internal/bytealg.IndexByteString", "internal/bytealg.IndexString"], unfollowed := true, recurses := true, named := ["internal/bytealg.MaxLen"], apart := false }
def CapturePartsSaid : Prop := capturePartsRow.holds Try.pinned (OpenSpec.ofChange capturePartsSpec)

/-- ITS FALSE NEIGHBOUR: 'it returns false'. Refute it at one input. -/
def capturePartsWrong : ChangeSpec := { name := "captureParts", fn := fun _ => fun
  | [d1, d2] => { results := [.lit (.bool false)], args := [d1, d2] }
  | _ => none }
def CapturePartsWrongFalsely : Prop := capturePartsRow.holds Try.pinned (OpenSpec.ofChange capturePartsWrong)

/- THE SECOND FORM. 'bulk': how many values and letters a reading holds, each counted each time it is reached (what is shared counts as often as it is met; a slice's spare places count too). A statement '..UptoSaid' is the law's where the arguments, and the package variables that the reading takes, are together of bulk at most 1048576: NARROWER than '..Said'. Prove '..Said' where nothing that the law and all that it calls make is longer than what came in: it says more and counts as full. Else prove '..UptoSaid'. A law counts once. -/
mutual
def uptoBulk {H : Type} : DataW H → Nat
  | .lit (.string bytes) => bytes.length + 1
  | .lit _ => 1
  | .nil => 1
  | .ptr d => uptoBulk d + 1
  | .slice elems spare => uptoBulkAll elems + uptoBulkAll spare + 1
  | .agg parts => uptoBulkAll parts + 1
  | .iface _ d => uptoBulk d + 1
  | .map entries => uptoBulkEntries entries + 1
  | .held _ => 1
def uptoBulkAll {H : Type} : List (DataW H) → Nat
  | [] => 0
  | d :: r => uptoBulk d + uptoBulkAll r
def uptoBulkEntries {H : Type} : List (Lit × DataW H) → Nat
  | [] => 0
  | x :: r => uptoBulkEntry x + uptoBulkEntries r
def uptoBulkEntry {H : Type} : Lit × DataW H → Nat
  | (.string bytes, d) => bytes.length + uptoBulk d + 1
  | (_, d) => uptoBulk d + 1
 end
def uptoSmall : (H : Type) → List (DataW H) → Bool := fun _ ds => decide (uptoBulkAll ds ≤ 1048576)
def OpenSpec.upto (s : _root_.Go.ChangeSpec) : _root_.Go.OpenSpec := { _root_.Go.OpenSpec.ofChange s with cond := some uptoSmall }

/-- 'hawserlaw11.CaptureNumbers', WHERE WHAT IT READS IS OF BULK AT MOST 1048576: true; the input reads as it did. -/
def captureNumbersUptoRow : OpenClaim := { program := "ytdeieadpdedbjaa", sum := "7517e7c316c537cdb7a50b4d288c69f9b36bbd6cfd0efdf7e94b1f49519e7e30", func := "hawser/hawserlaw11.CaptureNumbers", spec := "captureNumbers", inPlace := ["internal/bytealg.IndexByteString", "internal/bytealg.IndexString"], unfollowed := true, recurses := true, named := ["internal/bytealg.MaxLen"], apart := false, narrowed := true }
def CaptureNumbersUptoSaid : Prop := captureNumbersUptoRow.holds Try.pinned (OpenSpec.upto captureNumbersSpec)

/-- 'hawserlaw11.CaptureTells', WHERE WHAT IT READS IS OF BULK AT MOST 1048576: true; the input reads as it did. -/
def captureTellsUptoRow : OpenClaim := { program := "ytdeieadpdedbjaa", sum := "7517e7c316c537cdb7a50b4d288c69f9b36bbd6cfd0efdf7e94b1f49519e7e30", func := "hawser/hawserlaw11.CaptureTells", spec := "captureTells", inPlace := ["internal/bytealg.IndexByteString", "internal/bytealg.IndexString"], unfollowed := true, recurses := true, named := ["internal/bytealg.MaxLen"], apart := false, narrowed := true }
def CaptureTellsUptoSaid : Prop := captureTellsUptoRow.holds Try.pinned (OpenSpec.upto captureTellsSpec)

/-- 'hawserlaw11.CaptureParts', WHERE WHAT IT READS IS OF BULK AT MOST 1048576: true; the input reads as it did. -/
def capturePartsUptoRow : OpenClaim := { program := "ytdeieadpdedbjaa", sum := "7517e7c316c537cdb7a50b4d288c69f9b36bbd6cfd0efdf7e94b1f49519e7e30", func := "hawser/hawserlaw11.CaptureParts", spec := "captureParts", inPlace := ["internal/bytealg.IndexByteString", "internal/bytealg.IndexString"], unfollowed := true, recurses := true, named := ["internal/bytealg.MaxLen"], apart := false, narrowed := true }
def CapturePartsUptoSaid : Prop := capturePartsUptoRow.holds Try.pinned (OpenSpec.upto capturePartsSpec)

end Rows
end Go.Proofs.Ytdeieadpdedbjaa
