/-
  The tie of the rows' listed variables, each of its nine closed facts by itself (in one theorem they want more memory than a Lean process may have); that no function of the program begins a goroutine.
-/
import Derived.Test.YtkkjoomlfmofbaaGreatDoorTieR
import Derived.Test.YtkkjoomlfmofbaaGreatDoorRows
import Derived.LaidByTextLater
import Derived.SevenTiedAt
set_option linter.unusedSimpArgs false
set_option linter.unusedVariables false
set_option linter.unusedSectionVars false
namespace Go.Proofs.YtkkjoomlfmofbaaGreatDoor
open Go
set_option maxRecDepth 100000
theorem tieU : Tryz.pinned.checked.prog.headLifts.contains "ownunsafe" = false := by kernel_rfl
theorem tie1 : Tryz.prog.worded (varsWordLater true) = true := by kernel_rfl
theorem tie2 : Tryz.prog.worded (varsWordLater !true) = false := by kernel_rfl
theorem tie3 : Tryz.prog.worded rootWordLater = true := by kernel_rfl
theorem tie4 : laidT.map (fun x => Tryz.prog.kindOfLater x.1) = ([.data, .listed, .data, .data, .data, .sentinel, .sentinel] : List LaidKind).map some := by kernel_rfl
theorem tie5 : (Tryz.prog.funcNamed "gosem.cut.vars").isSome = true := by kernel_rfl
theorem tie6 : varsNamedLaterB Tryz.prog (varsId Tryz.prog) laidT = true := by kernel_rfl
theorem tie9 (os : Os) (tape : Tape) : (DataW.laidRun Tryz.prog (varsWorld Tryz.prog 400 (varsId Tryz.prog) os tape).memory 8 (laidT.map (·.1))).map (fun x => decide x.2.Nodup && laidRowsB Tryz.prog (varsWorld Tryz.prog 400 (varsId Tryz.prog) os tape).memory x.2) = some true := by
  have h1 := tie9a os tape
  have h2 := tie9b os tape
  revert h1 h2
  generalize (DataW.laidRun Tryz.prog (varsWorld Tryz.prog 400 (varsId Tryz.prog) os tape).memory 8 (laidT.map (·.1))) = r
  intro h1 h2
  cases r with
  | none => cases h1
  | some x =>
    simp only [Option.map_some, Option.some.injEq] at h1 h2 ⊢
    rw [h2, decide_eq_true (nodupN h1)]
    rfl
theorem tieA : Tryz.prog.laidByTextLater laidT [.data, .listed, .data, .data, .data, .sentinel, .sentinel] true :=
  Program.laidByTextLater_by_run 400 8 tie1 tie2 tie3 tie4 tie5 tie6 tie7 tie8 tie9
theorem topFirst_row_tie : Rows.topFirstRow.laidByTextAt .later Tryz.pinned [.data, .listed, .data, .data, .data, .sentinel, .sentinel] true :=
  OpenClaim.laidByTextAt_later rfl rfl tieA tieU
theorem topBranches_row_tie : Rows.topBranchesRow.laidByTextAt .later Tryz.pinned [.data, .listed, .data, .data, .data, .sentinel, .sentinel] true :=
  OpenClaim.laidByTextAt_later rfl rfl tieA tieU
theorem topClosures_row_tie : Rows.topClosuresRow.laidByTextAt .later Tryz.pinned [.data, .listed, .data, .data, .data, .sentinel, .sentinel] true :=
  OpenClaim.laidByTextAt_later rfl rfl tieA tieU
theorem topShadows_row_tie : Rows.topShadowsRow.laidByTextAt .later Tryz.pinned [.data, .listed, .data, .data, .data, .sentinel, .sentinel] true :=
  OpenClaim.laidByTextAt_later rfl rfl tieA tieU
theorem topArms_row_tie : Rows.topArmsRow.laidByTextAt .later Tryz.pinned [.data, .listed, .data, .data, .data, .sentinel, .sentinel] true :=
  OpenClaim.laidByTextAt_later rfl rfl tieA tieU
theorem topOps_row_tie : Rows.topOpsRow.laidByTextAt .later Tryz.pinned [.data, .listed, .data, .data, .data, .sentinel, .sentinel] true :=
  OpenClaim.laidByTextAt_later rfl rfl tieA tieU
theorem topLess_row_tie : Rows.topLessRow.laidByTextAt .later Tryz.pinned [.data, .listed, .data, .data, .data, .sentinel, .sentinel] true :=
  OpenClaim.laidByTextAt_later rfl rfl tieA tieU
theorem noGoes {P : Program} (h : P.funcs.toList.all (fun fn => !fn.goes) = true) (f : FuncId) : P.goes f = false := by
  have hf : ∀ fn ∈ P.funcs.toList, fn.goes = false := fun fn hm => by
    have := List.all_eq_true.1 h fn hm
    simpa using this
  have h1 : ((P.closure f).any fun g => (P.funcs[g]?).any Func.goes) = false := by
    rw [Bool.eq_false_iff]
    intro hc
    simp only [List.any_eq_true] at hc
    obtain ⟨g, _, hg⟩ := hc
    cases hq : P.funcs[g]? with
    | none => rw [hq] at hg; cases hg
    | some fn =>
      rw [hq] at hg
      have := hf fn (Array.mem_toList_iff.2 (Array.mem_of_getElem? hq))
      simp [this] at hg
  have h2 : P.funcs.any Func.goes = false := by
    rw [Bool.eq_false_iff]
    intro hc
    rw [Array.any_eq_true'] at hc
    obtain ⟨fn, hm, hg⟩ := hc
    rw [hf fn (Array.mem_toList_iff.2 hm)] at hg
    cases hg
  unfold Program.goes
  rw [h1, h2, Bool.and_false]
  rfl
theorem nogo : (Tryz.prog.funcs.toList.all fun fn => !fn.goes) = true := by kernel_rfl
theorem goesF {c : OpenClaim} (hs : c.start = .entering) : false = c.goesBy Tryz.pinned.checked.prog := by
  unfold OpenClaim.goesBy Program.goesAt Program.goesFrom
  rw [hs]
  cases h : Tryz.pinned.checked.prog.funcNamed c.func with
  | none => rfl
  | some f =>
    have : Tryz.pinned.checked.prog.goes f = false := noGoes (P := Tryz.pinned.checked.prog) nogo f
    simp [this]
end Go.Proofs.YtkkjoomlfmofbaaGreatDoor
