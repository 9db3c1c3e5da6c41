import Derived.Test.YtkkjoomlfmofbaaGreatDoorTf11
set_option linter.unusedSimpArgs false
set_option linter.unusedVariables false
set_option linter.unusedSectionVars false
namespace Go.Proofs.YtkkjoomlfmofbaaGreatDoor
open Go.Am
set_option maxRecDepth 100000
def a12_0 : List AV := []
def b12_0 : AV := tL
theorem r12_0 : isR (scall envF 290 12 a12_0 []) b12_0 = true := by kernel_rfl
def rows12 : List (List AV × AV) := [(a12_0, b12_0)]
theorem rows12_ok : AllR envF 290 12 rows12 := ⟨r12_0, trivial⟩
noncomputable def envA : SEnv := envF.withP 12 (tableP rows12)
theorem envA_ok [Nu] : SEnvOk envA := SEnvOk.withP envF_ok (stable_ok (E := envF) envF_ok rows12_ok.all)
end Go.Proofs.YtkkjoomlfmofbaaGreatDoor
