import Derived.Test.YtkkjoomlfmofbaaGreatDoorBe11
set_option linter.unusedSimpArgs false
set_option linter.unusedVariables false
set_option linter.unusedSectionVars false
namespace Go.Proofs.YtkkjoomlfmofbaaGreatDoor
open Go.Am
set_option maxRecDepth 100000
theorem runZ2 : isR (scall envF 290 10 [srcZ2, .isl 5 true [numV cL]] []) (ansV five) = true := by kernel_rfl
theorem runN2 : isR (scall envRB 290 10 [srcN2, .isl 5 true [numV (.sym 1002)]] []) (ansV six) = true := by kernel_rfl
end Go.Proofs.YtkkjoomlfmofbaaGreatDoor
