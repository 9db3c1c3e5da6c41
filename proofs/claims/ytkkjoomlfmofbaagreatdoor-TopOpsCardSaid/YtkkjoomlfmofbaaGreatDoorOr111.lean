import Derived.Test.YtkkjoomlfmofbaaGreatDoorOe11
set_option linter.unusedSimpArgs false
set_option linter.unusedVariables false
set_option linter.unusedSectionVars false
namespace Go.Proofs.YtkkjoomlfmofbaaGreatDoor
open Go.Am
set_option maxRecDepth 100000
theorem run1 : isR (scall (envO2 nmO1 0) 290 10 (argsO srcO1 (.sym 2000) (.sym 2001)) []) (ansV (.sym 1003)) = true := by kernel_rfl
theorem bad1 : isR (scall (envO2 nmO1 44) 290 10 (argsO srcO1 (.sym 2000) (.sym 2001)) []) errA = true := by kernel_rfl
theorem run4 : isR (scall (envO1 nmO4) 290 10 (argsO srcO4 (.sym 2000) (.sym 2001)) []) (ansV (.sym 1003)) = true := by kernel_rfl
end Go.Proofs.YtkkjoomlfmofbaaGreatDoor
