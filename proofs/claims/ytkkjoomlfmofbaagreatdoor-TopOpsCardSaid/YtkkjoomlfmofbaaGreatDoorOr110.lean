import Derived.Test.YtkkjoomlfmofbaaGreatDoorOe11
set_option linter.unusedSimpArgs false
set_option linter.unusedVariables false
set_option linter.unusedSectionVars false
namespace Go.Proofs.YtkkjoomlfmofbaaGreatDoor
open Go.Am
set_option maxRecDepth 100000
theorem run0 : isR (scall (envO2 nmO0 0) 290 10 (argsO srcO0 (.sym 2000) (.sym 2001)) []) (ansV (.sym 1003)) = true := by kernel_rfl
theorem bad0 : isR (scall (envO2 nmO0 44) 290 10 (argsO srcO0 (.sym 2000) (.sym 2001)) []) errA = true := by kernel_rfl
theorem run3 : isR (scall (envO1 nmO3) 290 10 (argsO srcO3 (.sym 2000) (.sym 2001)) []) (ansV (.sym 1003)) = true := by kernel_rfl
end Go.Proofs.YtkkjoomlfmofbaaGreatDoor
