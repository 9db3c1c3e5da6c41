import Derived.Test.YtomjidlkaocmkaaGreatTb9z
namespace Go.Proofs.YtomjidlkaocmkaaGreat.meanNumbers
open Go.Am
set_option maxRecDepth 100000
theorem ran : isT (scall env1 400 3 [] []) = true := by kernel_rfl
end Go.Proofs.YtomjidlkaocmkaaGreat.meanNumbers
