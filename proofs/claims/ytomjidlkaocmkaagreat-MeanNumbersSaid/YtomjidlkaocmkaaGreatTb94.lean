import Derived.Test.YtomjidlkaocmkaaGreatCh9
namespace Go.Proofs.YtomjidlkaocmkaaGreat
open Go.Am
set_option maxRecDepth 100000
def a10_9 : List AV := [(sL [40,102,117,110,32,102,32,40,41,32,110,117,109,32,40,97,116,32,34,97,98,34,32,50,41,41]), nL]
def b10_9 : AV := (.agg [(iL 45), (iL 0), (iL 0), cL, nL, nL])
theorem r10_9 : isR (scall senv 390 10 a10_9 []) b10_9 = true := by kernel_rfl
end Go.Proofs.YtomjidlkaocmkaaGreat
