import Derived.Test.YtomjidlkaocmkaaGreatCh9
namespace Go.Proofs.YtomjidlkaocmkaaGreat
open Go.Am
set_option maxRecDepth 100000
def a10_0 : List AV := [(sL [40,99,111,110,115,116,32,99,32,110,117,109,32,40,103,41,41,32,40,99,111,110,115,116,32,100,32,110,117,109,32,49,41,32,40,102,117,110,32,103,32,40,41,32,110,117,109,32,100,41,32,40,102,117,110,32,102,32,40,41,32,110,117,109,32,49,41]), nL]
def b10_0 : AV := (.agg [(iL 46), (iL 0), (iL 0), cL, nL, nL])
theorem r10_0 : isR (scall senv 390 10 a10_0 []) b10_0 = true := by kernel_rfl

def a10_1 : List AV := [(sL [40,102,117,110,32,102,32,40,41,32,110,117,109,32,40,102,41,41]), nL]
def b10_1 : AV := (.agg [(iL 43), (iL 0), (iL 0), cL, nL, nL])
theorem r10_1 : isR (scall senv 390 10 a10_1 []) b10_1 = true := by kernel_rfl

def a10_2 : List AV := [(sL [40,102,117,110,32,103,32,40,41,32,110,117,109,32,49,41,32,40,102,117,110,32,102,32,40,41,32,40,102,110,32,40,41,32,110,117,109,41,32,103,41]), nL]
def b10_2 : AV := (.agg [(iL 0), (iL 5), (iL 0), cL, nL, nL])
theorem r10_2 : isR (scall senv 390 10 a10_2 []) b10_2 = true := by kernel_rfl
end Go.Proofs.YtomjidlkaocmkaaGreat
