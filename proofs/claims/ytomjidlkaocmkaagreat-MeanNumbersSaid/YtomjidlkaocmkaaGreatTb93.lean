import Derived.Test.YtomjidlkaocmkaaGreatCh9
namespace Go.Proofs.YtomjidlkaocmkaaGreat
open Go.Am
set_option maxRecDepth 100000
def a10_6 : List AV := [(sL [40,102,117,110,32,102,32,40,41,32,98,121,116,101,115,32,40,99,117,116,32,34,104,101,108,108,111,34,32,49,32,51,41,41]), nL]
def b10_6 : AV := (.agg [(iL 0), (iL 2), (iL 0), cL, (.isl 1 false [(uL 101), (uL 108)]), nL])
theorem r10_6 : isR (scall senv 390 10 a10_6 []) b10_6 = true := by kernel_rfl

def a10_7 : List AV := [(sL [40,102,117,110,32,102,32,40,41,32,110,117,109,32,40,109,117,108,32,49,48,48,48,48,48,48,32,49,48,48,48,48,48,48,41,41]), nL]
def b10_7 : AV := (.agg [(iL 44), (iL 0), (iL 0), cL, nL, nL])
theorem r10_7 : isR (scall senv 390 10 a10_7 []) b10_7 = true := by kernel_rfl

def a10_8 : List AV := [(sL [40,102,117,110,32,102,32,40,40,120,32,110,117,109,41,41,32,110,117,109,32,40,109,117,108,32,120,32,120,41,41]), (.isl 5 true [(.agg [(iL 1), (iL 0), (.lit (.complex .f64 0 4611686018427387904)), nL, nL])])]
def b10_8 : AV := (.agg [(iL 0), (iL 1), (iL 0), (.lit (.complex .f64 13839561654909534208 0)), nL, nL])
theorem r10_8 : isR (scall senv 390 10 a10_8 []) b10_8 = true := by kernel_rfl
end Go.Proofs.YtomjidlkaocmkaaGreat
