import Derived.Test.YtomjidlkaocmkaaGreatCh9
namespace Go.Proofs.YtomjidlkaocmkaaGreat
open Go.Am
set_option maxRecDepth 100000
def a10_3 : List AV := [(sL [40,102,117,110,32,102,32,40,40,120,32,110,117,109,41,41,32,110,117,109,32,120,41]), nL]
def b10_3 : AV := (.agg [(iL 1), (iL 0), (iL 0), cL, nL, nL])
theorem r10_3 : isR (scall senv 390 10 a10_3 []) b10_3 = true := by kernel_rfl

def a10_4 : List AV := [(sL [40,102,117,110,32,102,32,40,40,120,32,110,117,109,41,41,32,110,117,109,32,120,41]), (.isl 5 true [(.agg [(iL 2), (iL 0), cL, (.isl 1 false []), nL])])]
def b10_4 : AV := (.agg [(iL 1), (iL 0), (iL 0), cL, nL, nL])
theorem r10_4 : isR (scall senv 390 10 a10_4 []) b10_4 = true := by kernel_rfl

def a10_5 : List AV := [(sL [40,116,121,112,101,32,84,32,40,65,41,32,40,66,32,110,117,109,41,41,32,40,102,117,110,32,102,32,40,40,120,32,110,117,109,41,41,32,84,32,40,105,102,32,120,32,40,66,32,120,41,32,40,65,41,41,41]), (.isl 5 true [(.agg [(iL 1), (iL 0), (.lit (.complex .f64 4613937818241073152 0)), nL, nL])])]
def b10_5 : AV := (.agg [(iL 0), (iL 4), (iL 1), cL, nL, (.isl 5 false [(.agg [(iL 1), (iL 0), (.lit (.complex .f64 4613937818241073152 0)), nL, nL])])])
theorem r10_5 : isR (scall senv 390 10 a10_5 []) b10_5 = true := by kernel_rfl
end Go.Proofs.YtomjidlkaocmkaaGreat
