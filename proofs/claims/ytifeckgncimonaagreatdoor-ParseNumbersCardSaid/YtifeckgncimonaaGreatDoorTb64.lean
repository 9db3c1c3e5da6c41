import Derived.Test.YtifeckgncimonaaGreatDoorSe6
namespace Go.Proofs.YtifeckgncimonaaGreatDoor
open Go.Am
set_option maxRecDepth 100000
def a6_18 : List AV := [(sL [40,109,111,100,117,108,101,32,109,32,40,99,111,110,115,116,32,99,32,110,117,109,32,40,99,97,108,108,41,41,41])]
def b6_18 : AV := (.tup [(.agg [eL, nL, nL, nL, nL, nL]), (iL 12), (iL 23)])
theorem r6_18 : isR (scall senv 390 6 a6_18 []) b6_18 = true := by kernel_rfl

def a7_18 : List AV := [(sL [40,109,111,100,117,108,101,32,109,32,40,99,111,110,115,116,32,99,32,110,117,109,32,40,99,97,108,108,41,41,41])]
def b7_18 : AV := (.tup [(.agg [eL, nL, nL, nL, nL, nL]), (iL 12), (iL 23)])
theorem r7_18 : isR (scall senv 390 7 a7_18 []) b7_18 = true := by kernel_rfl

def a6_19 : List AV := [(sL [40,109,111,100,117,108,101,32,109,32,40,99,111,110,115,116,32,99,32,110,117,109,32,97,100,100,41,41])]
def b6_19 : AV := (.tup [(.agg [(sL [109]), nL, nL, nL, (.isl 11 false [(.agg [(sL [99]), (sL [110,117,109]), (iL 3), (iL 23), (sL [97,100,100]), cL, eL, eL, nL, nL, nL])]), nL]), (iL 0), (iL 0)])
theorem r6_19 : isR (scall senv 390 6 a6_19 []) b6_19 = true := by kernel_rfl

def a7_19 : List AV := [(sL [40,109,111,100,117,108,101,32,109,32,40,99,111,110,115,116,32,99,32,110,117,109,32,97,100,100,41,41])]
def b7_19 : AV := (.tup [(.agg [(sL [109]), nL, nL, nL, (.isl 11 false [(.agg [(sL [99]), (sL [110,117,109]), (iL 3), (iL 23), (sL [97,100,100]), cL, eL, eL, nL, nL, nL])]), nL]), (iL 0), (iL 0)])
theorem r7_19 : isR (scall senv 390 7 a7_19 []) b7_19 = true := by kernel_rfl

def a6_20 : List AV := [(sL [40,109,111,100,117,108,101,32,109,32,40,99,111,110,115,116,32,99,32,110,117,109,32,40,97,46,98,46,99,41,41,41])]
def b6_20 : AV := (.tup [(.agg [eL, nL, nL, nL, nL, nL]), (iL 12), (iL 23)])
theorem r6_20 : isR (scall senv 390 6 a6_20 []) b6_20 = true := by kernel_rfl

def a7_20 : List AV := [(sL [40,109,111,100,117,108,101,32,109,32,40,99,111,110,115,116,32,99,32,110,117,109,32,40,97,46,98,46,99,41,41,41])]
def b7_20 : AV := (.tup [(.agg [eL, nL, nL, nL, nL, nL]), (iL 12), (iL 23)])
theorem r7_20 : isR (scall senv 390 7 a7_20 []) b7_20 = true := by kernel_rfl

def a6_21 : List AV := [(sL [40,109,111,100,117,108,101,32,109,32,40,102,117,110,32,102,32,40,41,32,110,117,109,32,49,41,41])]
def b6_21 : AV := (.tup [(.agg [(sL [109]), nL, nL, nL, nL, (.isl 12 false [(.agg [(sL [102]), nL, (sL [110,117,109]), (iL 1), (iL 24), eL, (.lit (.complex .f64 4607182418800017408 0)), eL, eL, nL, nL, nL])])]), (iL 0), (iL 0)])
theorem r6_21 : isR (scall senv 390 6 a6_21 []) b6_21 = true := by kernel_rfl

def a6_22 : List AV := [(sL [40,109,111,100,117,108,101,32,77,41])]
def b6_22 : AV := (.tup [(.agg [eL, nL, nL, nL, nL, nL]), (iL 13), (iL 8)])
theorem r6_22 : isR (scall senv 390 6 a6_22 []) b6_22 = true := by kernel_rfl

def a8_0 : List AV := []
def b8_0 : AV := tL
theorem r8_0 : isR (scall senv 390 8 a8_0 []) b8_0 = true := by kernel_rfl
end Go.Proofs.YtifeckgncimonaaGreatDoor
