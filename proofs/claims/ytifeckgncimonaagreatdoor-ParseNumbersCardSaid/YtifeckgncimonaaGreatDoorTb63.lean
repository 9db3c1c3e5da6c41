import Derived.Test.YtifeckgncimonaaGreatDoorSe6
namespace Go.Proofs.YtifeckgncimonaaGreatDoor
open Go.Am
set_option maxRecDepth 100000
def a6_12 : List AV := [(sL [40,109,111,100,117,108,101,32,109,32,40,99,111,110,115,116,32,99,32,110,117,109,32,40,109,97,116,99,104,32,49,32,40,40,97,41,32,50,41,41,41,41])]
def b6_12 : AV := (.tup [(.agg [eL, nL, nL, nL, nL, nL]), (iL 13), (iL 34)])
theorem r6_12 : isR (scall senv 390 6 a6_12 []) b6_12 = true := by kernel_rfl

def a7_12 : List AV := [(sL [40,109,111,100,117,108,101,32,109,32,40,99,111,110,115,116,32,99,32,110,117,109,32,40,109,97,116,99,104,32,49,32,40,40,97,41,32,50,41,41,41,41])]
def b7_12 : AV := (.tup [(.agg [eL, nL, nL, nL, nL, nL]), (iL 13), (iL 34)])
theorem r7_12 : isR (scall senv 390 7 a7_12 []) b7_12 = true := by kernel_rfl

def a6_13 : List AV := [(sL [40,109,111,100,117,108,101,32,109,32,40,99,111,110,115,116,32,99,32,110,117,109,32,40,109,111,100,117,108,101,32,49,41,41,41])]
def b6_13 : AV := (.tup [(.agg [eL, nL, nL, nL, nL, nL]), (iL 12), (iL 23)])
theorem r6_13 : isR (scall senv 390 6 a6_13 []) b6_13 = true := by kernel_rfl

def a7_13 : List AV := [(sL [40,109,111,100,117,108,101,32,109,32,40,99,111,110,115,116,32,99,32,110,117,109,32,40,109,111,100,117,108,101,32,49,41,41,41])]
def b7_13 : AV := (.tup [(.agg [eL, nL, nL, nL, nL, nL]), (iL 12), (iL 23)])
theorem r7_13 : isR (scall senv 390 7 a7_13 []) b7_13 = true := by kernel_rfl

def a6_14 : List AV := [(sL [40,109,111,100,117,108,101,32,109,32,40,105,109,112,111,114,116,32,97,41,41])]
def b6_14 : AV := (.tup [(.agg [(sL [109]), nL, nL, nL, nL, nL]), (iL 0), (iL 0)])
theorem r6_14 : isR (scall senv 390 6 a6_14 []) b6_14 = true := by kernel_rfl

def a7_14 : List AV := [(sL [40,109,111,100,117,108,101,32,109,32,40,105,109,112,111,114,116,32,97,41,41])]
def b7_14 : AV := (.tup [(.agg [(sL [109]), nL, nL, nL, nL, nL]), (iL 0), (iL 0)])
theorem r7_14 : isR (scall senv 390 7 a7_14 []) b7_14 = true := by kernel_rfl

def a6_15 : List AV := [(sL [40,109,111,100,117,108,101,32,109,32,40,101,120,112,111,114,116,32,102,41,32,40,101,120,112,111,114,116,32,103,32,84,41,41])]
def b6_15 : AV := (.tup [(.agg [(sL [109]), nL, (.isl 1 false [(sL [102]), (sL [103]), (sL [84])]), nL, nL, nL]), (iL 0), (iL 0)])
theorem r6_15 : isR (scall senv 390 6 a6_15 []) b6_15 = true := by kernel_rfl

def a7_15 : List AV := [(sL [40,109,111,100,117,108,101,32,109,32,40,101,120,112,111,114,116,32,102,41,32,40,101,120,112,111,114,116,32,103,32,84,41,41])]
def b7_15 : AV := (.tup [(.agg [(sL [109]), nL, (.isl 1 false [(sL [102]), (sL [103]), (sL [84])]), nL, nL, nL]), (iL 0), (iL 0)])
theorem r7_15 : isR (scall senv 390 7 a7_15 []) b7_15 = true := by kernel_rfl

def a6_16 : List AV := [(sL [40,109,111,100,117,108,101,32,109,32,40,99,111,110,115,116,32,99,32,110,117,109,32,40,70,32,49,32,50,32,51,32,52,32,53,41,41,41])]
def b6_16 : AV := (.tup [(.agg [eL, nL, nL, nL, nL, nL]), (iL 19), (iL 23)])
theorem r6_16 : isR (scall senv 390 6 a6_16 []) b6_16 = true := by kernel_rfl

def a7_16 : List AV := [(sL [40,109,111,100,117,108,101,32,109,32,40,99,111,110,115,116,32,99,32,110,117,109,32,40,70,32,49,32,50,32,51,32,52,32,53,41,41,41])]
def b7_16 : AV := (.tup [(.agg [eL, nL, nL, nL, nL, nL]), (iL 19), (iL 23)])
theorem r7_16 : isR (scall senv 390 7 a7_16 []) b7_16 = true := by kernel_rfl

def a6_17 : List AV := [(sL [40,109,111,100,117,108,101,32,109,32,40,99,111,110,115,116,32,99,32,110,117,109,32,40,102,32,49,32,50,32,51,32,52,32,53,32,54,32,55,41,41,41])]
def b6_17 : AV := (.tup [(.agg [eL, nL, nL, nL, nL, nL]), (iL 19), (iL 23)])
theorem r6_17 : isR (scall senv 390 6 a6_17 []) b6_17 = true := by kernel_rfl

def a7_17 : List AV := [(sL [40,109,111,100,117,108,101,32,109,32,40,99,111,110,115,116,32,99,32,110,117,109,32,40,102,32,49,32,50,32,51,32,52,32,53,32,54,32,55,41,41,41])]
def b7_17 : AV := (.tup [(.agg [eL, nL, nL, nL, nL, nL]), (iL 19), (iL 23)])
theorem r7_17 : isR (scall senv 390 7 a7_17 []) b7_17 = true := by kernel_rfl
end Go.Proofs.YtifeckgncimonaaGreatDoor
