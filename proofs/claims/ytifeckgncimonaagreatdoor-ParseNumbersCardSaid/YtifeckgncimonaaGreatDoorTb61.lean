import Derived.Test.YtifeckgncimonaaGreatDoorSe6
namespace Go.Proofs.YtifeckgncimonaaGreatDoor
open Go.Am
set_option maxRecDepth 100000
def a6_0 : List AV := [(sL [40,109,111,100,117,108,101,32,109,41])]
def b6_0 : AV := (.tup [(.agg [(sL [109]), nL, nL, nL, nL, nL]), (iL 0), (iL 0)])
theorem r6_0 : isR (scall senv 390 6 a6_0 []) b6_0 = true := by kernel_rfl

def a7_0 : List AV := [(sL [40,109,111,100,117,108,101,32,109,41])]
def b7_0 : AV := (.tup [(.agg [(sL [109]), nL, nL, nL, nL, nL]), (iL 0), (iL 0)])
theorem r7_0 : isR (scall senv 390 7 a7_0 []) b7_0 = true := by kernel_rfl

def a6_1 : List AV := [(sL [40,109,111,100,117,108,101,32,109,32,40,108,101,116,32,120,41,41])]
def b6_1 : AV := (.tup [(.agg [eL, nL, nL, nL, nL, nL]), (iL 12), (iL 10)])
theorem r6_1 : isR (scall senv 390 6 a6_1 []) b6_1 = true := by kernel_rfl

def a7_1 : List AV := [(sL [40,109,111,100,117,108,101,32,109,32,40,108,101,116,32,120,41,41])]
def b7_1 : AV := (.tup [(.agg [eL, nL, nL, nL, nL, nL]), (iL 12), (iL 10)])
theorem r7_1 : isR (scall senv 390 7 a7_1 []) b7_1 = true := by kernel_rfl

def a6_2 : List AV := [(sL [40,109,111,100,117,108,101,41])]
def b6_2 : AV := (.tup [(.agg [eL, nL, nL, nL, nL, nL]), (iL 12), (iL 0)])
theorem r6_2 : isR (scall senv 390 6 a6_2 []) b6_2 = true := by kernel_rfl

def a7_2 : List AV := [(sL [40,109,111,100,117,108,101,41])]
def b7_2 : AV := (.tup [(.agg [eL, nL, nL, nL, nL, nL]), (iL 12), (iL 0)])
theorem r7_2 : isR (scall senv 390 7 a7_2 []) b7_2 = true := by kernel_rfl

def a6_3 : List AV := [(sL [40,41])]
def b6_3 : AV := (.tup [(.agg [eL, nL, nL, nL, nL, nL]), (iL 12), (iL 0)])
theorem r6_3 : isR (scall senv 390 6 a6_3 []) b6_3 = true := by kernel_rfl

def a7_3 : List AV := [(sL [40,41])]
def b7_3 : AV := (.tup [(.agg [eL, nL, nL, nL, nL, nL]), (iL 12), (iL 0)])
theorem r7_3 : isR (scall senv 390 7 a7_3 []) b7_3 = true := by kernel_rfl

def a6_4 : List AV := [(sL [40,109,111,100,117,108,101,32,109,32,40,116,121,112,101,32,84,41,41])]
def b6_4 : AV := (.tup [(.agg [eL, nL, nL, nL, nL, nL]), (iL 12), (iL 10)])
theorem r6_4 : isR (scall senv 390 6 a6_4 []) b6_4 = true := by kernel_rfl

def a7_4 : List AV := [(sL [40,109,111,100,117,108,101,32,109,32,40,116,121,112,101,32,84,41,41])]
def b7_4 : AV := (.tup [(.agg [eL, nL, nL, nL, nL, nL]), (iL 12), (iL 10)])
theorem r7_4 : isR (scall senv 390 7 a7_4 []) b7_4 = true := by kernel_rfl

def a6_5 : List AV := [(sL [40,109,111,100,117,108,101,32,109,32,40,116,121,112,101,32,116,32,40,65,41,41,41])]
def b6_5 : AV := (.tup [(.agg [eL, nL, nL, nL, nL, nL]), (iL 13), (iL 16)])
theorem r6_5 : isR (scall senv 390 6 a6_5 []) b6_5 = true := by kernel_rfl

def a7_5 : List AV := [(sL [40,109,111,100,117,108,101,32,109,32,40,116,121,112,101,32,116,32,40,65,41,41,41])]
def b7_5 : AV := (.tup [(.agg [eL, nL, nL, nL, nL, nL]), (iL 13), (iL 16)])
theorem r7_5 : isR (scall senv 390 7 a7_5 []) b7_5 = true := by kernel_rfl
end Go.Proofs.YtifeckgncimonaaGreatDoor
