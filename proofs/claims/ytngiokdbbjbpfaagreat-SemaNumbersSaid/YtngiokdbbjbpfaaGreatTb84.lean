import Derived.Test.YtngiokdbbjbpfaaGreatSe8
namespace Go.Proofs.YtngiokdbbjbpfaaGreat
open Go.Am
set_option maxRecDepth 100000
def a7_22 : List AV := [(sL [40,109,111,100,117,108,101,32,109,32,40,102,117,110,32,102,32,40,40,120,32,110,117,109,41,41,32,110,117,109,32,40,102,32,120,32,120,41,41,41])]
def b7_22 : AV := (.agg [(sL [109]), nL, nL, nL, nL, (.isl 12 false [(.agg [(sL [102]), (.isl 2 false [(.agg [(sL [120]), (sL [110,117,109])])]), (sL [110,117,109]), (iL 12), (iL 31), (sL [102]), cL, eL, eL, (.isl 9 false [(.agg [(iL 3), (iL 34), (sL [120]), cL, eL, eL, nL, nL, nL]), (.agg [(iL 3), (iL 36), (sL [120]), cL, eL, eL, nL, nL, nL])]), nL, nL])])])
theorem r7_22 : isR (scall senv 390 7 a7_22 []) b7_22 = true := by kernel_rfl

def a8_22 : List AV := [(.agg [(sL [109]), nL, nL, nL, nL, (.isl 12 false [(.agg [(sL [102]), (.isl 2 false [(.agg [(sL [120]), (sL [110,117,109])])]), (sL [110,117,109]), (iL 12), (iL 31), (sL [102]), cL, eL, eL, (.isl 9 false [(.agg [(iL 3), (iL 34), (sL [120]), cL, eL, eL, nL, nL, nL]), (.agg [(iL 3), (iL 36), (sL [120]), cL, eL, eL, nL, nL, nL])]), nL, nL])])]), nL]
def b8_22 : AV := (.tup [(iL 19), (iL 31), (sL [102])])
theorem r8_22 : isR (scall senv 390 8 a8_22 []) b8_22 = true := by kernel_rfl

def a9_22 : List AV := [(.agg [(sL [109]), nL, nL, nL, nL, (.isl 12 false [(.agg [(sL [102]), (.isl 2 false [(.agg [(sL [120]), (sL [110,117,109])])]), (sL [110,117,109]), (iL 12), (iL 31), (sL [102]), cL, eL, eL, (.isl 9 false [(.agg [(iL 3), (iL 34), (sL [120]), cL, eL, eL, nL, nL, nL]), (.agg [(iL 3), (iL 36), (sL [120]), cL, eL, eL, nL, nL, nL])]), nL, nL])])]), nL]
def b9_22 : AV := (.tup [(iL 19), (iL 31), (sL [102])])
theorem r9_22 : isR (scall senv 390 9 a9_22 []) b9_22 = true := by kernel_rfl

def a7_23 : List AV := [(sL [40,109,111,100,117,108,101,32,109,32,40,99,111,110,115,116,32,99,32,110,117,109,32,40,102,41,41,32,40,102,117,110,32,102,32,40,41,32,110,117,109,32,99,41,41])]
def b7_23 : AV := (.agg [(sL [109]), nL, nL, nL, (.isl 11 false [(.agg [(sL [99]), (sL [110,117,109]), (iL 12), (iL 23), (sL [102]), cL, eL, eL, nL, nL, nL])]), (.isl 12 false [(.agg [(sL [102]), nL, (sL [110,117,109]), (iL 3), (iL 42), (sL [99]), cL, eL, eL, nL, nL, nL])])])
theorem r7_23 : isR (scall senv 390 7 a7_23 []) b7_23 = true := by kernel_rfl

def a8_23 : List AV := [(.agg [(sL [109]), nL, nL, nL, (.isl 11 false [(.agg [(sL [99]), (sL [110,117,109]), (iL 12), (iL 23), (sL [102]), cL, eL, eL, nL, nL, nL])]), (.isl 12 false [(.agg [(sL [102]), nL, (sL [110,117,109]), (iL 3), (iL 42), (sL [99]), cL, eL, eL, nL, nL, nL])])]), nL]
def b8_23 : AV := (.tup [(iL 0), (iL 0), eL])
theorem r8_23 : isR (scall senv 390 8 a8_23 []) b8_23 = true := by kernel_rfl

def a9_23 : List AV := [(.agg [(sL [109]), nL, nL, nL, (.isl 11 false [(.agg [(sL [99]), (sL [110,117,109]), (iL 12), (iL 23), (sL [102]), cL, eL, eL, nL, nL, nL])]), (.isl 12 false [(.agg [(sL [102]), nL, (sL [110,117,109]), (iL 3), (iL 42), (sL [99]), cL, eL, eL, nL, nL, nL])])]), nL]
def b9_23 : AV := (.tup [(iL 0), (iL 0), eL])
theorem r9_23 : isR (scall senv 390 9 a9_23 []) b9_23 = true := by kernel_rfl

def a7_24 : List AV := [(sL [40,109,111,100,117,108,101,32,109,32,40,102,117,110,32,102,32,40,41,32,110,117,109,32,40,108,101,116,32,120,32,49,32,40,108,101,116,32,120,32,34,34,32,120,41,41,41,41])]
def b7_24 : AV := (.agg [(sL [109]), nL, nL, nL, nL, (.isl 12 false [(.agg [(sL [102]), nL, (sL [110,117,109]), (iL 4), (iL 24), (sL [120]), cL, eL, eL, (.isl 9 false [(.agg [(iL 1), (iL 31), eL, (.lit (.complex .f64 4607182418800017408 0)), eL, eL, nL, nL, nL]), (.agg [(iL 4), (iL 33), (sL [120]), cL, eL, eL, (.isl 9 false [(.agg [(iL 2), (iL 40), eL, cL, eL, eL, nL, nL, nL]), (.agg [(iL 3), (iL 43), (sL [120]), cL, eL, eL, nL, nL, nL])]), nL, nL])]), nL, nL])])])
theorem r7_24 : isR (scall senv 390 7 a7_24 []) b7_24 = true := by kernel_rfl

def a8_24 : List AV := [(.agg [(sL [109]), nL, nL, nL, nL, (.isl 12 false [(.agg [(sL [102]), nL, (sL [110,117,109]), (iL 4), (iL 24), (sL [120]), cL, eL, eL, (.isl 9 false [(.agg [(iL 1), (iL 31), eL, (.lit (.complex .f64 4607182418800017408 0)), eL, eL, nL, nL, nL]), (.agg [(iL 4), (iL 33), (sL [120]), cL, eL, eL, (.isl 9 false [(.agg [(iL 2), (iL 40), eL, cL, eL, eL, nL, nL, nL]), (.agg [(iL 3), (iL 43), (sL [120]), cL, eL, eL, nL, nL, nL])]), nL, nL])]), nL, nL])])]), nL]
def b8_24 : AV := (.tup [(iL 17), (iL 24), (sL [102])])
theorem r8_24 : isR (scall senv 390 8 a8_24 []) b8_24 = true := by kernel_rfl

def a9_24 : List AV := [(.agg [(sL [109]), nL, nL, nL, nL, (.isl 12 false [(.agg [(sL [102]), nL, (sL [110,117,109]), (iL 4), (iL 24), (sL [120]), cL, eL, eL, (.isl 9 false [(.agg [(iL 1), (iL 31), eL, (.lit (.complex .f64 4607182418800017408 0)), eL, eL, nL, nL, nL]), (.agg [(iL 4), (iL 33), (sL [120]), cL, eL, eL, (.isl 9 false [(.agg [(iL 2), (iL 40), eL, cL, eL, eL, nL, nL, nL]), (.agg [(iL 3), (iL 43), (sL [120]), cL, eL, eL, nL, nL, nL])]), nL, nL])]), nL, nL])])]), nL]
def b9_24 : AV := (.tup [(iL 17), (iL 24), (sL [102])])
theorem r9_24 : isR (scall senv 390 9 a9_24 []) b9_24 = true := by kernel_rfl

def a7_25 : List AV := [(sL [40,109,111,100,117,108,101,32,109,32,40,102,117,110,32,102,32,40,40,120,32,110,117,109,41,41,32,110,117,109,32,40,97,100,100,32,120,32,34,97,34,41,41,41])]
def b7_25 : AV := (.agg [(sL [109]), nL, nL, nL, nL, (.isl 12 false [(.agg [(sL [102]), (.isl 2 false [(.agg [(sL [120]), (sL [110,117,109])])]), (sL [110,117,109]), (iL 6), (iL 31), (sL [97,100,100]), cL, eL, eL, (.isl 9 false [(.agg [(iL 3), (iL 36), (sL [120]), cL, eL, eL, nL, nL, nL]), (.agg [(iL 2), (iL 38), eL, cL, (sL [97]), eL, nL, nL, nL])]), nL, nL])])])
theorem r7_25 : isR (scall senv 390 7 a7_25 []) b7_25 = true := by kernel_rfl

def a8_25 : List AV := [(.agg [(sL [109]), nL, nL, nL, nL, (.isl 12 false [(.agg [(sL [102]), (.isl 2 false [(.agg [(sL [120]), (sL [110,117,109])])]), (sL [110,117,109]), (iL 6), (iL 31), (sL [97,100,100]), cL, eL, eL, (.isl 9 false [(.agg [(iL 3), (iL 36), (sL [120]), cL, eL, eL, nL, nL, nL]), (.agg [(iL 2), (iL 38), eL, cL, (sL [97]), eL, nL, nL, nL])]), nL, nL])])]), nL]
def b8_25 : AV := (.tup [(iL 17), (iL 38), (sL [102])])
theorem r8_25 : isR (scall senv 390 8 a8_25 []) b8_25 = true := by kernel_rfl

def a7_26 : List AV := [(sL [40,109,111,100,117,108,101,32,109,32,40,99,111,110,115,116,32,97,32,110,117,109,32,98,41,32,40,99,111,110,115,116,32,98,32,110,117,109,32,49,41,41])]
def b7_26 : AV := (.agg [(sL [109]), nL, nL, nL, (.isl 11 false [(.agg [(sL [97]), (sL [110,117,109]), (iL 3), (iL 23), (sL [98]), cL, eL, eL, nL, nL, nL]), (.agg [(sL [98]), (sL [110,117,109]), (iL 1), (iL 39), eL, (.lit (.complex .f64 4607182418800017408 0)), eL, eL, nL, nL, nL])]), nL])
theorem r7_26 : isR (scall senv 390 7 a7_26 []) b7_26 = true := by kernel_rfl

def a8_26 : List AV := [(.agg [(sL [109]), nL, nL, nL, (.isl 11 false [(.agg [(sL [97]), (sL [110,117,109]), (iL 3), (iL 23), (sL [98]), cL, eL, eL, nL, nL, nL]), (.agg [(sL [98]), (sL [110,117,109]), (iL 1), (iL 39), eL, (.lit (.complex .f64 4607182418800017408 0)), eL, eL, nL, nL, nL])]), nL]), nL]
def b8_26 : AV := (.tup [(iL 13), (iL 23), (sL [97])])
theorem r8_26 : isR (scall senv 390 8 a8_26 []) b8_26 = true := by kernel_rfl

def a7_27 : List AV := [(sL [40,109,111,100,117,108,101,32,109,32,40,116,121,112,101,32,84,32,40,65,41,32,40,66,32,110,117,109,41,41,32,40,102,117,110,32,102,32,40,40,116,32,84,41,41,32,110,117,109,32,40,109,97,116,99,104,32,116,32,40,40,65,41,32,49,41,41,41,41])]
def b7_27 : AV := (.agg [(sL [109]), nL, nL, (.isl 2 false [(.agg [(sL [84]), (.isl 2 false [(.agg [(sL [65]), nL]), (.agg [(sL [66]), (.isl 1 false [(sL [110,117,109])])])])])]), nL, (.isl 12 false [(.agg [(sL [102]), (.isl 2 false [(.agg [(sL [116]), (sL [109,46,84])])]), (sL [110,117,109]), (iL 9), (iL 50), eL, cL, eL, eL, (.isl 9 false [(.agg [(iL 3), (iL 57), (sL [116]), cL, eL, eL, nL, nL, nL])]), nL, (.isl 11 false [(.agg [(sL [65]), nL, (iL 1), (iL 64), eL, (.lit (.complex .f64 4607182418800017408 0)), eL, eL, nL, nL, nL])])])])])
theorem r7_27 : isR (scall senv 390 7 a7_27 []) b7_27 = true := by kernel_rfl

def a8_27 : List AV := [(.agg [(sL [109]), nL, nL, (.isl 2 false [(.agg [(sL [84]), (.isl 2 false [(.agg [(sL [65]), nL]), (.agg [(sL [66]), (.isl 1 false [(sL [110,117,109])])])])])]), nL, (.isl 12 false [(.agg [(sL [102]), (.isl 2 false [(.agg [(sL [116]), (sL [109,46,84])])]), (sL [110,117,109]), (iL 9), (iL 50), eL, cL, eL, eL, (.isl 9 false [(.agg [(iL 3), (iL 57), (sL [116]), cL, eL, eL, nL, nL, nL])]), nL, (.isl 11 false [(.agg [(sL [65]), nL, (iL 1), (iL 64), eL, (.lit (.complex .f64 4607182418800017408 0)), eL, eL, nL, nL, nL])])])])]), nL]
def b8_27 : AV := (.tup [(iL 18), (iL 50), (sL [102])])
theorem r8_27 : isR (scall senv 390 8 a8_27 []) b8_27 = true := by kernel_rfl

def a7_28 : List AV := [(sL [40,109,111,100,117,108,101,32,109,32,40,102,117,110,32,102,32,40,40,120,32,110,117,109,41,41,32,110,117,109,32,40,97,100,100,32,120,32,49,41,41,41])]
def b7_28 : AV := (.agg [(sL [109]), nL, nL, nL, nL, (.isl 12 false [(.agg [(sL [102]), (.isl 2 false [(.agg [(sL [120]), (sL [110,117,109])])]), (sL [110,117,109]), (iL 6), (iL 31), (sL [97,100,100]), cL, eL, eL, (.isl 9 false [(.agg [(iL 3), (iL 36), (sL [120]), cL, eL, eL, nL, nL, nL]), (.agg [(iL 1), (iL 38), eL, (.lit (.complex .f64 4607182418800017408 0)), eL, eL, nL, nL, nL])]), nL, nL])])])
theorem r7_28 : isR (scall senv 390 7 a7_28 []) b7_28 = true := by kernel_rfl

def a8_28 : List AV := [(.agg [(sL [109]), nL, nL, nL, nL, (.isl 12 false [(.agg [(sL [102]), (.isl 2 false [(.agg [(sL [120]), (sL [110,117,109])])]), (sL [110,117,109]), (iL 6), (iL 31), (sL [97,100,100]), cL, eL, eL, (.isl 9 false [(.agg [(iL 3), (iL 36), (sL [120]), cL, eL, eL, nL, nL, nL]), (.agg [(iL 1), (iL 38), eL, (.lit (.complex .f64 4607182418800017408 0)), eL, eL, nL, nL, nL])]), nL, nL])])]), nL]
def b8_28 : AV := (.tup [(iL 0), (iL 0), eL])
theorem r8_28 : isR (scall senv 390 8 a8_28 []) b8_28 = true := by kernel_rfl

def a11_0 : List AV := []
def b11_0 : AV := tL
theorem r11_0 : isR (scall senv 390 11 a11_0 []) b11_0 = true := by kernel_rfl
end Go.Proofs.YtngiokdbbjbpfaaGreat
