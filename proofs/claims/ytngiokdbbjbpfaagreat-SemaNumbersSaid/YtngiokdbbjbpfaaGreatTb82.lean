import Derived.Test.YtngiokdbbjbpfaaGreatSe8
namespace Go.Proofs.YtngiokdbbjbpfaaGreat
open Go.Am
set_option maxRecDepth 100000
def a8_7 : List AV := [(.agg [(sL [109]), nL, nL, nL, nL, (.isl 12 false [(.agg [(sL [102]), nL, (sL [110,117,109]), (iL 6), (iL 24), (sL [108,101,110]), cL, eL, eL, (.isl 9 false [(.agg [(iL 1), (iL 29), eL, (.lit (.complex .f64 4607182418800017408 0)), eL, eL, nL, nL, nL])]), nL, nL])])]), nL]
def b8_7 : AV := (.tup [(iL 17), (iL 29), (sL [102])])
theorem r8_7 : isR (scall senv 390 8 a8_7 []) b8_7 = true := by kernel_rfl

def a9_7 : List AV := [(.agg [(sL [109]), nL, nL, nL, nL, (.isl 12 false [(.agg [(sL [102]), nL, (sL [110,117,109]), (iL 6), (iL 24), (sL [108,101,110]), cL, eL, eL, (.isl 9 false [(.agg [(iL 1), (iL 29), eL, (.lit (.complex .f64 4607182418800017408 0)), eL, eL, nL, nL, nL])]), nL, nL])])]), nL]
def b9_7 : AV := (.tup [(iL 17), (iL 29), (sL [102])])
theorem r9_7 : isR (scall senv 390 9 a9_7 []) b9_7 = true := by kernel_rfl

def a7_8 : List AV := [(sL [40,109,111,100,117,108,101,32,109,32,40,102,117,110,32,102,32,40,41,32,110,117,109,32,40,97,116,32,40,97,114,114,97,121,32,98,121,116,101,115,32,34,34,41,32,48,41,41,41])]
def b7_8 : AV := (.agg [(sL [109]), nL, nL, nL, nL, (.isl 12 false [(.agg [(sL [102]), nL, (sL [110,117,109]), (iL 6), (iL 24), (sL [97,116]), cL, eL, eL, (.isl 9 false [(.agg [(iL 7), (iL 28), eL, cL, eL, (sL [98,121,116,101,115]), (.isl 9 false [(.agg [(iL 2), (iL 41), eL, cL, eL, eL, nL, nL, nL])]), nL, nL]), (.agg [(iL 1), (iL 45), eL, cL, eL, eL, nL, nL, nL])]), nL, nL])])])
theorem r7_8 : isR (scall senv 390 7 a7_8 []) b7_8 = true := by kernel_rfl

def a8_8 : List AV := [(.agg [(sL [109]), nL, nL, nL, nL, (.isl 12 false [(.agg [(sL [102]), nL, (sL [110,117,109]), (iL 6), (iL 24), (sL [97,116]), cL, eL, eL, (.isl 9 false [(.agg [(iL 7), (iL 28), eL, cL, eL, (sL [98,121,116,101,115]), (.isl 9 false [(.agg [(iL 2), (iL 41), eL, cL, eL, eL, nL, nL, nL])]), nL, nL]), (.agg [(iL 1), (iL 45), eL, cL, eL, eL, nL, nL, nL])]), nL, nL])])]), nL]
def b8_8 : AV := (.tup [(iL 17), (iL 24), (sL [102])])
theorem r8_8 : isR (scall senv 390 8 a8_8 []) b8_8 = true := by kernel_rfl

def a9_8 : List AV := [(.agg [(sL [109]), nL, nL, nL, nL, (.isl 12 false [(.agg [(sL [102]), nL, (sL [110,117,109]), (iL 6), (iL 24), (sL [97,116]), cL, eL, eL, (.isl 9 false [(.agg [(iL 7), (iL 28), eL, cL, eL, (sL [98,121,116,101,115]), (.isl 9 false [(.agg [(iL 2), (iL 41), eL, cL, eL, eL, nL, nL, nL])]), nL, nL]), (.agg [(iL 1), (iL 45), eL, cL, eL, eL, nL, nL, nL])]), nL, nL])])]), nL]
def b9_8 : AV := (.tup [(iL 17), (iL 24), (sL [102])])
theorem r9_8 : isR (scall senv 390 9 a9_8 []) b9_8 = true := by kernel_rfl

def a7_9 : List AV := [(sL [40,109,111,100,117,108,101,32,109,32,40,102,117,110,32,102,32,40,41,32,98,121,116,101,115,32,40,97,116,32,40,97,114,114,97,121,32,98,121,116,101,115,32,34,34,41,32,48,41,41,41])]
def b7_9 : AV := (.agg [(sL [109]), nL, nL, nL, nL, (.isl 12 false [(.agg [(sL [102]), nL, (sL [98,121,116,101,115]), (iL 6), (iL 26), (sL [97,116]), cL, eL, eL, (.isl 9 false [(.agg [(iL 7), (iL 30), eL, cL, eL, (sL [98,121,116,101,115]), (.isl 9 false [(.agg [(iL 2), (iL 43), eL, cL, eL, eL, nL, nL, nL])]), nL, nL]), (.agg [(iL 1), (iL 47), eL, cL, eL, eL, nL, nL, nL])]), nL, nL])])])
theorem r7_9 : isR (scall senv 390 7 a7_9 []) b7_9 = true := by kernel_rfl

def a8_9 : List AV := [(.agg [(sL [109]), nL, nL, nL, nL, (.isl 12 false [(.agg [(sL [102]), nL, (sL [98,121,116,101,115]), (iL 6), (iL 26), (sL [97,116]), cL, eL, eL, (.isl 9 false [(.agg [(iL 7), (iL 30), eL, cL, eL, (sL [98,121,116,101,115]), (.isl 9 false [(.agg [(iL 2), (iL 43), eL, cL, eL, eL, nL, nL, nL])]), nL, nL]), (.agg [(iL 1), (iL 47), eL, cL, eL, eL, nL, nL, nL])]), nL, nL])])]), nL]
def b8_9 : AV := (.tup [(iL 0), (iL 0), eL])
theorem r8_9 : isR (scall senv 390 8 a8_9 []) b8_9 = true := by kernel_rfl

def a9_9 : List AV := [(.agg [(sL [109]), nL, nL, nL, nL, (.isl 12 false [(.agg [(sL [102]), nL, (sL [98,121,116,101,115]), (iL 6), (iL 26), (sL [97,116]), cL, eL, eL, (.isl 9 false [(.agg [(iL 7), (iL 30), eL, cL, eL, (sL [98,121,116,101,115]), (.isl 9 false [(.agg [(iL 2), (iL 43), eL, cL, eL, eL, nL, nL, nL])]), nL, nL]), (.agg [(iL 1), (iL 47), eL, cL, eL, eL, nL, nL, nL])]), nL, nL])])]), nL]
def b9_9 : AV := (.tup [(iL 0), (iL 0), eL])
theorem r9_9 : isR (scall senv 390 9 a9_9 []) b9_9 = true := by kernel_rfl

def a7_10 : List AV := [(sL [40,109,111,100,117,108,101,32,109,32,40,102,117,110,32,102,32,40,41,32,110,117,109,32,40,99,117,116,32,34,97,34,32,48,32,49,41,41,41])]
def b7_10 : AV := (.agg [(sL [109]), nL, nL, nL, nL, (.isl 12 false [(.agg [(sL [102]), nL, (sL [110,117,109]), (iL 6), (iL 24), (sL [99,117,116]), cL, eL, eL, (.isl 9 false [(.agg [(iL 2), (iL 29), eL, cL, (sL [97]), eL, nL, nL, nL]), (.agg [(iL 1), (iL 33), eL, cL, eL, eL, nL, nL, nL]), (.agg [(iL 1), (iL 35), eL, (.lit (.complex .f64 4607182418800017408 0)), eL, eL, nL, nL, nL])]), nL, nL])])])
theorem r7_10 : isR (scall senv 390 7 a7_10 []) b7_10 = true := by kernel_rfl

def a8_10 : List AV := [(.agg [(sL [109]), nL, nL, nL, nL, (.isl 12 false [(.agg [(sL [102]), nL, (sL [110,117,109]), (iL 6), (iL 24), (sL [99,117,116]), cL, eL, eL, (.isl 9 false [(.agg [(iL 2), (iL 29), eL, cL, (sL [97]), eL, nL, nL, nL]), (.agg [(iL 1), (iL 33), eL, cL, eL, eL, nL, nL, nL]), (.agg [(iL 1), (iL 35), eL, (.lit (.complex .f64 4607182418800017408 0)), eL, eL, nL, nL, nL])]), nL, nL])])]), nL]
def b8_10 : AV := (.tup [(iL 17), (iL 24), (sL [102])])
theorem r8_10 : isR (scall senv 390 8 a8_10 []) b8_10 = true := by kernel_rfl

def a9_10 : List AV := [(.agg [(sL [109]), nL, nL, nL, nL, (.isl 12 false [(.agg [(sL [102]), nL, (sL [110,117,109]), (iL 6), (iL 24), (sL [99,117,116]), cL, eL, eL, (.isl 9 false [(.agg [(iL 2), (iL 29), eL, cL, (sL [97]), eL, nL, nL, nL]), (.agg [(iL 1), (iL 33), eL, cL, eL, eL, nL, nL, nL]), (.agg [(iL 1), (iL 35), eL, (.lit (.complex .f64 4607182418800017408 0)), eL, eL, nL, nL, nL])]), nL, nL])])]), nL]
def b9_10 : AV := (.tup [(iL 17), (iL 24), (sL [102])])
theorem r9_10 : isR (scall senv 390 9 a9_10 []) b9_10 = true := by kernel_rfl

def a7_11 : List AV := [(sL [40,109,111,100,117,108,101,32,109,32,40,116,121,112,101,32,84,32,40,65,41,32,40,66,32,110,117,109,41,41,32,40,102,117,110,32,102,32,40,40,116,32,84,41,41,32,110,117,109,32,40,109,97,116,99,104,32,116,32,40,40,65,41,32,49,41,32,40,40,65,41,32,50,41,41,41,41])]
def b7_11 : AV := (.agg [(sL [109]), nL, nL, (.isl 2 false [(.agg [(sL [84]), (.isl 2 false [(.agg [(sL [65]), nL]), (.agg [(sL [66]), (.isl 1 false [(sL [110,117,109])])])])])]), nL, (.isl 12 false [(.agg [(sL [102]), (.isl 2 false [(.agg [(sL [116]), (sL [109,46,84])])]), (sL [110,117,109]), (iL 9), (iL 50), eL, cL, eL, eL, (.isl 9 false [(.agg [(iL 3), (iL 57), (sL [116]), cL, eL, eL, nL, nL, nL])]), nL, (.isl 11 false [(.agg [(sL [65]), nL, (iL 1), (iL 64), eL, (.lit (.complex .f64 4607182418800017408 0)), eL, eL, nL, nL, nL]), (.agg [(sL [65]), nL, (iL 1), (iL 72), eL, (.lit (.complex .f64 4611686018427387904 0)), eL, eL, nL, nL, nL])])])])])
theorem r7_11 : isR (scall senv 390 7 a7_11 []) b7_11 = true := by kernel_rfl

def a8_11 : List AV := [(.agg [(sL [109]), nL, nL, (.isl 2 false [(.agg [(sL [84]), (.isl 2 false [(.agg [(sL [65]), nL]), (.agg [(sL [66]), (.isl 1 false [(sL [110,117,109])])])])])]), nL, (.isl 12 false [(.agg [(sL [102]), (.isl 2 false [(.agg [(sL [116]), (sL [109,46,84])])]), (sL [110,117,109]), (iL 9), (iL 50), eL, cL, eL, eL, (.isl 9 false [(.agg [(iL 3), (iL 57), (sL [116]), cL, eL, eL, nL, nL, nL])]), nL, (.isl 11 false [(.agg [(sL [65]), nL, (iL 1), (iL 64), eL, (.lit (.complex .f64 4607182418800017408 0)), eL, eL, nL, nL, nL]), (.agg [(sL [65]), nL, (iL 1), (iL 72), eL, (.lit (.complex .f64 4611686018427387904 0)), eL, eL, nL, nL, nL])])])])]), nL]
def b8_11 : AV := (.tup [(iL 15), (iL 50), (sL [102])])
theorem r8_11 : isR (scall senv 390 8 a8_11 []) b8_11 = true := by kernel_rfl

def a9_11 : List AV := [(.agg [(sL [109]), nL, nL, (.isl 2 false [(.agg [(sL [84]), (.isl 2 false [(.agg [(sL [65]), nL]), (.agg [(sL [66]), (.isl 1 false [(sL [110,117,109])])])])])]), nL, (.isl 12 false [(.agg [(sL [102]), (.isl 2 false [(.agg [(sL [116]), (sL [109,46,84])])]), (sL [110,117,109]), (iL 9), (iL 50), eL, cL, eL, eL, (.isl 9 false [(.agg [(iL 3), (iL 57), (sL [116]), cL, eL, eL, nL, nL, nL])]), nL, (.isl 11 false [(.agg [(sL [65]), nL, (iL 1), (iL 64), eL, (.lit (.complex .f64 4607182418800017408 0)), eL, eL, nL, nL, nL]), (.agg [(sL [65]), nL, (iL 1), (iL 72), eL, (.lit (.complex .f64 4611686018427387904 0)), eL, eL, nL, nL, nL])])])])]), nL]
def b9_11 : AV := (.tup [(iL 15), (iL 50), (sL [102])])
theorem r9_11 : isR (scall senv 390 9 a9_11 []) b9_11 = true := by kernel_rfl

def a7_12 : List AV := [(sL [40,109,111,100,117,108,101,32,109,32,40,116,121,112,101,32,84,32,40,65,41,32,40,66,32,110,117,109,41,41,32,40,102,117,110,32,102,32,40,40,116,32,84,41,41,32,110,117,109,32,40,109,97,116,99,104,32,116,32,40,40,65,41,32,49,41,32,40,40,66,41,32,50,41,41,41,41])]
def b7_12 : AV := (.agg [(sL [109]), nL, nL, (.isl 2 false [(.agg [(sL [84]), (.isl 2 false [(.agg [(sL [65]), nL]), (.agg [(sL [66]), (.isl 1 false [(sL [110,117,109])])])])])]), nL, (.isl 12 false [(.agg [(sL [102]), (.isl 2 false [(.agg [(sL [116]), (sL [109,46,84])])]), (sL [110,117,109]), (iL 9), (iL 50), eL, cL, eL, eL, (.isl 9 false [(.agg [(iL 3), (iL 57), (sL [116]), cL, eL, eL, nL, nL, nL])]), nL, (.isl 11 false [(.agg [(sL [65]), nL, (iL 1), (iL 64), eL, (.lit (.complex .f64 4607182418800017408 0)), eL, eL, nL, nL, nL]), (.agg [(sL [66]), nL, (iL 1), (iL 72), eL, (.lit (.complex .f64 4611686018427387904 0)), eL, eL, nL, nL, nL])])])])])
theorem r7_12 : isR (scall senv 390 7 a7_12 []) b7_12 = true := by kernel_rfl

def a8_12 : List AV := [(.agg [(sL [109]), nL, nL, (.isl 2 false [(.agg [(sL [84]), (.isl 2 false [(.agg [(sL [65]), nL]), (.agg [(sL [66]), (.isl 1 false [(sL [110,117,109])])])])])]), nL, (.isl 12 false [(.agg [(sL [102]), (.isl 2 false [(.agg [(sL [116]), (sL [109,46,84])])]), (sL [110,117,109]), (iL 9), (iL 50), eL, cL, eL, eL, (.isl 9 false [(.agg [(iL 3), (iL 57), (sL [116]), cL, eL, eL, nL, nL, nL])]), nL, (.isl 11 false [(.agg [(sL [65]), nL, (iL 1), (iL 64), eL, (.lit (.complex .f64 4607182418800017408 0)), eL, eL, nL, nL, nL]), (.agg [(sL [66]), nL, (iL 1), (iL 72), eL, (.lit (.complex .f64 4611686018427387904 0)), eL, eL, nL, nL, nL])])])])]), nL]
def b8_12 : AV := (.tup [(iL 19), (iL 50), (sL [102])])
theorem r8_12 : isR (scall senv 390 8 a8_12 []) b8_12 = true := by kernel_rfl

def a9_12 : List AV := [(.agg [(sL [109]), nL, nL, (.isl 2 false [(.agg [(sL [84]), (.isl 2 false [(.agg [(sL [65]), nL]), (.agg [(sL [66]), (.isl 1 false [(sL [110,117,109])])])])])]), nL, (.isl 12 false [(.agg [(sL [102]), (.isl 2 false [(.agg [(sL [116]), (sL [109,46,84])])]), (sL [110,117,109]), (iL 9), (iL 50), eL, cL, eL, eL, (.isl 9 false [(.agg [(iL 3), (iL 57), (sL [116]), cL, eL, eL, nL, nL, nL])]), nL, (.isl 11 false [(.agg [(sL [65]), nL, (iL 1), (iL 64), eL, (.lit (.complex .f64 4607182418800017408 0)), eL, eL, nL, nL, nL]), (.agg [(sL [66]), nL, (iL 1), (iL 72), eL, (.lit (.complex .f64 4611686018427387904 0)), eL, eL, nL, nL, nL])])])])]), nL]
def b9_12 : AV := (.tup [(iL 19), (iL 50), (sL [102])])
theorem r9_12 : isR (scall senv 390 9 a9_12 []) b9_12 = true := by kernel_rfl

def a7_13 : List AV := [(sL [40,109,111,100,117,108,101,32,109,32,40,116,121,112,101,32,84,32,40,65,41,32,40,66,32,110,117,109,41,41,32,40,102,117,110,32,102,32,40,40,116,32,84,41,41,32,110,117,109,32,40,109,97,116,99,104,32,116,32,40,40,65,41,32,49,41,32,40,40,66,32,120,41,32,34,34,41,41,41,41])]
def b7_13 : AV := (.agg [(sL [109]), nL, nL, (.isl 2 false [(.agg [(sL [84]), (.isl 2 false [(.agg [(sL [65]), nL]), (.agg [(sL [66]), (.isl 1 false [(sL [110,117,109])])])])])]), nL, (.isl 12 false [(.agg [(sL [102]), (.isl 2 false [(.agg [(sL [116]), (sL [109,46,84])])]), (sL [110,117,109]), (iL 9), (iL 50), eL, cL, eL, eL, (.isl 9 false [(.agg [(iL 3), (iL 57), (sL [116]), cL, eL, eL, nL, nL, nL])]), nL, (.isl 11 false [(.agg [(sL [65]), nL, (iL 1), (iL 64), eL, (.lit (.complex .f64 4607182418800017408 0)), eL, eL, nL, nL, nL]), (.agg [(sL [66]), (.isl 1 false [(sL [120])]), (iL 2), (iL 74), eL, cL, eL, eL, nL, nL, nL])])])])])
theorem r7_13 : isR (scall senv 390 7 a7_13 []) b7_13 = true := by kernel_rfl

def a8_13 : List AV := [(.agg [(sL [109]), nL, nL, (.isl 2 false [(.agg [(sL [84]), (.isl 2 false [(.agg [(sL [65]), nL]), (.agg [(sL [66]), (.isl 1 false [(sL [110,117,109])])])])])]), nL, (.isl 12 false [(.agg [(sL [102]), (.isl 2 false [(.agg [(sL [116]), (sL [109,46,84])])]), (sL [110,117,109]), (iL 9), (iL 50), eL, cL, eL, eL, (.isl 9 false [(.agg [(iL 3), (iL 57), (sL [116]), cL, eL, eL, nL, nL, nL])]), nL, (.isl 11 false [(.agg [(sL [65]), nL, (iL 1), (iL 64), eL, (.lit (.complex .f64 4607182418800017408 0)), eL, eL, nL, nL, nL]), (.agg [(sL [66]), (.isl 1 false [(sL [120])]), (iL 2), (iL 74), eL, cL, eL, eL, nL, nL, nL])])])])]), nL]
def b8_13 : AV := (.tup [(iL 17), (iL 74), (sL [102])])
theorem r8_13 : isR (scall senv 390 8 a8_13 []) b8_13 = true := by kernel_rfl

def a9_13 : List AV := [(.agg [(sL [109]), nL, nL, (.isl 2 false [(.agg [(sL [84]), (.isl 2 false [(.agg [(sL [65]), nL]), (.agg [(sL [66]), (.isl 1 false [(sL [110,117,109])])])])])]), nL, (.isl 12 false [(.agg [(sL [102]), (.isl 2 false [(.agg [(sL [116]), (sL [109,46,84])])]), (sL [110,117,109]), (iL 9), (iL 50), eL, cL, eL, eL, (.isl 9 false [(.agg [(iL 3), (iL 57), (sL [116]), cL, eL, eL, nL, nL, nL])]), nL, (.isl 11 false [(.agg [(sL [65]), nL, (iL 1), (iL 64), eL, (.lit (.complex .f64 4607182418800017408 0)), eL, eL, nL, nL, nL]), (.agg [(sL [66]), (.isl 1 false [(sL [120])]), (iL 2), (iL 74), eL, cL, eL, eL, nL, nL, nL])])])])]), nL]
def b9_13 : AV := (.tup [(iL 17), (iL 74), (sL [102])])
theorem r9_13 : isR (scall senv 390 9 a9_13 []) b9_13 = true := by kernel_rfl

def a7_14 : List AV := [(sL [40,109,111,100,117,108,101,32,109,32,40,116,121,112,101,32,84,32,40,65,41,41,32,40,116,121,112,101,32,85,32,40,66,41,41,32,40,102,117,110,32,102,32,40,40,116,32,84,41,41,32,110,117,109,32,40,109,97,116,99,104,32,116,32,40,40,66,41,32,49,41,41,41,41])]
def b7_14 : AV := (.agg [(sL [109]), nL, nL, (.isl 2 false [(.agg [(sL [84]), (.isl 2 false [(.agg [(sL [65]), nL])])]), (.agg [(sL [85]), (.isl 2 false [(.agg [(sL [66]), nL])])])]), nL, (.isl 12 false [(.agg [(sL [102]), (.isl 2 false [(.agg [(sL [116]), (sL [109,46,84])])]), (sL [110,117,109]), (iL 9), (iL 55), eL, cL, eL, eL, (.isl 9 false [(.agg [(iL 3), (iL 62), (sL [116]), cL, eL, eL, nL, nL, nL])]), nL, (.isl 11 false [(.agg [(sL [66]), nL, (iL 1), (iL 69), eL, (.lit (.complex .f64 4607182418800017408 0)), eL, eL, nL, nL, nL])])])])])
theorem r7_14 : isR (scall senv 390 7 a7_14 []) b7_14 = true := by kernel_rfl

def a8_14 : List AV := [(.agg [(sL [109]), nL, nL, (.isl 2 false [(.agg [(sL [84]), (.isl 2 false [(.agg [(sL [65]), nL])])]), (.agg [(sL [85]), (.isl 2 false [(.agg [(sL [66]), nL])])])]), nL, (.isl 12 false [(.agg [(sL [102]), (.isl 2 false [(.agg [(sL [116]), (sL [109,46,84])])]), (sL [110,117,109]), (iL 9), (iL 55), eL, cL, eL, eL, (.isl 9 false [(.agg [(iL 3), (iL 62), (sL [116]), cL, eL, eL, nL, nL, nL])]), nL, (.isl 11 false [(.agg [(sL [66]), nL, (iL 1), (iL 69), eL, (.lit (.complex .f64 4607182418800017408 0)), eL, eL, nL, nL, nL])])])])]), nL]
def b8_14 : AV := (.tup [(iL 17), (iL 55), (sL [102])])
theorem r8_14 : isR (scall senv 390 8 a8_14 []) b8_14 = true := by kernel_rfl
end Go.Proofs.YtngiokdbbjbpfaaGreat
