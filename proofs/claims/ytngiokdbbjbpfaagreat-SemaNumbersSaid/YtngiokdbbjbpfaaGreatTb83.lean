import Derived.Test.YtngiokdbbjbpfaaGreatSe8
namespace Go.Proofs.YtngiokdbbjbpfaaGreat
open Go.Am
set_option maxRecDepth 100000
def a9_14 : List AV := [(.agg [(sL [109]), nL, nL, (.isl 2 false [(.agg [(sL [84]), (.isl 2 false [(.agg [(sL [65]), nL])])]), (.agg [(sL [85]), (.isl 2 false [(.agg [(sL [66]), nL])])])]), nL, (.isl 12 false [(.agg [(sL [102]), (.isl 2 false [(.agg [(sL [116]), (sL [109,46,84])])]), (sL [110,117,109]), (iL 9), (iL 55), eL, cL, eL, eL, (.isl 9 false [(.agg [(iL 3), (iL 62), (sL [116]), cL, eL, eL, nL, nL, nL])]), nL, (.isl 11 false [(.agg [(sL [66]), nL, (iL 1), (iL 69), eL, (.lit (.complex .f64 4607182418800017408 0)), eL, eL, nL, nL, nL])])])])]), nL]
def b9_14 : AV := (.tup [(iL 17), (iL 55), (sL [102])])
theorem r9_14 : isR (scall senv 390 9 a9_14 []) b9_14 = true := by kernel_rfl

def a7_15 : List AV := [(sL [40,109,111,100,117,108,101,32,109,32,40,102,117,110,32,102,32,40,40,116,32,110,117,109,41,41,32,110,117,109,32,40,109,97,116,99,104,32,116,32,40,40,66,41,32,49,41,41,41,41])]
def b7_15 : AV := (.agg [(sL [109]), nL, nL, nL, nL, (.isl 12 false [(.agg [(sL [102]), (.isl 2 false [(.agg [(sL [116]), (sL [110,117,109])])]), (sL [110,117,109]), (iL 9), (iL 31), eL, cL, eL, eL, (.isl 9 false [(.agg [(iL 3), (iL 38), (sL [116]), cL, eL, eL, nL, nL, nL])]), nL, (.isl 11 false [(.agg [(sL [66]), nL, (iL 1), (iL 45), eL, (.lit (.complex .f64 4607182418800017408 0)), eL, eL, nL, nL, nL])])])])])
theorem r7_15 : isR (scall senv 390 7 a7_15 []) b7_15 = true := by kernel_rfl

def a8_15 : List AV := [(.agg [(sL [109]), nL, nL, nL, nL, (.isl 12 false [(.agg [(sL [102]), (.isl 2 false [(.agg [(sL [116]), (sL [110,117,109])])]), (sL [110,117,109]), (iL 9), (iL 31), eL, cL, eL, eL, (.isl 9 false [(.agg [(iL 3), (iL 38), (sL [116]), cL, eL, eL, nL, nL, nL])]), nL, (.isl 11 false [(.agg [(sL [66]), nL, (iL 1), (iL 45), eL, (.lit (.complex .f64 4607182418800017408 0)), eL, eL, nL, nL, nL])])])])]), nL]
def b8_15 : AV := (.tup [(iL 17), (iL 38), (sL [102])])
theorem r8_15 : isR (scall senv 390 8 a8_15 []) b8_15 = true := by kernel_rfl

def a9_15 : List AV := [(.agg [(sL [109]), nL, nL, nL, nL, (.isl 12 false [(.agg [(sL [102]), (.isl 2 false [(.agg [(sL [116]), (sL [110,117,109])])]), (sL [110,117,109]), (iL 9), (iL 31), eL, cL, eL, eL, (.isl 9 false [(.agg [(iL 3), (iL 38), (sL [116]), cL, eL, eL, nL, nL, nL])]), nL, (.isl 11 false [(.agg [(sL [66]), nL, (iL 1), (iL 45), eL, (.lit (.complex .f64 4607182418800017408 0)), eL, eL, nL, nL, nL])])])])]), nL]
def b9_15 : AV := (.tup [(iL 17), (iL 38), (sL [102])])
theorem r9_15 : isR (scall senv 390 9 a9_15 []) b9_15 = true := by kernel_rfl

def a7_16 : List AV := [(sL [40,109,111,100,117,108,101,32,109,32,40,102,117,110,32,102,32,40,41,32,110,117,109,32,40,99,97,108,108,32,49,41,41,41])]
def b7_16 : AV := (.agg [(sL [109]), nL, nL, nL, nL, (.isl 12 false [(.agg [(sL [102]), nL, (sL [110,117,109]), (iL 11), (iL 24), eL, cL, eL, eL, (.isl 9 false [(.agg [(iL 1), (iL 30), eL, (.lit (.complex .f64 4607182418800017408 0)), eL, eL, nL, nL, nL])]), nL, nL])])])
theorem r7_16 : isR (scall senv 390 7 a7_16 []) b7_16 = true := by kernel_rfl

def a8_16 : List AV := [(.agg [(sL [109]), nL, nL, nL, nL, (.isl 12 false [(.agg [(sL [102]), nL, (sL [110,117,109]), (iL 11), (iL 24), eL, cL, eL, eL, (.isl 9 false [(.agg [(iL 1), (iL 30), eL, (.lit (.complex .f64 4607182418800017408 0)), eL, eL, nL, nL, nL])]), nL, nL])])]), nL]
def b8_16 : AV := (.tup [(iL 17), (iL 30), (sL [102])])
theorem r8_16 : isR (scall senv 390 8 a8_16 []) b8_16 = true := by kernel_rfl

def a9_16 : List AV := [(.agg [(sL [109]), nL, nL, nL, nL, (.isl 12 false [(.agg [(sL [102]), nL, (sL [110,117,109]), (iL 11), (iL 24), eL, cL, eL, eL, (.isl 9 false [(.agg [(iL 1), (iL 30), eL, (.lit (.complex .f64 4607182418800017408 0)), eL, eL, nL, nL, nL])]), nL, nL])])]), nL]
def b9_16 : AV := (.tup [(iL 17), (iL 30), (sL [102])])
theorem r9_16 : isR (scall senv 390 9 a9_16 []) b9_16 = true := by kernel_rfl

def a7_17 : List AV := [(sL [40,109,111,100,117,108,101,32,109,32,40,102,117,110,32,102,32,40,41,32,110,117,109,32,40,99,97,108,108,32,40,102,110,32,40,40,120,32,110,117,109,41,41,32,110,117,109,32,120,41,41,41,41])]
def b7_17 : AV := (.agg [(sL [109]), nL, nL, nL, nL, (.isl 12 false [(.agg [(sL [102]), nL, (sL [110,117,109]), (iL 11), (iL 24), eL, cL, eL, eL, (.isl 9 false [(.agg [(iL 10), (iL 30), eL, cL, eL, (sL [110,117,109]), (.isl 9 false [(.agg [(iL 3), (iL 48), (sL [120]), cL, eL, eL, nL, nL, nL])]), (.isl 2 false [(.agg [(sL [120]), (sL [110,117,109])])]), nL])]), nL, nL])])])
theorem r7_17 : isR (scall senv 390 7 a7_17 []) b7_17 = true := by kernel_rfl

def a8_17 : List AV := [(.agg [(sL [109]), nL, nL, nL, nL, (.isl 12 false [(.agg [(sL [102]), nL, (sL [110,117,109]), (iL 11), (iL 24), eL, cL, eL, eL, (.isl 9 false [(.agg [(iL 10), (iL 30), eL, cL, eL, (sL [110,117,109]), (.isl 9 false [(.agg [(iL 3), (iL 48), (sL [120]), cL, eL, eL, nL, nL, nL])]), (.isl 2 false [(.agg [(sL [120]), (sL [110,117,109])])]), nL])]), nL, nL])])]), nL]
def b8_17 : AV := (.tup [(iL 19), (iL 24), (sL [102])])
theorem r8_17 : isR (scall senv 390 8 a8_17 []) b8_17 = true := by kernel_rfl

def a9_17 : List AV := [(.agg [(sL [109]), nL, nL, nL, nL, (.isl 12 false [(.agg [(sL [102]), nL, (sL [110,117,109]), (iL 11), (iL 24), eL, cL, eL, eL, (.isl 9 false [(.agg [(iL 10), (iL 30), eL, cL, eL, (sL [110,117,109]), (.isl 9 false [(.agg [(iL 3), (iL 48), (sL [120]), cL, eL, eL, nL, nL, nL])]), (.isl 2 false [(.agg [(sL [120]), (sL [110,117,109])])]), nL])]), nL, nL])])]), nL]
def b9_17 : AV := (.tup [(iL 19), (iL 24), (sL [102])])
theorem r9_17 : isR (scall senv 390 9 a9_17 []) b9_17 = true := by kernel_rfl

def a7_18 : List AV := [(sL [40,109,111,100,117,108,101,32,109,32,40,102,117,110,32,102,32,40,41,32,110,117,109,32,40,99,97,108,108,32,40,102,110,32,40,40,120,32,110,117,109,41,41,32,98,121,116,101,115,32,120,41,32,49,41,41,41])]
def b7_18 : AV := (.agg [(sL [109]), nL, nL, nL, nL, (.isl 12 false [(.agg [(sL [102]), nL, (sL [110,117,109]), (iL 11), (iL 24), eL, cL, eL, eL, (.isl 9 false [(.agg [(iL 10), (iL 30), eL, cL, eL, (sL [98,121,116,101,115]), (.isl 9 false [(.agg [(iL 3), (iL 50), (sL [120]), cL, eL, eL, nL, nL, nL])]), (.isl 2 false [(.agg [(sL [120]), (sL [110,117,109])])]), nL]), (.agg [(iL 1), (iL 53), eL, (.lit (.complex .f64 4607182418800017408 0)), eL, eL, nL, nL, nL])]), nL, nL])])])
theorem r7_18 : isR (scall senv 390 7 a7_18 []) b7_18 = true := by kernel_rfl

def a8_18 : List AV := [(.agg [(sL [109]), nL, nL, nL, nL, (.isl 12 false [(.agg [(sL [102]), nL, (sL [110,117,109]), (iL 11), (iL 24), eL, cL, eL, eL, (.isl 9 false [(.agg [(iL 10), (iL 30), eL, cL, eL, (sL [98,121,116,101,115]), (.isl 9 false [(.agg [(iL 3), (iL 50), (sL [120]), cL, eL, eL, nL, nL, nL])]), (.isl 2 false [(.agg [(sL [120]), (sL [110,117,109])])]), nL]), (.agg [(iL 1), (iL 53), eL, (.lit (.complex .f64 4607182418800017408 0)), eL, eL, nL, nL, nL])]), nL, nL])])]), nL]
def b8_18 : AV := (.tup [(iL 17), (iL 50), (sL [102])])
theorem r8_18 : isR (scall senv 390 8 a8_18 []) b8_18 = true := by kernel_rfl

def a9_18 : List AV := [(.agg [(sL [109]), nL, nL, nL, nL, (.isl 12 false [(.agg [(sL [102]), nL, (sL [110,117,109]), (iL 11), (iL 24), eL, cL, eL, eL, (.isl 9 false [(.agg [(iL 10), (iL 30), eL, cL, eL, (sL [98,121,116,101,115]), (.isl 9 false [(.agg [(iL 3), (iL 50), (sL [120]), cL, eL, eL, nL, nL, nL])]), (.isl 2 false [(.agg [(sL [120]), (sL [110,117,109])])]), nL]), (.agg [(iL 1), (iL 53), eL, (.lit (.complex .f64 4607182418800017408 0)), eL, eL, nL, nL, nL])]), nL, nL])])]), nL]
def b9_18 : AV := (.tup [(iL 17), (iL 50), (sL [102])])
theorem r9_18 : isR (scall senv 390 9 a9_18 []) b9_18 = true := by kernel_rfl

def a7_19 : List AV := [(sL [40,109,111,100,117,108,101,32,109,32,40,102,117,110,32,102,32,40,41,32,110,117,109,32,40,97,114,114,97,121,32,110,117,109,32,49,32,34,34,41,41,41])]
def b7_19 : AV := (.agg [(sL [109]), nL, nL, nL, nL, (.isl 12 false [(.agg [(sL [102]), nL, (sL [110,117,109]), (iL 7), (iL 24), eL, cL, eL, (sL [110,117,109]), (.isl 9 false [(.agg [(iL 1), (iL 35), eL, (.lit (.complex .f64 4607182418800017408 0)), eL, eL, nL, nL, nL]), (.agg [(iL 2), (iL 37), eL, cL, eL, eL, nL, nL, nL])]), nL, nL])])])
theorem r7_19 : isR (scall senv 390 7 a7_19 []) b7_19 = true := by kernel_rfl

def a8_19 : List AV := [(.agg [(sL [109]), nL, nL, nL, nL, (.isl 12 false [(.agg [(sL [102]), nL, (sL [110,117,109]), (iL 7), (iL 24), eL, cL, eL, (sL [110,117,109]), (.isl 9 false [(.agg [(iL 1), (iL 35), eL, (.lit (.complex .f64 4607182418800017408 0)), eL, eL, nL, nL, nL]), (.agg [(iL 2), (iL 37), eL, cL, eL, eL, nL, nL, nL])]), nL, nL])])]), nL]
def b8_19 : AV := (.tup [(iL 17), (iL 37), (sL [102])])
theorem r8_19 : isR (scall senv 390 8 a8_19 []) b8_19 = true := by kernel_rfl

def a9_19 : List AV := [(.agg [(sL [109]), nL, nL, nL, nL, (.isl 12 false [(.agg [(sL [102]), nL, (sL [110,117,109]), (iL 7), (iL 24), eL, cL, eL, (sL [110,117,109]), (.isl 9 false [(.agg [(iL 1), (iL 35), eL, (.lit (.complex .f64 4607182418800017408 0)), eL, eL, nL, nL, nL]), (.agg [(iL 2), (iL 37), eL, cL, eL, eL, nL, nL, nL])]), nL, nL])])]), nL]
def b9_19 : AV := (.tup [(iL 17), (iL 37), (sL [102])])
theorem r9_19 : isR (scall senv 390 9 a9_19 []) b9_19 = true := by kernel_rfl

def a7_20 : List AV := [(sL [40,109,111,100,117,108,101,32,109,32,40,102,117,110,32,102,32,40,40,120,32,110,117,109,41,41,32,110,117,109,32,102,41,41])]
def b7_20 : AV := (.agg [(sL [109]), nL, nL, nL, nL, (.isl 12 false [(.agg [(sL [102]), (.isl 2 false [(.agg [(sL [120]), (sL [110,117,109])])]), (sL [110,117,109]), (iL 3), (iL 31), (sL [102]), cL, eL, eL, nL, nL, nL])])])
theorem r7_20 : isR (scall senv 390 7 a7_20 []) b7_20 = true := by kernel_rfl

def a8_20 : List AV := [(.agg [(sL [109]), nL, nL, nL, nL, (.isl 12 false [(.agg [(sL [102]), (.isl 2 false [(.agg [(sL [120]), (sL [110,117,109])])]), (sL [110,117,109]), (iL 3), (iL 31), (sL [102]), cL, eL, eL, nL, nL, nL])])]), nL]
def b8_20 : AV := (.tup [(iL 17), (iL 31), (sL [102])])
theorem r8_20 : isR (scall senv 390 8 a8_20 []) b8_20 = true := by kernel_rfl

def a9_20 : List AV := [(.agg [(sL [109]), nL, nL, nL, nL, (.isl 12 false [(.agg [(sL [102]), (.isl 2 false [(.agg [(sL [120]), (sL [110,117,109])])]), (sL [110,117,109]), (iL 3), (iL 31), (sL [102]), cL, eL, eL, nL, nL, nL])])]), nL]
def b9_20 : AV := (.tup [(iL 17), (iL 31), (sL [102])])
theorem r9_20 : isR (scall senv 390 9 a9_20 []) b9_20 = true := by kernel_rfl

def a7_21 : List AV := [(sL [40,109,111,100,117,108,101,32,109,32,40,102,117,110,32,102,32,40,40,120,32,110,117,109,41,41,32,40,102,110,32,40,110,117,109,41,32,110,117,109,41,32,102,41,41])]
def b7_21 : AV := (.agg [(sL [109]), nL, nL, nL, nL, (.isl 12 false [(.agg [(sL [102]), (.isl 2 false [(.agg [(sL [120]), (sL [110,117,109])])]), (sL [40,110,117,109,41,110,117,109]), (iL 3), (iL 42), (sL [102]), cL, eL, eL, nL, nL, nL])])])
theorem r7_21 : isR (scall senv 390 7 a7_21 []) b7_21 = true := by kernel_rfl

def a8_21 : List AV := [(.agg [(sL [109]), nL, nL, nL, nL, (.isl 12 false [(.agg [(sL [102]), (.isl 2 false [(.agg [(sL [120]), (sL [110,117,109])])]), (sL [40,110,117,109,41,110,117,109]), (iL 3), (iL 42), (sL [102]), cL, eL, eL, nL, nL, nL])])]), nL]
def b8_21 : AV := (.tup [(iL 17), (iL 42), (sL [102])])
theorem r8_21 : isR (scall senv 390 8 a8_21 []) b8_21 = true := by kernel_rfl

def a9_21 : List AV := [(.agg [(sL [109]), nL, nL, nL, nL, (.isl 12 false [(.agg [(sL [102]), (.isl 2 false [(.agg [(sL [120]), (sL [110,117,109])])]), (sL [40,110,117,109,41,110,117,109]), (iL 3), (iL 42), (sL [102]), cL, eL, eL, nL, nL, nL])])]), nL]
def b9_21 : AV := (.tup [(iL 17), (iL 42), (sL [102])])
theorem r9_21 : isR (scall senv 390 9 a9_21 []) b9_21 = true := by kernel_rfl
end Go.Proofs.YtngiokdbbjbpfaaGreat
