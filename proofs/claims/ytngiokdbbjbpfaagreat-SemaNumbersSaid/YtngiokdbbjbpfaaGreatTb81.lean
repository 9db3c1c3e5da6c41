import Derived.Test.YtngiokdbbjbpfaaGreatSe8
namespace Go.Proofs.YtngiokdbbjbpfaaGreat
open Go.Am
set_option maxRecDepth 100000
def a7_0 : List AV := [(sL [40,109,111,100,117,108,101,32,109,32,40,102,117,110,32,102,32,40,41,32,110,117,109,32,121,41,41])]
def b7_0 : AV := (.agg [(sL [109]), nL, nL, nL, nL, (.isl 12 false [(.agg [(sL [102]), nL, (sL [110,117,109]), (iL 3), (iL 24), (sL [121]), cL, eL, eL, nL, nL, nL])])])
theorem r7_0 : isR (scall senv 390 7 a7_0 []) b7_0 = true := by kernel_rfl

def a8_0 : List AV := [(.agg [(sL [109]), nL, nL, nL, nL, (.isl 12 false [(.agg [(sL [102]), nL, (sL [110,117,109]), (iL 3), (iL 24), (sL [121]), cL, eL, eL, nL, nL, nL])])]), nL]
def b8_0 : AV := (.tup [(iL 13), (iL 24), (sL [102])])
theorem r8_0 : isR (scall senv 390 8 a8_0 []) b8_0 = true := by kernel_rfl

def a9_0 : List AV := [(.agg [(sL [109]), nL, nL, nL, nL, (.isl 12 false [(.agg [(sL [102]), nL, (sL [110,117,109]), (iL 3), (iL 24), (sL [121]), cL, eL, eL, nL, nL, nL])])]), nL]
def b9_0 : AV := (.tup [(iL 13), (iL 24), (sL [102])])
theorem r9_0 : isR (scall senv 390 9 a9_0 []) b9_0 = true := by kernel_rfl

def a7_1 : List AV := [(sL [40,109,111,100,117,108,101,32,109,32,40,102,117,110,32,102,32,40,41,32,110,117,109,32,40,103,41,41,41])]
def b7_1 : AV := (.agg [(sL [109]), nL, nL, nL, nL, (.isl 12 false [(.agg [(sL [102]), nL, (sL [110,117,109]), (iL 12), (iL 24), (sL [103]), cL, eL, eL, nL, nL, nL])])])
theorem r7_1 : isR (scall senv 390 7 a7_1 []) b7_1 = true := by kernel_rfl

def a8_1 : List AV := [(.agg [(sL [109]), nL, nL, nL, nL, (.isl 12 false [(.agg [(sL [102]), nL, (sL [110,117,109]), (iL 12), (iL 24), (sL [103]), cL, eL, eL, nL, nL, nL])])]), nL]
def b8_1 : AV := (.tup [(iL 13), (iL 24), (sL [102])])
theorem r8_1 : isR (scall senv 390 8 a8_1 []) b8_1 = true := by kernel_rfl

def a9_1 : List AV := [(.agg [(sL [109]), nL, nL, nL, nL, (.isl 12 false [(.agg [(sL [102]), nL, (sL [110,117,109]), (iL 12), (iL 24), (sL [103]), cL, eL, eL, nL, nL, nL])])]), nL]
def b9_1 : AV := (.tup [(iL 13), (iL 24), (sL [102])])
theorem r9_1 : isR (scall senv 390 9 a9_1 []) b9_1 = true := by kernel_rfl

def a7_2 : List AV := [(sL [40,109,111,100,117,108,101,32,109,32,40,102,117,110,32,102,32,40,41,32,110,117,109,32,40,65,41,41,41])]
def b7_2 : AV := (.agg [(sL [109]), nL, nL, nL, nL, (.isl 12 false [(.agg [(sL [102]), nL, (sL [110,117,109]), (iL 8), (iL 24), (sL [65]), cL, eL, eL, nL, nL, nL])])])
theorem r7_2 : isR (scall senv 390 7 a7_2 []) b7_2 = true := by kernel_rfl

def a8_2 : List AV := [(.agg [(sL [109]), nL, nL, nL, nL, (.isl 12 false [(.agg [(sL [102]), nL, (sL [110,117,109]), (iL 8), (iL 24), (sL [65]), cL, eL, eL, nL, nL, nL])])]), nL]
def b8_2 : AV := (.tup [(iL 13), (iL 24), (sL [102])])
theorem r8_2 : isR (scall senv 390 8 a8_2 []) b8_2 = true := by kernel_rfl

def a9_2 : List AV := [(.agg [(sL [109]), nL, nL, nL, nL, (.isl 12 false [(.agg [(sL [102]), nL, (sL [110,117,109]), (iL 8), (iL 24), (sL [65]), cL, eL, eL, nL, nL, nL])])]), nL]
def b9_2 : AV := (.tup [(iL 13), (iL 24), (sL [102])])
theorem r9_2 : isR (scall senv 390 9 a9_2 []) b9_2 = true := by kernel_rfl

def a7_3 : List AV := [(sL [40,109,111,100,117,108,101,32,109,32,40,102,117,110,32,102,32,40,41,32,110,117,109,32,40,105,102,32,34,34,32,49,32,50,41,41,41])]
def b7_3 : AV := (.agg [(sL [109]), nL, nL, nL, nL, (.isl 12 false [(.agg [(sL [102]), nL, (sL [110,117,109]), (iL 5), (iL 24), eL, cL, eL, eL, (.isl 9 false [(.agg [(iL 2), (iL 28), eL, cL, eL, eL, nL, nL, nL]), (.agg [(iL 1), (iL 31), eL, (.lit (.complex .f64 4607182418800017408 0)), eL, eL, nL, nL, nL]), (.agg [(iL 1), (iL 33), eL, (.lit (.complex .f64 4611686018427387904 0)), eL, eL, nL, nL, nL])]), nL, nL])])])
theorem r7_3 : isR (scall senv 390 7 a7_3 []) b7_3 = true := by kernel_rfl

def a8_3 : List AV := [(.agg [(sL [109]), nL, nL, nL, nL, (.isl 12 false [(.agg [(sL [102]), nL, (sL [110,117,109]), (iL 5), (iL 24), eL, cL, eL, eL, (.isl 9 false [(.agg [(iL 2), (iL 28), eL, cL, eL, eL, nL, nL, nL]), (.agg [(iL 1), (iL 31), eL, (.lit (.complex .f64 4607182418800017408 0)), eL, eL, nL, nL, nL]), (.agg [(iL 1), (iL 33), eL, (.lit (.complex .f64 4611686018427387904 0)), eL, eL, nL, nL, nL])]), nL, nL])])]), nL]
def b8_3 : AV := (.tup [(iL 17), (iL 28), (sL [102])])
theorem r8_3 : isR (scall senv 390 8 a8_3 []) b8_3 = true := by kernel_rfl

def a9_3 : List AV := [(.agg [(sL [109]), nL, nL, nL, nL, (.isl 12 false [(.agg [(sL [102]), nL, (sL [110,117,109]), (iL 5), (iL 24), eL, cL, eL, eL, (.isl 9 false [(.agg [(iL 2), (iL 28), eL, cL, eL, eL, nL, nL, nL]), (.agg [(iL 1), (iL 31), eL, (.lit (.complex .f64 4607182418800017408 0)), eL, eL, nL, nL, nL]), (.agg [(iL 1), (iL 33), eL, (.lit (.complex .f64 4611686018427387904 0)), eL, eL, nL, nL, nL])]), nL, nL])])]), nL]
def b9_3 : AV := (.tup [(iL 17), (iL 28), (sL [102])])
theorem r9_3 : isR (scall senv 390 9 a9_3 []) b9_3 = true := by kernel_rfl

def a7_4 : List AV := [(sL [40,109,111,100,117,108,101,32,109,32,40,102,117,110,32,102,32,40,41,32,110,117,109,32,40,105,102,32,49,32,49,32,34,34,41,41,41])]
def b7_4 : AV := (.agg [(sL [109]), nL, nL, nL, nL, (.isl 12 false [(.agg [(sL [102]), nL, (sL [110,117,109]), (iL 5), (iL 24), eL, cL, eL, eL, (.isl 9 false [(.agg [(iL 1), (iL 28), eL, (.lit (.complex .f64 4607182418800017408 0)), eL, eL, nL, nL, nL]), (.agg [(iL 1), (iL 30), eL, (.lit (.complex .f64 4607182418800017408 0)), eL, eL, nL, nL, nL]), (.agg [(iL 2), (iL 32), eL, cL, eL, eL, nL, nL, nL])]), nL, nL])])])
theorem r7_4 : isR (scall senv 390 7 a7_4 []) b7_4 = true := by kernel_rfl

def a8_4 : List AV := [(.agg [(sL [109]), nL, nL, nL, nL, (.isl 12 false [(.agg [(sL [102]), nL, (sL [110,117,109]), (iL 5), (iL 24), eL, cL, eL, eL, (.isl 9 false [(.agg [(iL 1), (iL 28), eL, (.lit (.complex .f64 4607182418800017408 0)), eL, eL, nL, nL, nL]), (.agg [(iL 1), (iL 30), eL, (.lit (.complex .f64 4607182418800017408 0)), eL, eL, nL, nL, nL]), (.agg [(iL 2), (iL 32), eL, cL, eL, eL, nL, nL, nL])]), nL, nL])])]), nL]
def b8_4 : AV := (.tup [(iL 17), (iL 24), (sL [102])])
theorem r8_4 : isR (scall senv 390 8 a8_4 []) b8_4 = true := by kernel_rfl

def a9_4 : List AV := [(.agg [(sL [109]), nL, nL, nL, nL, (.isl 12 false [(.agg [(sL [102]), nL, (sL [110,117,109]), (iL 5), (iL 24), eL, cL, eL, eL, (.isl 9 false [(.agg [(iL 1), (iL 28), eL, (.lit (.complex .f64 4607182418800017408 0)), eL, eL, nL, nL, nL]), (.agg [(iL 1), (iL 30), eL, (.lit (.complex .f64 4607182418800017408 0)), eL, eL, nL, nL, nL]), (.agg [(iL 2), (iL 32), eL, cL, eL, eL, nL, nL, nL])]), nL, nL])])]), nL]
def b9_4 : AV := (.tup [(iL 17), (iL 24), (sL [102])])
theorem r9_4 : isR (scall senv 390 9 a9_4 []) b9_4 = true := by kernel_rfl

def a7_5 : List AV := [(sL [40,109,111,100,117,108,101,32,109,32,40,102,117,110,32,102,32,40,41,32,110,117,109,32,40,110,101,103,32,49,32,50,41,41,41])]
def b7_5 : AV := (.agg [(sL [109]), nL, nL, nL, nL, (.isl 12 false [(.agg [(sL [102]), nL, (sL [110,117,109]), (iL 6), (iL 24), (sL [110,101,103]), cL, eL, eL, (.isl 9 false [(.agg [(iL 1), (iL 29), eL, (.lit (.complex .f64 4607182418800017408 0)), eL, eL, nL, nL, nL]), (.agg [(iL 1), (iL 31), eL, (.lit (.complex .f64 4611686018427387904 0)), eL, eL, nL, nL, nL])]), nL, nL])])])
theorem r7_5 : isR (scall senv 390 7 a7_5 []) b7_5 = true := by kernel_rfl

def a8_5 : List AV := [(.agg [(sL [109]), nL, nL, nL, nL, (.isl 12 false [(.agg [(sL [102]), nL, (sL [110,117,109]), (iL 6), (iL 24), (sL [110,101,103]), cL, eL, eL, (.isl 9 false [(.agg [(iL 1), (iL 29), eL, (.lit (.complex .f64 4607182418800017408 0)), eL, eL, nL, nL, nL]), (.agg [(iL 1), (iL 31), eL, (.lit (.complex .f64 4611686018427387904 0)), eL, eL, nL, nL, nL])]), nL, nL])])]), nL]
def b8_5 : AV := (.tup [(iL 19), (iL 24), (sL [102])])
theorem r8_5 : isR (scall senv 390 8 a8_5 []) b8_5 = true := by kernel_rfl

def a9_5 : List AV := [(.agg [(sL [109]), nL, nL, nL, nL, (.isl 12 false [(.agg [(sL [102]), nL, (sL [110,117,109]), (iL 6), (iL 24), (sL [110,101,103]), cL, eL, eL, (.isl 9 false [(.agg [(iL 1), (iL 29), eL, (.lit (.complex .f64 4607182418800017408 0)), eL, eL, nL, nL, nL]), (.agg [(iL 1), (iL 31), eL, (.lit (.complex .f64 4611686018427387904 0)), eL, eL, nL, nL, nL])]), nL, nL])])]), nL]
def b9_5 : AV := (.tup [(iL 19), (iL 24), (sL [102])])
theorem r9_5 : isR (scall senv 390 9 a9_5 []) b9_5 = true := by kernel_rfl

def a7_6 : List AV := [(sL [40,109,111,100,117,108,101,32,109,32,40,102,117,110,32,102,32,40,41,32,110,117,109,32,40,101,113,32,49,32,34,34,41,41,41])]
def b7_6 : AV := (.agg [(sL [109]), nL, nL, nL, nL, (.isl 12 false [(.agg [(sL [102]), nL, (sL [110,117,109]), (iL 6), (iL 24), (sL [101,113]), cL, eL, eL, (.isl 9 false [(.agg [(iL 1), (iL 28), eL, (.lit (.complex .f64 4607182418800017408 0)), eL, eL, nL, nL, nL]), (.agg [(iL 2), (iL 30), eL, cL, eL, eL, nL, nL, nL])]), nL, nL])])])
theorem r7_6 : isR (scall senv 390 7 a7_6 []) b7_6 = true := by kernel_rfl

def a8_6 : List AV := [(.agg [(sL [109]), nL, nL, nL, nL, (.isl 12 false [(.agg [(sL [102]), nL, (sL [110,117,109]), (iL 6), (iL 24), (sL [101,113]), cL, eL, eL, (.isl 9 false [(.agg [(iL 1), (iL 28), eL, (.lit (.complex .f64 4607182418800017408 0)), eL, eL, nL, nL, nL]), (.agg [(iL 2), (iL 30), eL, cL, eL, eL, nL, nL, nL])]), nL, nL])])]), nL]
def b8_6 : AV := (.tup [(iL 17), (iL 30), (sL [102])])
theorem r8_6 : isR (scall senv 390 8 a8_6 []) b8_6 = true := by kernel_rfl

def a9_6 : List AV := [(.agg [(sL [109]), nL, nL, nL, nL, (.isl 12 false [(.agg [(sL [102]), nL, (sL [110,117,109]), (iL 6), (iL 24), (sL [101,113]), cL, eL, eL, (.isl 9 false [(.agg [(iL 1), (iL 28), eL, (.lit (.complex .f64 4607182418800017408 0)), eL, eL, nL, nL, nL]), (.agg [(iL 2), (iL 30), eL, cL, eL, eL, nL, nL, nL])]), nL, nL])])]), nL]
def b9_6 : AV := (.tup [(iL 17), (iL 30), (sL [102])])
theorem r9_6 : isR (scall senv 390 9 a9_6 []) b9_6 = true := by kernel_rfl

def a7_7 : List AV := [(sL [40,109,111,100,117,108,101,32,109,32,40,102,117,110,32,102,32,40,41,32,110,117,109,32,40,108,101,110,32,49,41,41,41])]
def b7_7 : AV := (.agg [(sL [109]), nL, nL, nL, nL, (.isl 12 false [(.agg [(sL [102]), nL, (sL [110,117,109]), (iL 6), (iL 24), (sL [108,101,110]), cL, eL, eL, (.isl 9 false [(.agg [(iL 1), (iL 29), eL, (.lit (.complex .f64 4607182418800017408 0)), eL, eL, nL, nL, nL])]), nL, nL])])])
theorem r7_7 : isR (scall senv 390 7 a7_7 []) b7_7 = true := by kernel_rfl
end Go.Proofs.YtngiokdbbjbpfaaGreat
