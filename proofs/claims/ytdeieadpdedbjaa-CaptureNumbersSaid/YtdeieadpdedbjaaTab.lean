/-
  Calls of 'expr' and of 'known' that the laws of chapter 11 make, run once each.
-/
import Derived.Test.YtdeieadpdedbjaaAmO
import Derived.Test.YtdeieadpdedbjaaEnv
namespace Go.Proofs.Ytdeieadpdedbjaa
open Go.Am

def expr0In : List AV := [.lit (.string ⟨⟨[40, 102, 110, 32, 40, 40, 120, 32, 110, 117, 109, 41, 41, 32, 110, 117, 109, 32, 120, 41]⟩⟩)]

def expr0Out : AV := .tup [.agg [.lit (.int .i64 10), .lit (.int .i64 0), .lit (.string ⟨⟨[]⟩⟩), .lit (.complex .f64 0 0), .lit (.string ⟨⟨[]⟩⟩), .lit (.string ⟨⟨[110, 117, 109]⟩⟩), .isl 9 false [.agg [.lit (.int .i64 3), .lit (.int .i64 18), .lit (.string ⟨⟨[120]⟩⟩), .lit (.complex .f64 0 0), .lit (.string ⟨⟨[]⟩⟩), .lit (.string ⟨⟨[]⟩⟩), .lit (.slice none 0 0), .lit (.slice none 0 0), .lit (.slice none 0 0)]], .isl 2 false [.agg [.lit (.string ⟨⟨[120]⟩⟩), .lit (.string ⟨⟨[110, 117, 109]⟩⟩)]], .lit (.slice none 0 0)], .lit (.bool true)]

set_option maxRecDepth 100000 in
theorem expr0Ran : isR (acall env 200 6 expr0In []) expr0Out = true := by kernel_rfl

def expr1In : List AV := [.lit (.string ⟨⟨[110, 46, 120]⟩⟩)]

def expr1Out : AV := .tup [.agg [.lit (.int .i64 3), .lit (.int .i64 0), .lit (.string ⟨⟨[110, 46, 120]⟩⟩), .lit (.complex .f64 0 0), .lit (.string ⟨⟨[]⟩⟩), .lit (.string ⟨⟨[]⟩⟩), .lit (.slice none 0 0), .lit (.slice none 0 0), .lit (.slice none 0 0)], .lit (.bool true)]

set_option maxRecDepth 100000 in
theorem expr1Ran : isR (acall env 200 6 expr1In []) expr1Out = true := by kernel_rfl

def expr2In : List AV := [.lit (.string ⟨⟨[40, 109, 97, 116, 99, 104, 32, 116, 32, 40, 40, 65, 32, 117, 41, 32, 117, 41, 32, 40, 40, 66, 32, 118, 32, 119, 41, 32, 40, 108, 101, 116, 32, 122, 32, 118, 32, 117, 41, 41, 41]⟩⟩)]

def expr2Out : AV := .tup [.agg [.lit (.int .i64 9), .lit (.int .i64 0), .lit (.string ⟨⟨[]⟩⟩), .lit (.complex .f64 0 0), .lit (.string ⟨⟨[]⟩⟩), .lit (.string ⟨⟨[]⟩⟩), .isl 9 false [.agg [.lit (.int .i64 3), .lit (.int .i64 7), .lit (.string ⟨⟨[116]⟩⟩), .lit (.complex .f64 0 0), .lit (.string ⟨⟨[]⟩⟩), .lit (.string ⟨⟨[]⟩⟩), .lit (.slice none 0 0), .lit (.slice none 0 0), .lit (.slice none 0 0)]], .lit (.slice none 0 0), .isl 11 false [.agg [.lit (.string ⟨⟨[65]⟩⟩), .isl 1 false [.lit (.string ⟨⟨[117]⟩⟩)], .lit (.int .i64 3), .lit (.int .i64 16), .lit (.string ⟨⟨[117]⟩⟩), .lit (.complex .f64 0 0), .lit (.string ⟨⟨[]⟩⟩), .lit (.string ⟨⟨[]⟩⟩), .lit (.slice none 0 0), .lit (.slice none 0 0), .lit (.slice none 0 0)], .agg [.lit (.string ⟨⟨[66]⟩⟩), .isl 1 false [.lit (.string ⟨⟨[118]⟩⟩), .lit (.string ⟨⟨[119]⟩⟩)], .lit (.int .i64 4), .lit (.int .i64 28), .lit (.string ⟨⟨[122]⟩⟩), .lit (.complex .f64 0 0), .lit (.string ⟨⟨[]⟩⟩), .lit (.string ⟨⟨[]⟩⟩), .isl 9 false [.agg [.lit (.int .i64 3), .lit (.int .i64 35), .lit (.string ⟨⟨[118]⟩⟩), .lit (.complex .f64 0 0), .lit (.string ⟨⟨[]⟩⟩), .lit (.string ⟨⟨[]⟩⟩), .lit (.slice none 0 0), .lit (.slice none 0 0), .lit (.slice none 0 0)], .agg [.lit (.int .i64 3), .lit (.int .i64 37), .lit (.string ⟨⟨[117]⟩⟩), .lit (.complex .f64 0 0), .lit (.string ⟨⟨[]⟩⟩), .lit (.string ⟨⟨[]⟩⟩), .lit (.slice none 0 0), .lit (.slice none 0 0), .lit (.slice none 0 0)]], .lit (.slice none 0 0), .lit (.slice none 0 0)]]], .lit (.bool true)]

set_option maxRecDepth 100000 in
theorem expr2Ran : isR (acall env 200 6 expr2In []) expr2Out = true := by kernel_rfl

def expr3In : List AV := [.lit (.string ⟨⟨[40, 108, 101, 116, 32, 120, 32, 120, 32, 40, 102, 110, 32, 40, 40, 121, 32, 110, 117, 109, 41, 41, 32, 110, 117, 109, 32, 40, 97, 100, 100, 32, 120, 32, 40, 97, 100, 100, 32, 121, 32, 122, 41, 41, 41, 41]⟩⟩)]

def expr3Out : AV := .tup [.agg [.lit (.int .i64 4), .lit (.int .i64 0), .lit (.string ⟨⟨[120]⟩⟩), .lit (.complex .f64 0 0), .lit (.string ⟨⟨[]⟩⟩), .lit (.string ⟨⟨[]⟩⟩), .isl 9 false [.agg [.lit (.int .i64 3), .lit (.int .i64 7), .lit (.string ⟨⟨[120]⟩⟩), .lit (.complex .f64 0 0), .lit (.string ⟨⟨[]⟩⟩), .lit (.string ⟨⟨[]⟩⟩), .lit (.slice none 0 0), .lit (.slice none 0 0), .lit (.slice none 0 0)], .agg [.lit (.int .i64 10), .lit (.int .i64 9), .lit (.string ⟨⟨[]⟩⟩), .lit (.complex .f64 0 0), .lit (.string ⟨⟨[]⟩⟩), .lit (.string ⟨⟨[110, 117, 109]⟩⟩), .isl 9 false [.agg [.lit (.int .i64 6), .lit (.int .i64 27), .lit (.string ⟨⟨[97, 100, 100]⟩⟩), .lit (.complex .f64 0 0), .lit (.string ⟨⟨[]⟩⟩), .lit (.string ⟨⟨[]⟩⟩), .isl 9 false [.agg [.lit (.int .i64 3), .lit (.int .i64 32), .lit (.string ⟨⟨[120]⟩⟩), .lit (.complex .f64 0 0), .lit (.string ⟨⟨[]⟩⟩), .lit (.string ⟨⟨[]⟩⟩), .lit (.slice none 0 0), .lit (.slice none 0 0), .lit (.slice none 0 0)], .agg [.lit (.int .i64 6), .lit (.int .i64 34), .lit (.string ⟨⟨[97, 100, 100]⟩⟩), .lit (.complex .f64 0 0), .lit (.string ⟨⟨[]⟩⟩), .lit (.string ⟨⟨[]⟩⟩), .isl 9 false [.agg [.lit (.int .i64 3), .lit (.int .i64 39), .lit (.string ⟨⟨[121]⟩⟩), .lit (.complex .f64 0 0), .lit (.string ⟨⟨[]⟩⟩), .lit (.string ⟨⟨[]⟩⟩), .lit (.slice none 0 0), .lit (.slice none 0 0), .lit (.slice none 0 0)], .agg [.lit (.int .i64 3), .lit (.int .i64 41), .lit (.string ⟨⟨[122]⟩⟩), .lit (.complex .f64 0 0), .lit (.string ⟨⟨[]⟩⟩), .lit (.string ⟨⟨[]⟩⟩), .lit (.slice none 0 0), .lit (.slice none 0 0), .lit (.slice none 0 0)]], .lit (.slice none 0 0), .lit (.slice none 0 0)]], .lit (.slice none 0 0), .lit (.slice none 0 0)]], .isl 2 false [.agg [.lit (.string ⟨⟨[121]⟩⟩), .lit (.string ⟨⟨[110, 117, 109]⟩⟩)]], .lit (.slice none 0 0)]], .lit (.slice none 0 0), .lit (.slice none 0 0)], .lit (.bool true)]

set_option maxRecDepth 100000 in
theorem expr3Ran : isR (acall env 200 6 expr3In []) expr3Out = true := by kernel_rfl

set_option maxRecDepth 100000 in
theorem knownRan : isR (acall env 200 12 [] []) (.lit (.bool true)) = true := by kernel_rfl

def exprRows : List (List AV × AV) := [(expr0In, expr0Out), (expr1In, expr1Out), (expr2In, expr2Out), (expr3In, expr3Out)]

theorem exprRows_ok : ∀ x ∈ exprRows, acall env 200 6 x.1 [] = some (x.2, []) := by
  intro x hx
  simp only [exprRows, List.mem_cons, List.not_mem_nil, or_false] at hx
  rcases hx with rfl | rfl | rfl | rfl
  · exact isR_spec expr0Ran
  · exact isR_spec expr1Ran
  · exact isR_spec expr2Ran
  · exact isR_spec expr3Ran

def knownRows : List (List AV × AV) := [([], .lit (.bool true))]

theorem knownRows_ok : ∀ x ∈ knownRows, acall env 200 12 x.1 [] = some (x.2, []) := by
  intro x hx
  simp only [knownRows, List.mem_cons, List.not_mem_nil, or_false] at hx
  rcases hx with rfl
  exact isR_spec knownRan

noncomputable def env1 : Env := env.withP 12 (tableP knownRows)

theorem env1_ok : EnvOk env1 := env_ok.withP (table_ok env_ok knownRows_ok)

noncomputable def env2 : Env := env1.withP 6 (tableP exprRows)

theorem env2_ok : EnvOk env2 := env1_ok.withP (table_ok (E := env) env_ok exprRows_ok)

end Go.Proofs.Ytdeieadpdedbjaa
