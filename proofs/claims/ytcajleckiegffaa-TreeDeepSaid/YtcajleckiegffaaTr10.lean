/-
  TreeDeep returns true for every two numbers. No conditions. The code is told by functions over the values of an abstract machine (GLex, GTree1, printed by a program of ours, each step checked by the kernel); what they answer is proved in Lx1 to Lx5 and Tr1 to Tr9.
-/
import Derived.Test.YtcajleckiegffaaTr9
import Derived.Test.YtcajleckiegffaaRows
import Derived.WalkKit
import Derived.ProofKit
import Derived.OpenShut
import Derived.ChangeMaps5
namespace Go.Proofs.Ytcajleckiegffaa.treeDeep
set_option linter.unusedSimpArgs false
set_option linter.unusedVariables false
open Go.ChangeShapes Go.WideShapes Go.ChangeAt Go.RowKit
open Go.Am

noncomputable def tenv : SEnv where
  P := Try.prog
  prim := tabP [(11, knownP), (14, knownP)]
  fns := tabF [(8, .alone, N8), (10, .alone, N10), (12, .alone, N12), (20, .alone, N20), (21, .alone, N21), (28, .alone, N28)]
  gl := gl

theorem tenv_ok : SEnvOk tenv where
  prim := tabP_ok ⟨known_prim, known4_prim, trivial⟩
  fns := tabF_ok ⟨N8_ok, N10_ok, N12_ok, N20_ok, N21_ok, N28_ok, trivial⟩

theorem has : HasParse tenv := ⟨⟨rfl, rfl, rfl, rfl, rfl, rfl, rfl, rfl, rfl⟩, rfl, rfl⟩

theorem ran (a b : Int) (ha : (Lit.int .i64 a).wf = true) (hb : (Lit.int .i64 b).wf = true) : scall tenv 6 8 [.lit (.int .i64 a), .lit (.int .i64 b)] [] = some (.lit (.bool true), []) := by
  have e1 : IntKind.i64.min = -9223372036854775808 := rfl
  have e2 : IntKind.i64.max = 9223372036854775807 := rfl
  simp [Lit.wf, e1, e2] at ha hb
  obtain ⟨h', h1⟩ := F8_ok (has.parse 0) (fun h => prim_call (E := tenv) (f := 14) (p := knownP) rfl rfl rfl) a b (by omega) (by omega) (by omega) (by omega) []
  exact alone_call (E := tenv) (f := 8) (F := N8) rfl rfl rfl h1 ⟨[], rfl⟩

theorem own : ownKnob Try.prog.godebug = none := by kernel_rfl

theorem walk (a b : Int) (ha : (Lit.int .i64 a).wf = true) (hb : (Lit.int .i64 b).wf = true) (w : World) : Calls Try.prog 8 #[.int .i64 a, .int .i64 b] w fun e w' => e = .returned (.bool true) ∧ Below w.heap.size w w' :=
  scall_lits tenv_ok (n := 6) (f := 8) (args := [.int .i64 a, .int .i64 b]) (I := fun _ _ => False) (fun v hv => by
    simp only [List.mem_cons, List.not_mem_nil, or_false] at hv
    rcases hv with rfl | rfl <;> rfl) (ran a b ha hb) w (fun b o h => h.elim) (GlobV.leaf _ _ _)

set_option maxRecDepth 100000 in
theorem lifted (os : Os) (started : os.Started) (H : Type) (enc : TypeId × Value → H) :
    ReturnsInHanded {} Try.checked os 8 .any (Rows.treeDeepSpec.pre6 enc Try.prog Try.f8 Rows.treeDeepRow.domain false) (Rows.treeDeepSpec.post enc Try.prog Try.f8 false true false false) := by
  refine returnsInHanded_of_change (C := Try.checked) own started (by kernel_rfl) Try.func8
    (ChangeSpec.witness6 (enc := enc) (C := Try.checked) false ⟨#[], #[.int .i64 0, .int .i64 0], []⟩ 8 (by kernel_rfl) (by kernel_rfl) (by kernel_rfl) (by kernel_rfl)) ?_
  intro W base args ds gs before hval0 hW hcnd _
  have hval : ∀ (j : Nat) t v, Try.f8.params[j]? = some t → args[j]? = some v → Value.okWide Try.prog W .any base t v := hval0
  have hW' := hW
  obtain ⟨p, q, hA0, hV, rfl, hfz, hnd⟩ := hW
  have hA : DataW.TrodAll enc Try.prog W 0 (fun _ => true) true Try.f8.params.toList args.toList ds p := hA0
  rw [Try.params8] at hA hval
  obtain ⟨v0, v1, d0, d1, p0, p1, rfl, rfl, rfl, h0, h1⟩ := trodAll_two hA
  obtain ⟨a, rfl, rfl, rfl, wa⟩ := open_int Try.underlying3 (hval 0 3 v0 rfl rfl) h0
  obtain ⟨b, rfl, rfl, rfl, wb⟩ := open_int Try.underlying3 (hval 1 3 v1 rfl rfl) h1
  obtain ⟨rfl, rfl⟩ := trodVars_none hV
  clear hA0 hval0
  simp only [List.append_nil] at hW'
  refine (walk a b wa wb W).mono fun e W' ⟨he, hg⟩ => ?_
  subst he
  exact ⟨_, rfl, post_of_below (pa := []) (pv := []) hW' (fun _ _ _ => (trodAll_cons_mk (shut_bool Try.underlying4 _) trodAll_mk0))
    (fun sp _ => trodAll_cons_mk (shut_int Try.underlying3 wa) (trodAll_cons_mk (shut_int Try.underlying3 wb) trodAll_mk0)) (fun _ _ => rfl) rfl
    hg (ok_one (by kernel_rfl) rfl (okWide_bool_mk Try.underlying4 _))⟩

theorem over : Rows.treeDeepRow.holds Try.pinned (OpenSpec.ofChange Rows.treeDeepSpec) :=
  OpenClaim.holds_of_wide 8 Try.f8 rfl rfl rfl rfl rfl rfl rfl ⟨rfl, rfl, rfl, rfl, rfl⟩ rfl rfl rfl rfl rfl (by kernel_rfl) Try.func8 (by kernel_rfl)
    (of_decide_eq_true (by kernel_rfl)) (by unfold Func.isWrapper; first | (rw [if_pos (by decide +kernel)]; kernel_rfl) | (rw [if_neg (by decide +kernel)]; exact ⟨rfl, rfl⟩))
    (fun os started H enc _ => lifted os started H enc)

theorem proved : Rows.TreeDeepSaid :=
  over
#print axioms proved
end Go.Proofs.Ytcajleckiegffaa.treeDeep
