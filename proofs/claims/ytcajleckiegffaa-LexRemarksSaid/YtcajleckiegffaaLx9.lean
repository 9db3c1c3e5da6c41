/-
  LexRemarks returns true for every pair of texts and every number. No conditions. The code is told by functions over the values of an abstract machine (GLex, printed by a program of ours, each step checked by the kernel); what they answer is proved in Lx1 to Lx8.
-/
import Derived.Test.YtcajleckiegffaaLx8
import Derived.Test.YtcajleckiegffaaRows
import Derived.WalkKit
import Derived.ProofKit
import Derived.OpenShut
import Derived.ChangeMaps5
import Derived.SizedLaws
namespace Go.Proofs.Ytcajleckiegffaa.lexRemarks
set_option linter.unusedSimpArgs false
set_option linter.unusedVariables false
open Go.ChangeShapes Go.WideShapes Go.ChangeAt Go.RowKit
open Go.ChangeMaps (open_string shut_string)
open Go.Am

theorem remarks_ran (s m : ByteArray) (b : Int) (hm : m.data.toList.length ≤ 140737488351232) (hb : (Lit.int .i64 b).wf = true) : scall senv 6 4 [.lit (.string s), .lit (.string m), .lit (.int .i64 b)] [] = some (.lit (.bool true), []) := by
  obtain ⟨⟨l⟩⟩ := s
  obtain ⟨⟨r⟩⟩ := m
  have e1 : IntKind.i64.min = -9223372036854775808 := rfl
  have e2 : IntKind.i64.max = 9223372036854775807 := rfl
  simp [Lit.wf, e1, e2] at hb
  obtain ⟨h', h1⟩ := F4_ok (splitCall 1) l r b hm (by omega) (by omega) []
  exact alone_call (E := senv) (f := 4) (F := N4) rfl rfl rfl h1 ⟨[], rfl⟩

theorem own : ownKnob Try.prog.godebug = none := by kernel_rfl

theorem walk (s m : ByteArray) (b : Int) (hm : m.data.toList.length ≤ 140737488351232) (hb : (Lit.int .i64 b).wf = true) (w : World) : Calls Try.prog 4 #[.string s, .string m, .int .i64 b] w fun e w' => e = .returned (.bool true) ∧ Below w.heap.size w w' :=
  scall_lits senv_ok (n := 6) (f := 4) (args := [.string s, .string m, .int .i64 b]) (I := fun _ _ => False) (fun v hv => by
    simp only [List.mem_cons, List.not_mem_nil, or_false] at hv
    rcases hv with rfl | rfl | rfl <;> rfl) (remarks_ran s m b hm hb) w (fun b o h => h.elim) (GlobV.leaf _ _ _)

set_option maxRecDepth 100000 in
theorem lifted (os : Os) (started : os.Started) (H : Type) (enc : TypeId × Value → H) :
    ReturnsInHanded {} Try.checked os 4 .any (Rows.lexRemarksSpec.pre6 enc Try.prog Try.f4 Rows.lexRemarksRow.domain false) (Rows.lexRemarksSpec.post enc Try.prog Try.f4 false true false false) := by
  refine returnsInHanded_of_change_sized (C := Try.checked) own started (by kernel_rfl) Try.func4
    (ChangeSpec.witness6 (enc := enc) (C := Try.checked) false ⟨#[], #[.string ⟨#[]⟩, .string ⟨#[]⟩, .int .i64 0], []⟩ 8 (by kernel_rfl) (by kernel_rfl) (by kernel_rfl) (by kernel_rfl)) ?_
  intro W base args ds gs before hval0 hW hcnd hsz0 _
  have hsz : (DataW.weightsEach Try.prog (Try.f4.params.toList ++ Rows.lexRemarksSpec.plain.varTypes Try.prog) (ds ++ gs)).all (· ≤ reachBytes) = true := hsz0
  clear hsz0
  have hval : ∀ (j : Nat) t v, Try.f4.params[j]? = some t → args[j]? = some v → Value.okWide Try.prog W .any base t v := hval0
  have hW' := hW
  obtain ⟨p, q, hA0, hV, rfl, hfz, hnd⟩ := hW
  have hA : DataW.TrodAll enc Try.prog W 0 (fun _ => true) true Try.f4.params.toList args.toList ds p := hA0
  rw [Try.params4] at hA hval hsz
  obtain ⟨v0, v1, v2, d0, d1, d2, p0, p1, p2, rfl, rfl, rfl, h0, h1, h2⟩ := trodAll_three hA
  obtain ⟨s, rfl, rfl, rfl, hs⟩ := open_string Try.underlying9 (hval 0 9 v0 rfl rfl) h0
  obtain ⟨m, rfl, rfl, rfl, hm⟩ := open_string Try.underlying9 (hval 1 9 v1 rfl rfl) h1
  obtain ⟨b, rfl, rfl, rfl, wb⟩ := open_int Try.underlying3 (hval 2 3 v2 rfl rfl) h2
  obtain ⟨rfl, rfl⟩ := trodVars_none hV
  have hreach : m.data.toList.length ≤ 140737488351232 := sized_string hsz (j := 1) (t := 9) rfl rfl
  clear hA0 hval0
  simp only [List.append_nil] at hW'
  refine (walk s m b hreach wb W).mono fun e W' ⟨he, hg⟩ => ?_
  subst he
  exact ⟨_, rfl, post_of_below (pa := []) (pv := []) hW' (fun _ _ _ => (trodAll_cons_mk (shut_bool Try.underlying4 _) trodAll_mk0))
    (fun sp _ => trodAll_cons_mk (shut_string Try.underlying9 hs) (trodAll_cons_mk (shut_string Try.underlying9 hm) (trodAll_cons_mk (shut_int Try.underlying3 wb) trodAll_mk0))) (fun _ _ => rfl) rfl
    hg (ok_one (by kernel_rfl) rfl (okWide_bool_mk Try.underlying4 _))⟩

theorem over : Rows.lexRemarksRow.holds Try.pinned (OpenSpec.ofChange Rows.lexRemarksSpec) :=
  OpenClaim.holds_of_wide 4 Try.f4 rfl rfl rfl rfl rfl rfl rfl ⟨rfl, rfl, rfl, rfl, rfl⟩ rfl rfl rfl rfl rfl (by kernel_rfl) Try.func4 (by kernel_rfl)
    (of_decide_eq_true (by kernel_rfl)) (by unfold Func.isWrapper; first | (rw [if_pos (by decide +kernel)]; kernel_rfl) | (rw [if_neg (by decide +kernel)]; exact ⟨rfl, rfl⟩))
    (fun os started H enc _ => lifted os started H enc)

theorem proved : Rows.LexRemarksSaid :=
  over
#print axioms proved
end Go.Proofs.Ytcajleckiegffaa.lexRemarks
