/-
  TypesLong returns true for every number. No conditions. The code is told by functions over the values of an abstract machine (GTy, printed by a program of ours, each step checked by the kernel); what they answer is proved in Ty1 to Ty6.
-/
import Derived.Test.YtpgmeigheilanaaTy6
import Derived.Test.YtpgmeigheilanaaRows
import Derived.WalkKit
import Derived.ProofKit
import Derived.OpenShut
import Derived.ChangeMaps5
namespace Go.Proofs.Ytpgmeigheilanaa.typesLong
set_option linter.unusedSimpArgs false
set_option linter.unusedVariables false
open Go.ChangeShapes Go.WideShapes Go.ChangeAt Go.RowKit
open Go.Am

noncomputable def longEnv : SEnv where
  P := Try.prog
  prim := tabP [(10, knownP), (21, joinPrim), (31, tableP namedT), (40, anyPrim)]
  fns := tabF [(4, .alone, N4), (8, .alone, N8), (9, .alone, N9), (11, .alone, N11), (12, .alone, N12), (13, .alone, N13), (14, .alone, N14), (15, .alone, N15), (22, .alone, N22), (23, .alone, N23), (24, .alone, N24), (33, .alone, N33), (39, .alone, N39), (52, .alone, N52)]
  gl := gl

theorem longEnv_ok : SEnvOk longEnv where
  prim := tabP_ok ⟨known_prim, join_ok Try.strings_Join_none Try.strings_Join, named_prim, any_prim, trivial⟩
  fns := tabF_ok ⟨N4_ok, N8_ok, N9_ok, N11_ok, N12_ok, N13_ok, N14_ok, N15_ok, N22_ok, N23_ok, N24_ok, N33_ok, N39_ok, N52_ok, trivial⟩

theorem has : HasTypes longEnv := ⟨rfl, rfl, rfl, rfl, rfl, rfl, rfl, rfl, rfl, rfl, rfl, rfl, rfl, rfl, rfl, rfl, rfl, rfl, rfl, rfl, rfl, rfl, rfl, rfl, rfl, rfl, rfl, rfl, rfl, rfl⟩

theorem longCall : LongCall (scall longEnv 404) where
  array := fun s h hs => has.array 403 hs h
  right := fun t h hg => has.right 1 hg h
  elArr := fun u h hg => has.elem_arr 0 hg h
  elCore := fun t h hc hg => has.elem_core 0 hc hg h
  within := fun a hi h h0 h1 => has.within 403 h0 h1 h
  known := fun h => has.known 403 h

theorem ran (a : Int) : scall longEnv 405 4 [.lit (.int .i64 a)] [] = some (.lit (.bool true), []) :=
  alone_call (E := longEnv) (n := 404) (f := 4) (F := N4) rfl rfl rfl (F4_ok longCall a []) ⟨[], rfl⟩

theorem own : ownKnob Try.prog.godebug = none := by kernel_rfl

theorem walk (a : Int) (w : World) : Calls Try.prog 4 #[.int .i64 a] w fun e w' => e = .returned (.bool true) ∧ Below w.heap.size w w' :=
  scall_lits longEnv_ok (n := 405) (f := 4) (args := [.int .i64 a]) (I := fun _ _ => False) (fun v hv => by
    simp only [List.mem_cons, List.not_mem_nil, or_false] at hv
    subst hv; rfl) (ran a) w (fun b o h => h.elim) (GlobV.leaf _ _ _)

set_option maxRecDepth 100000 in
theorem lifted (os : Os) (started : os.Started) (H : Type) (enc : TypeId × Value → H) :
    ReturnsInHanded {} Try.checked os 4 .any (Rows.typesLongSpec.pre6 enc Try.prog Try.f4 Rows.typesLongRow.domain false) (Rows.typesLongSpec.post enc Try.prog Try.f4 false true false false) := by
  refine returnsInHanded_of_change (C := Try.checked) own started (by kernel_rfl) Try.func4
    (ChangeSpec.witness6 (enc := enc) (C := Try.checked) false ⟨#[], #[.int .i64 0], []⟩ 8 (by kernel_rfl) (by kernel_rfl) (by kernel_rfl) (by kernel_rfl)) ?_
  intro W base args ds gs before hval0 hW hcnd _
  have hval : ∀ (j : Nat) t v, Try.f4.params[j]? = some t → args[j]? = some v → Value.okWide Try.prog W .any base t v := hval0
  have hW' := hW
  obtain ⟨p, q, hA0, hV, rfl, hfz, hnd⟩ := hW
  have hA : DataW.TrodAll enc Try.prog W 0 (fun _ => true) true Try.f4.params.toList args.toList ds p := hA0
  rw [Try.params4] at hA hval
  obtain ⟨v0, d0, rfl, rfl, h0⟩ := trodAll_one hA
  obtain ⟨a, rfl, rfl, rfl, wa⟩ := open_int Try.underlying3 (hval 0 3 v0 rfl rfl) h0
  obtain ⟨rfl, rfl⟩ := trodVars_none hV
  clear hA0 hval0
  simp only [List.append_nil] at hW'
  refine (walk a W).mono fun e W' ⟨he, hg⟩ => ?_
  subst he
  exact ⟨_, rfl, post_of_below (pa := []) (pv := []) hW' (fun _ _ _ => (trodAll_cons_mk (shut_bool Try.underlying4 _) trodAll_mk0))
    (fun sp _ => trodAll_cons_mk (shut_int Try.underlying3 wa) trodAll_mk0) (fun _ _ => rfl) rfl
    hg (ok_one (by kernel_rfl) rfl (okWide_bool_mk Try.underlying4 _))⟩

theorem over : Rows.typesLongRow.holds Try.pinned (OpenSpec.ofChange Rows.typesLongSpec) :=
  OpenClaim.holds_of_wide 4 Try.f4 rfl rfl rfl rfl rfl rfl rfl ⟨rfl, rfl, rfl, rfl, rfl⟩ rfl rfl rfl rfl rfl (by kernel_rfl) Try.func4 (by kernel_rfl)
    (of_decide_eq_true (by kernel_rfl)) (by unfold Func.isWrapper; first | (rw [if_pos (by decide +kernel)]; kernel_rfl) | (rw [if_neg (by decide +kernel)]; exact ⟨rfl, rfl⟩))
    (fun os started H enc _ => lifted os started H enc)

theorem proved : Rows.TypesLongSaid :=
  over
#print axioms proved
end Go.Proofs.Ytpgmeigheilanaa.typesLong
