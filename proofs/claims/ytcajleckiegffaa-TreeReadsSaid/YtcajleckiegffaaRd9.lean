/-
  TreeReads returns true for every text. No conditions. The code is told by functions over the values of an abstract machine (GLex, GTree1, GTree2, printed by a program of ours, each step checked by the kernel); what they answer is proved in Lx1 to Lx7, Tr1 to Tr9, Pr1 to Pr3, Pl1 to Pl4, Tk1, Tk2, Bk1 to Bk5, Rd1 to Rd8.
-/
import Derived.Test.YtcajleckiegffaaRd8
import Derived.Test.YtcajleckiegffaaRows
import Derived.WalkKit
import Derived.ProofKit
import Derived.OpenShut
import Derived.ChangeMaps5
set_option linter.unusedSectionVars false
namespace Go.Proofs.Ytcajleckiegffaa.treeReads
set_option linter.unusedSimpArgs false
set_option linter.unusedVariables false
open Go.ChangeShapes Go.WideShapes Go.ChangeAt Go.RowKit
open Go.ChangeMaps (open_string shut_string)
open Go.Am

noncomputable def readsEnv : SEnv where
  P := Try.prog
  prim := tabP [(11, knownP), (14, knownP), (24, joinPrim)]
  fns := tabF [(6, .alone, N6), (10, .alone, N10), (12, .alone, N12), (13, .alone, N13), (15, .alone, N15), (16, .alone, N16), (17, .alone, N17), (18, .within, N18), (19, .alone, N19), (20, .alone, N20), (21, .alone, N21), (23, .alone, N23), (25, .alone, N25), (26, .alone, N26), (27, .alone, N27), (28, .alone, N28), (32, .alone, N32), (33, .alone, N33), (37, .alone, N37)]
  gl := gl

theorem readsEnv_ok : SEnvOk readsEnv where
  prim := tabP_ok ⟨known_prim, known4_prim, join_ok Try.strings_Join_none Try.strings_Join, trivial⟩
  fns := tabF_ok ⟨N6_ok, N10_ok, N12_ok, N13_ok, N15_ok, N16_ok, N17_ok, N18_ok, N19_ok, N20_ok, N21_ok, N23_ok, N25_ok, N26_ok, N27_ok, N28_ok, N32_ok, N33_ok, N37_ok, trivial⟩

theorem has : HasRef readsEnv := ⟨⟨⟨⟨⟨rfl, rfl, rfl, rfl, rfl, rfl, rfl, rfl, rfl⟩, rfl, rfl⟩, rfl, rfl, rfl, rfl, rfl, rfl⟩, rfl, rfl, rfl, rfl, rfl, rfl⟩, rfl, rfl, rfl, rfl, rfl, rfl, rfl, rfl, rfl, rfl, rfl, rfl, rfl, rfl, rfl, rfl⟩

theorem ran (s : ByteArray) : scall readsEnv (300000005 + 1) 6 [.lit (.string s)] [] = some (.lit (.bool true), []) := by
  have hP : PrintOk (scall readsEnv 300000005) 300000000 := (show 4 + 300000000 + 1 = 300000005 from rfl) ▸ HasPrint.print has.toHasBack.toHasPrint 4 300000000
  have hQ : RefPrintOk (scall readsEnv 300000005) 300000000 := (show 4 + 300000000 + 1 = 300000005 from rfl) ▸ HasRef.print has 4 300000000
  have hC : ParseCall (scall readsEnv 300000005) := (show 300000000 + 5 = 300000005 from rfl) ▸ HasParse.parse has.toHasBack.toHasPrint.toHasParse 300000000
  have hR : RefParse (scall readsEnv 300000005) := (show 299991809 + 8192 + 4 = 300000005 from rfl) ▸ HasRef.parse has 299991809
  have hk : ∀ h, scall readsEnv 300000005 14 [] h = some (.lit (.bool true), h) := (show 300000004 + 1 = 300000005 from rfl) ▸ has.known 300000004
  have hS : SameCall (scall readsEnv 300000005) 300000000 := (show 4 + 300000000 + 1 = 300000005 from rfl) ▸ has.same 4 300000000
  obtain ⟨⟨l⟩⟩ := s
  have key : ∀ call, ParseCall call → RefParse call → PrintOk call 300000000 → RefPrintOk call 300000000 → SameCall call 300000000 → (∀ h, call 14 [] h = some (.lit (.bool true), h)) → ∃ h', N6 call [.lit (.string ⟨⟨l⟩⟩)] [] = some (.lit (.bool true), h') :=
    fun call C R P Q S K => F6_ok C R P Q S K l
  obtain ⟨h', h1⟩ := key _ hC hR hP hQ hS hk
  exact alone_call (E := readsEnv) (n := 300000005) (f := 6) (F := N6) rfl rfl rfl h1 ⟨[], rfl⟩

theorem own : ownKnob Try.prog.godebug = none := by kernel_rfl

theorem walk (s : ByteArray) (w : World) : Calls Try.prog 6 #[.string s] w fun e w' => e = .returned (.bool true) ∧ Below w.heap.size w w' :=
  scall_lits readsEnv_ok (n := 300000005 + 1) (f := 6) (args := [.string s]) (I := fun _ _ => False) (fun v hv => by rcases List.mem_singleton.1 hv with rfl; rfl) (ran s) w (fun b o h => h.elim) (GlobV.leaf _ _ _)

set_option maxRecDepth 100000 in
theorem lifted (os : Os) (started : os.Started) (H : Type) (enc : TypeId × Value → H) :
    ReturnsInHanded {} Try.checked os 6 .any (Rows.treeReadsSpec.pre6 enc Try.prog Try.f6 Rows.treeReadsRow.domain false) (Rows.treeReadsSpec.post enc Try.prog Try.f6 false true false false) := by
  refine returnsInHanded_of_change (C := Try.checked) own started (by kernel_rfl) Try.func6
    (ChangeSpec.witness6 (enc := enc) (C := Try.checked) false ⟨#[], #[.string ⟨#[]⟩], []⟩ 8 (by kernel_rfl) (by kernel_rfl) (by kernel_rfl) (by kernel_rfl)) ?_
  intro W base args ds gs before hval0 hW hcnd _
  have hval : ∀ (j : Nat) t v, Try.f6.params[j]? = some t → args[j]? = some v → Value.okWide Try.prog W .any base t v := hval0
  have hW' := hW
  obtain ⟨p, q, hA0, hV, rfl, hfz, hnd⟩ := hW
  have hA : DataW.TrodAll enc Try.prog W 0 (fun _ => true) true Try.f6.params.toList args.toList ds p := hA0
  rw [Try.params6] at hA hval
  obtain ⟨v0, d0, rfl, rfl, h0⟩ := trodAll_one hA
  obtain ⟨s, rfl, rfl, rfl, hs⟩ := open_string Try.underlying9 (hval 0 9 v0 rfl rfl) h0
  obtain ⟨rfl, rfl⟩ := trodVars_none hV
  clear hA0 hval0
  simp only [List.append_nil] at hW'
  refine (walk s W).mono fun e W' ⟨he, hg⟩ => ?_
  subst he
  exact ⟨_, rfl, post_of_below (pa := []) (pv := []) hW' (fun _ _ _ => (trodAll_cons_mk (shut_bool Try.underlying4 _) trodAll_mk0)) (fun sp _ => trodAll_cons_mk (shut_string Try.underlying9 hs) trodAll_mk0) (fun _ _ => rfl) rfl
    hg (ok_one (by kernel_rfl) rfl (okWide_bool_mk Try.underlying4 _))⟩

theorem over : Rows.treeReadsRow.holds Try.pinned (OpenSpec.ofChange Rows.treeReadsSpec) :=
  OpenClaim.holds_of_wide 6 Try.f6 rfl rfl rfl rfl rfl rfl rfl ⟨rfl, rfl, rfl, rfl, rfl⟩ rfl rfl rfl rfl rfl (by kernel_rfl) Try.func6 (by kernel_rfl)
    (of_decide_eq_true (by kernel_rfl)) (by unfold Func.isWrapper; first | (rw [if_pos (by decide +kernel)]; kernel_rfl) | (rw [if_neg (by decide +kernel)]; exact ⟨rfl, rfl⟩))
    (fun os started H enc _ => lifted os started H enc)

theorem proved : Rows.TreeReadsSaid :=
  over
#print axioms proved
end Go.Proofs.Ytcajleckiegffaa.treeReads
