/-
  TreeBack returns true for every slice of numbers and every slice of texts. No conditions. The code is told by functions over the values of an abstract machine (GLex, GTree1, GTree2, printed by a program of ours, each step checked by the kernel); what they answer is proved in Lx1 to Lx7, Tr1 to Tr9, Pr1 to Pr3, Pl1 to Pl4, Tk1, Tk2, Bk1 to Bk5.
-/
import Derived.Test.YtcajleckiegffaaBkA
import Derived.Test.YtcajleckiegffaaAmY
import Derived.Test.YtcajleckiegffaaRows
import Derived.WalkKit
import Derived.ProofKit
import Derived.OpenShut
import Derived.ChangeMaps5
namespace Go.Proofs.Ytcajleckiegffaa.treeBack
set_option linter.unusedSimpArgs false
set_option linter.unusedVariables false
open Go.ChangeShapes Go.WideShapes Go.ChangeAt Go.RowKit
open Go.Am hiding strs scall_vds

noncomputable def backEnv : SEnv where
  P := Try.prog
  prim := tabP [(11, knownP), (14, knownP), (24, joinPrim)]
  fns := tabF [(7, .alone, N7), (10, .alone, N10), (12, .alone, N12), (13, .alone, N13), (16, .alone, N16), (18, .within, N18), (19, .alone, N19), (20, .alone, N20), (21, .alone, N21), (23, .alone, N23), (28, .alone, N28)]
  gl := gl

theorem backEnv_ok : SEnvOk backEnv where
  prim := tabP_ok ⟨known_prim, known4_prim, join_ok Try.strings_Join_none Try.strings_Join, trivial⟩
  fns := tabF_ok ⟨N7_ok, N10_ok, N12_ok, N13_ok, N16_ok, N18_ok, N19_ok, N20_ok, N21_ok, N23_ok, N28_ok, trivial⟩

theorem has : HasBack backEnv := ⟨⟨⟨⟨rfl, rfl, rfl, rfl, rfl, rfl, rfl, rfl, rfl⟩, rfl, rfl⟩, rfl, rfl, rfl, rfl, rfl, rfl⟩, rfl, rfl, rfl, rfl, rfl, rfl⟩

theorem ran (zs : List Int) (ss : List ByteArray) (hz : ∀ a ∈ zs, -9223372036854775808 ≤ a ∧ a ≤ 9223372036854775807) (hs : ss.length ≤ 9223372036854775807) :
    scall backEnv (300000005 + 1) 7 [.isl 1 false ((zs.map fun z => Value.int .i64 z).map .lit), .isl 1 false ((ss.map fun s => Value.string s).map .lit)] [] = some (.lit (.bool true), []) := by
  have hP : PrintOk (scall backEnv 300000005) 300000000 := (show 4 + 300000000 + 1 = 300000005 from rfl) ▸ has.print 4 300000000
  have hC : ParseCall (scall backEnv 300000005) := (show 300000000 + 5 = 300000005 from rfl) ▸ has.parse 300000000
  have hk : ∀ h, scall backEnv 300000005 14 [] h = some (.lit (.bool true), h) := (show 300000004 + 1 = 300000005 from rfl) ▸ has.known 300000004
  have hQ : PlainCall (scall backEnv 300000005) 300000000 := (show 4 + 300000000 + 1 = 300000005 from rfl) ▸ has.plain 4 300000000
  have hS : SameCall (scall backEnv 300000005) 300000000 := (show 4 + 300000000 + 1 = 300000005 from rfl) ▸ has.same 4 300000000
  have e1 : (zs.map fun z => Value.int .i64 z).map AV.lit = zs.map fun n => .lit (.int .i64 n) := by rw [List.map_map]; rfl
  have e2 : (ss.map fun s => Value.string s).map AV.lit = (ss.map fun s => s.data.toList).map strAV := by rw [List.map_map, List.map_map]; rfl
  have hM : ∀ m fm, (∀ a ∈ m, a ∈ zs) → m.length ≤ 60 → MadeCall (scall backEnv 300000005) m (ss.map fun s => s.data.toList) fm false 30 := by
    intro m fm hm hl
    have h := has.made (l := m) (tx := ss.map fun s => s.data.toList) (fl := fm) (ft := false) hl (fun a ha => hz a (hm a ha)) (by rw [List.length_map]; exact hs) 299999974 30 (by decide)
    rw [show 299999974 + 30 + 1 = 300000005 from rfl] at h
    exact h
  have key : ∀ call, ParseCall call → PrintOk call 300000000 → (∀ h, call 14 [] h = some (.lit (.bool true), h)) → PlainCall call 300000000 → SameCall call 300000000 → (∀ m fm, (∀ a ∈ m, a ∈ zs) → m.length ≤ 60 → MadeCall call m (ss.map fun s => s.data.toList) fm false 30) →
      ∃ h', N7 call [.isl 1 false ((zs.map fun z => Value.int .i64 z).map .lit), .isl 1 false ((ss.map fun s => Value.string s).map .lit)] [] = some (.lit (.bool true), h') := by
    intro call C P K Q S M
    rw [e1, e2]
    exact F7_ok C P M Q S K
  obtain ⟨h', h1⟩ := key _ hC hP hk hQ hS hM
  exact alone_call (E := backEnv) (n := 300000005) (f := 7) (F := N7) rfl rfl (by simp [snaps, snap1, snapCell, freeCell]) h1 ⟨[], rfl⟩

theorem own : ownKnob Try.prog.godebug = none := by kernel_rfl
theorem laidOut : laidOutB Try.prog = true := by kernel_rfl
theorem cells3 : Try.prog.cellsOf 3 = 1 := by kernel_rfl
theorem cells9 : Try.prog.cellsOf 9 = 1 := by kernel_rfl

theorem walk (zs : List Int) (ss : List ByteArray) (hz : ∀ a ∈ zs, -9223372036854775808 ≤ a ∧ a ≤ 9223372036854775807) (hs : ss.length ≤ 9223372036854775807) (a0 a1 : Option Addr) (c0 c1 : Nat) (w : World)
    (r0 : RowArg w (zs.map fun z => .int .i64 z) a0 c0) (r1 : RowArg w (ss.map fun s => .string s) a1 c1) :
    Calls Try.prog 7 #[.slice a0 zs.length c0, .slice a1 ss.length c1] w fun e w' => e = .returned (.bool true) ∧ Below w.heap.size w w' := by
  refine Am.scall_vds backEnv_ok (I := fun b o => rowI a0 (zs.map fun z => Value.int .i64 z).length b o ∨ rowI a1 (ss.map fun s => Value.string s).length b o) (ran zs ss hz hs) w ?_ (GlobV.leaf _ _ _) rfl ?_
  · rintro b o (h | h)
    · exact r0.cell h
    · exact r1.cell h
  · intro i c v h1 h2
    have v0 := r0.vd (I := fun b o => rowI a0 (zs.map fun z => Value.int .i64 z).length b o ∨ rowI a1 (ss.map fun s => Value.string s).length b o) (fun v hv => by
      obtain ⟨z, _, rfl⟩ := List.mem_map.1 hv; rfl) (fun b o h => .inl h)
    have v1 := r1.vd (I := fun b o => rowI a0 (zs.map fun z => Value.int .i64 z).length b o ∨ rowI a1 (ss.map fun s => Value.string s).length b o) (fun v hv => by
      obtain ⟨z, _, rfl⟩ := List.mem_map.1 hv; rfl) (fun b o h => .inr h)
    match i with
    | 0 =>
      simp only [List.getElem?_cons_zero, Option.some.injEq] at h1
      have h2 : Value.slice a0 (zs.map fun z => Value.int .i64 z).length c0 = v := by simpa using h2
      subst h1; subst h2
      exact v0
    | 1 =>
      simp only [List.getElem?_cons_zero, List.getElem?_cons_succ, Option.some.injEq] at h1
      have h2 : Value.slice a1 (ss.map fun s => Value.string s).length c1 = v := by simpa using h2
      subst h1; subst h2
      exact v1
    | i + 2 => simp at h1

set_option maxRecDepth 100000 in
theorem lifted (os : Os) (started : os.Started) (H : Type) (enc : TypeId × Value → H) :
    ReturnsInHanded {} Try.checked os 7 .any (Rows.treeBackSpec.pre6 enc Try.prog Try.f7 Rows.treeBackRow.domain false) (Rows.treeBackSpec.post enc Try.prog Try.f7 false true false false) := by
  refine returnsInHanded_of_change (C := Try.checked) own started (by kernel_rfl) Try.func7
    (ChangeSpec.witness6 (enc := enc) (C := Try.checked) false ⟨#[], #[.slice none 0 0, .slice none 0 0], []⟩ 8 (by kernel_rfl) (by kernel_rfl) (by kernel_rfl) (by kernel_rfl)) ?_
  intro W base args ds gs before hval0 hW hcnd _
  have hval : ∀ (j : Nat) t v, Try.f7.params[j]? = some t → args[j]? = some v → Value.okWide Try.prog W .any base t v := hval0
  have hW' := hW
  obtain ⟨p, q, hA0, hV, rfl, hfz, hnd⟩ := hW
  have hA : DataW.TrodAll enc Try.prog W 0 (fun _ => true) true Try.f7.params.toList args.toList ds p := hA0
  rw [Try.params7] at hA hval
  obtain ⟨v0, v1, d0, d1, p0, p1, rfl, rfl, rfl, h0, h1⟩ := trodAll_two hA
  obtain ⟨rfl, rfl⟩ := trodVars_none hV
  obtain ⟨a0, len0, cap0, rfl⟩ := okWide_slice Try.underlying45 (hval 0 45 v0 rfl rfl)
  obtain ⟨a1, len1, cap1, rfl⟩ := okWide_slice Try.underlying30 (hval 1 30 v1 rfl rfl)
  have h0k := h0
  have h1k := h1
  obtain ⟨fuel0, hf0⟩ := h0
  obtain ⟨fuel1, hf1⟩ := h1
  clear hA0 hval0
  simp only [List.append_nil] at hW'
  have hlt : ∀ x ∈ p0 ++ p1, x.block < W.heap.size := fun x hx => by simpa using hW'.lt x hx
  have fin : ∀ W', Below W.heap.size W W' → Rows.treeBackSpec.post enc Try.checked.prog Try.f7 false true false false W #[.slice a0 len0 cap0, .slice a1 len1 cap1] (.bool true) W' := by
    intro W' hg
    exact post_of_below (pa := p0 ++ p1) (pv := []) hW' (fun _ _ _ => (trodAll_cons_mk (shut_bool Try.underlying4 _) trodAll_mk0))
      (fun sp hsp => trodAll_mk2 (WideElems.Trod_stays laidOut (by kernel_rfl) (of_decide_eq_true (by kernel_rfl)) h0k (fun x hx => hg.same (hlt x (List.mem_append_left _ hx))) (fun x hx => hsp x (List.mem_append_left _ hx)))
        (WideElems.Trod_stays laidOut (by kernel_rfl) (of_decide_eq_true (by kernel_rfl)) h1k (fun x hx => hg.same (hlt x (List.mem_append_right _ hx))) (fun x hx => hsp x (List.mem_append_right _ hx)))) (fun _ _ => rfl) (by simp)
      hg (ok_one (by kernel_rfl) rfl (okWide_bool_mk Try.underlying4 _))
  obtain ⟨zs, hz1, hz2, hz3, hz4⟩ := open_int_row Try.underlying45 Try.underlying3 cells3 hf0
  obtain ⟨ss, hs1, hs2, hs3, hs4⟩ := open_string_row Try.underlying30 Try.underlying9 cells9 hf1
  have hgo := walk zs ss (fun a ha => hz4 a ha) (by simp only [maxLen] at hs2; omega) a0 a1 cap0 cap1 W hz3 hs3
  rw [hz1, hs1] at hgo
  refine hgo.mono fun e W' ⟨he, hg⟩ => ?_
  subst he
  exact ⟨_, rfl, fin W' hg⟩

theorem over : Rows.treeBackRow.holds Try.pinned (OpenSpec.ofChange Rows.treeBackSpec) :=
  OpenClaim.holds_of_wide 7 Try.f7 rfl rfl rfl rfl rfl rfl rfl ⟨rfl, rfl, rfl, rfl, rfl⟩ rfl rfl rfl rfl rfl (by kernel_rfl) Try.func7 (by kernel_rfl)
    (of_decide_eq_true (by kernel_rfl)) (by unfold Func.isWrapper; first | (rw [if_pos (by decide +kernel)]; kernel_rfl) | (rw [if_neg (by decide +kernel)]; exact ⟨rfl, rfl⟩))
    (fun os started H enc _ => lifted os started H enc)

theorem proved : Rows.TreeBackSaid :=
  over
#print axioms proved
end Go.Proofs.Ytcajleckiegffaa.treeBack
