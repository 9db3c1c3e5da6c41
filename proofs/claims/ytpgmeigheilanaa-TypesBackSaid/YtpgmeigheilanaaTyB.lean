/-
  TypesBack returns true for every slice of numbers. No conditions. The code is told by functions over the values of an abstract machine (GTy, printed by a program of ours, each step checked by the kernel); what they answer is proved in Ty1 to Ty9.
-/
import Derived.Test.YtpgmeigheilanaaTy9
import Derived.Test.YtpgmeigheilanaaAmY
import Derived.Test.YtpgmeigheilanaaRows
import Derived.WalkKit
import Derived.ProofKit
import Derived.OpenShut
import Derived.ChangeMaps5
namespace Go.Proofs.Ytpgmeigheilanaa.typesBack
set_option linter.unusedSimpArgs false
set_option linter.unusedVariables false
open Go.ChangeShapes Go.WideShapes Go.ChangeAt Go.RowKit
open Go.Am hiding strs scall_vds

noncomputable def backEnv : SEnv where
  P := Try.prog
  prim := tabP [(10, knownP), (21, joinPrim), (31, tableP namedT), (40, anyPrim)]
  fns := tabF [(3, .alone, N3), (7, .within, N7), (8, .alone, N8), (9, .alone, N9), (11, .alone, N11), (12, .alone, N12), (13, .alone, N13), (14, .alone, N14), (15, .alone, N15), (22, .alone, N22), (23, .alone, N23), (24, .alone, N24), (33, .alone, N33), (39, .alone, N39), (52, .alone, N52)]
  gl := gl

theorem backEnv_ok : SEnvOk backEnv where
  prim := tabP_ok ⟨known_prim, join_ok Try.strings_Join_none Try.strings_Join, named_prim, any_prim, trivial⟩
  fns := tabF_ok ⟨N3_ok, N7_ok, N8_ok, N9_ok, N11_ok, N12_ok, N13_ok, N14_ok, N15_ok, N22_ok, N23_ok, N24_ok, N33_ok, N39_ok, N52_ok, trivial⟩

theorem has : HasMade backEnv := ⟨⟨rfl, rfl, rfl, rfl, rfl, rfl, rfl, rfl, rfl, rfl, rfl, rfl, rfl, rfl, rfl, rfl, rfl, rfl, rfl, rfl, rfl, rfl, rfl, rfl, rfl, rfl, rfl, rfl, rfl, rfl⟩, rfl, rfl⟩

theorem backCall {l : List Int} {fl : Bool} (hr : ∀ a ∈ l, -9223372036854775808 ≤ a ∧ a ≤ 9223372036854775807) (hl : l.length ≤ 9223372036854775807) : BackCall (scall backEnv 404) l fl where
  made := has.made fl hr hl 399 2 (by omega)
  func := has.func 402
  array := fun s h hs => has.array 403 hs h
  right := fun t h hg => has.right 1 hg h
  elArr := fun u h hg => has.elem_arr 0 hg h
  elCore := fun t h hc hg => has.elem_core 0 hc hg h
  parts := fun a b r h ga gb gr hl => has.parts 0 ga gb gr hl h
  same := fun a b h v id w => has.same 403 a b w
  known := fun h => has.known 403 h

theorem ran (zs : List Int) (hz : ∀ a ∈ zs, -9223372036854775808 ≤ a ∧ a ≤ 9223372036854775807) (hl : zs.length ≤ 9223372036854775807) :
    scall backEnv 405 3 [.isl 1 false ((zs.map fun z => Value.int .i64 z).map .lit)] [] = some (.lit (.bool true), []) := by
  have e1 : (zs.map fun z => Value.int .i64 z).map AV.lit = zs.map fun n => .lit (.int .i64 n) := by rw [List.map_map]; rfl
  obtain ⟨h', h1⟩ := F3_ok (backCall (fl := false) hz hl)
  rw [e1]
  exact alone_call (E := backEnv) (n := 404) (f := 3) (F := N3) rfl rfl (by simp [snaps, snap1, snapCell, freeCell]) h1 ⟨[], rfl⟩

theorem own : ownKnob Try.prog.godebug = none := by kernel_rfl
theorem laidOut : laidOutB Try.prog = true := by kernel_rfl
theorem cells3 : Try.prog.cellsOf 3 = 1 := by kernel_rfl

theorem walk (zs : List Int) (hz : ∀ a ∈ zs, -9223372036854775808 ≤ a ∧ a ≤ 9223372036854775807) (hl : zs.length ≤ 9223372036854775807) (a0 : Option Addr) (c0 : Nat) (w : World) (r0 : RowArg w (zs.map fun z => .int .i64 z) a0 c0) :
    Calls Try.prog 3 #[.slice a0 zs.length c0] w fun e w' => e = .returned (.bool true) ∧ Below w.heap.size w w' := by
  refine Am.scall_vds backEnv_ok (I := fun b o => rowI a0 (zs.map fun z => Value.int .i64 z).length b o) (ran zs hz hl) w ?_ (GlobV.leaf _ _ _) rfl ?_
  · intro b o h
    exact r0.cell h
  · intro i c v h1 h2
    have v0 := r0.vd (I := fun b o => rowI a0 (zs.map fun z => Value.int .i64 z).length b o) (fun v hv => by
      obtain ⟨z, _, rfl⟩ := List.mem_map.1 hv; rfl) (fun b o h => h)
    match i with
    | 0 =>
      simp only [List.getElem?_cons_zero, Option.some.injEq] at h1
      have h2 : Value.slice a0 (zs.map fun z => Value.int .i64 z).length c0 = v := by simpa using h2
      subst h1; subst h2
      exact v0
    | i + 1 => simp at h1

set_option maxRecDepth 100000 in
theorem lifted (os : Os) (started : os.Started) (H : Type) (enc : TypeId × Value → H) :
    ReturnsInHanded {} Try.checked os 3 .any (Rows.typesBackSpec.pre6 enc Try.prog Try.f3 Rows.typesBackRow.domain false) (Rows.typesBackSpec.post enc Try.prog Try.f3 false true false false) := by
  refine returnsInHanded_of_change (C := Try.checked) own started (by kernel_rfl) Try.func3
    (ChangeSpec.witness6 (enc := enc) (C := Try.checked) false ⟨#[], #[.slice none 0 0], []⟩ 8 (by kernel_rfl) (by kernel_rfl) (by kernel_rfl) (by kernel_rfl)) ?_
  intro W base args ds gs before hval0 hW hcnd _
  have hval : ∀ (j : Nat) t v, Try.f3.params[j]? = some t → args[j]? = some v → Value.okWide Try.prog W .any base t v := hval0
  have hW' := hW
  obtain ⟨p, q, hA0, hV, rfl, hfz, hnd⟩ := hW
  have hA : DataW.TrodAll enc Try.prog W 0 (fun _ => true) true Try.f3.params.toList args.toList ds p := hA0
  rw [Try.params3] at hA hval
  obtain ⟨v0, d0, rfl, rfl, h0⟩ := trodAll_one hA
  obtain ⟨rfl, rfl⟩ := trodVars_none hV
  obtain ⟨a0, len0, cap0, rfl⟩ := okWide_slice Try.underlying22 (hval 0 22 v0 rfl rfl)
  have h0k := h0
  obtain ⟨fuel0, hf0⟩ := h0
  clear hA0 hval0
  simp only [List.append_nil] at hW'
  have hlt : ∀ x ∈ p, x.block < W.heap.size := fun x hx => by simpa using hW'.lt x hx
  have fin : ∀ W', Below W.heap.size W W' → Rows.typesBackSpec.post enc Try.checked.prog Try.f3 false true false false W #[.slice a0 len0 cap0] (.bool true) W' := by
    intro W' hg
    exact post_of_below (pa := p) (pv := []) hW' (fun _ _ _ => (trodAll_cons_mk (shut_bool Try.underlying4 _) trodAll_mk0))
      (fun sp hsp => trodAll_mk1 (WideElems.Trod_stays laidOut (by kernel_rfl) (of_decide_eq_true (by kernel_rfl)) h0k (fun x hx => hg.same (hlt x hx)) (fun x hx => hsp x hx))) (fun _ _ => rfl) (by simp)
      hg (ok_one (by kernel_rfl) rfl (okWide_bool_mk Try.underlying4 _))
  obtain ⟨zs, hz1, hz2, hz3, hz4⟩ := open_int_row Try.underlying22 Try.underlying3 cells3 hf0
  have hgo := walk zs (fun a ha => hz4 a ha) (by simp only [maxLen] at hz2; omega) a0 cap0 W hz3
  rw [hz1] at hgo
  refine hgo.mono fun e W' ⟨he, hg⟩ => ?_
  subst he
  exact ⟨_, rfl, fin W' hg⟩

theorem over : Rows.typesBackRow.holds Try.pinned (OpenSpec.ofChange Rows.typesBackSpec) :=
  OpenClaim.holds_of_wide 3 Try.f3 rfl rfl rfl rfl rfl rfl rfl ⟨rfl, rfl, rfl, rfl, rfl⟩ rfl rfl rfl rfl rfl (by kernel_rfl) Try.func3 (by kernel_rfl)
    (of_decide_eq_true (by kernel_rfl)) (by unfold Func.isWrapper; first | (rw [if_pos (by decide +kernel)]; kernel_rfl) | (rw [if_neg (by decide +kernel)]; exact ⟨rfl, rfl⟩))
    (fun os started H enc _ => lifted os started H enc)

theorem proved : Rows.TypesBackSaid :=
  over
#print axioms proved
end Go.Proofs.Ytpgmeigheilanaa.typesBack
