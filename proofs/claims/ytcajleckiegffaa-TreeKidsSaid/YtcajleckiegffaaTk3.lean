/-
  TreeKids returns true for every slice of texts. No conditions. The code is told by functions over the values of an abstract machine (GLex, GTree1, printed by a program of ours, each step checked by the kernel); what they answer is proved in Lx1 to Lx7, Tr1 to Tr9, Pr1 to Pr3, Pl1 to Pl4, Tk1, Tk2.
-/
import Derived.Test.YtcajleckiegffaaPlA
import Derived.Test.YtcajleckiegffaaRows
import Derived.WalkKit
import Derived.ProofKit
import Derived.OpenShut
import Derived.ChangeMaps5
import Derived.SliceStrings
namespace Go.Proofs.Ytcajleckiegffaa.treeKids
set_option linter.unusedSimpArgs false
set_option linter.unusedVariables false
open Go.ChangeShapes Go.WideShapes Go.ChangeAt Go.RowKit
open Go.Am hiding strs

noncomputable def kidsEnv : SEnv where
  P := Try.prog
  prim := tabP [(11, knownP), (14, knownP), (24, joinPrim)]
  fns := tabF [(9, .alone, N9), (10, .alone, N10), (12, .alone, N12), (13, .alone, N13), (20, .alone, N20), (21, .alone, N21), (23, .alone, N23), (28, .alone, N28)]
  gl := gl

theorem kidsEnv_ok : SEnvOk kidsEnv where
  prim := tabP_ok ⟨known_prim, known4_prim, join_ok Try.strings_Join_none Try.strings_Join, trivial⟩
  fns := tabF_ok ⟨N9_ok, N10_ok, N12_ok, N13_ok, N20_ok, N21_ok, N23_ok, N28_ok, trivial⟩

theorem has : HasPrint kidsEnv := ⟨⟨⟨rfl, rfl, rfl, rfl, rfl, rfl, rfl, rfl, rfl⟩, rfl, rfl⟩, rfl, rfl, rfl, rfl, rfl, rfl⟩

theorem ran (ss : List ByteArray) : scall kidsEnv (300000005 + 1) 9 [.isl 1 false (ss.map fun s => .lit (.string s))] [] = some (.lit (.bool true), []) := by
  have hP : PrintOk (scall kidsEnv 300000005) 300000000 := (show 4 + 300000000 + 1 = 300000005 from rfl) ▸ has.print 4 300000000
  have hC : ParseCall (scall kidsEnv 300000005) := (show 300000000 + 5 = 300000005 from rfl) ▸ has.parse 300000000
  have hk : ∀ h, scall kidsEnv 300000005 14 [] h = some (.lit (.bool true), h) := (show 300000004 + 1 = 300000005 from rfl) ▸ has.known 300000004
  obtain ⟨h', h1⟩ := F9_ok hC hP hk (f := false) (ss.map fun s => s.data.toList) []
  have e : (ss.map fun s => s.data.toList).map strAV = ss.map fun s => .lit (.string s) := by rw [List.map_map]; rfl
  rw [e] at h1
  exact alone_call (E := kidsEnv) (f := 9) (F := N9) rfl rfl (by simp [snaps, snap1, snapCell, freeCell]) h1 ⟨[], rfl⟩

theorem own : ownKnob Try.prog.godebug = none := by kernel_rfl
theorem laidOut : laidOutB Try.prog = true := by kernel_rfl
theorem cells9 : Try.prog.cellsOf 9 = 1 := by kernel_rfl

theorem walk (ss : List ByteArray) (a0 : Option Addr) (cap : Nat) (w : World) (hc : ss.length ≤ cap)
    (ha : ss ≠ [] → ∃ b o, a0 = some ⟨b, o, none⟩ ∧ ∀ i, i < ss.length → w.cell? ⟨b, o + i, none⟩ = some (.string (ss.getD i ByteArray.empty))) :
    Calls Try.prog 9 #[.slice a0 ss.length cap] w fun e w' => e = .returned (.bool true) ∧ Below w.heap.size w w' := by
  refine scall_vds kidsEnv_ok (I := fun b o => ∃ b' o', a0 = some ⟨b', o', none⟩ ∧ b = b' ∧ o' ≤ o ∧ o < o' + ss.length) (ran ss) w ?_ (GlobV.leaf _ _ _) rfl ?_
  · rintro b o ⟨b', o', h1, rfl, h2, h3⟩
    obtain ⟨b2, o2, h4, h5⟩ := ha (fun e => by subst e; simp at h3; omega)
    rw [h1] at h4
    cases h4
    have := h5 (o - o') (by omega)
    rw [show o' + (o - o') = o by omega] at this
    exact ⟨_, this⟩
  · intro i c v h1 h2
    match i with
    | 0 =>
      simp at h1 h2
      subst h1; subst h2
      have hl : (ss.map fun s => AV.lit (.string s)).length = ss.length := List.length_map _
      rw [← hl]
      refine .isl (fun i _ => .string (ss.getD i ByteArray.empty)) (by rw [hl]; exact hc) (by simp) ?_ ?_ ?_ ?_
      · intro i e he
        rw [List.getElem?_map] at he
        cases hs : ss[i]? with
        | none => rw [hs] at he; cases he
        | some s => rw [hs] at he; cases he; exact ⟨rfl, by decide⟩
      · intro hne
        obtain ⟨b, o, h3, h4⟩ := ha (fun e => hne (by rw [e]; rfl))
        refine ⟨b, o, h3, fun i j hi hj => ?_⟩
        have hj0 : j = 0 := by omega
        subst hj0
        rw [hl] at hi
        simp only [Nat.mul_one, Nat.add_zero]
        exact ⟨⟨b, o, h3, rfl, by omega, by omega⟩, h4 i hi⟩
      · intro i e j c he hcc
        rw [List.getElem?_map] at he
        cases hs : ss[i]? with
        | none => rw [hs] at he; cases he
        | some s =>
          rw [hs] at he; cases he
          match j, hcc with
          | 0, hcc => cases hcc; rfl
      · intro i e j c he hcc
        rw [List.getElem?_map] at he
        cases hs : ss[i]? with
        | none => rw [hs] at he; cases he
        | some s =>
          rw [hs] at he; cases he
          match j, hcc with
          | 0, hcc =>
            cases hcc
            have : ss.getD i ByteArray.empty = s := by rw [List.getD, hs]; rfl
            rw [this]
            exact .lit rfl
    | i + 1 => simp at h1

set_option maxRecDepth 100000 in
theorem lifted (os : Os) (started : os.Started) (H : Type) (enc : TypeId × Value → H) :
    ReturnsInHanded {} Try.checked os 9 .any (Rows.treeKidsSpec.pre6 enc Try.prog Try.f9 Rows.treeKidsRow.domain false) (Rows.treeKidsSpec.post enc Try.prog Try.f9 false true false false) := by
  refine returnsInHanded_of_change (C := Try.checked) own started (by kernel_rfl) Try.func9
    (ChangeSpec.witness6 (enc := enc) (C := Try.checked) false ⟨#[], #[.slice none 0 0], []⟩ 8 (by kernel_rfl) (by kernel_rfl) (by kernel_rfl) (by kernel_rfl)) ?_
  intro W base args ds gs before hval0 hW hcnd _
  have hval : ∀ (j : Nat) t v, Try.f9.params[j]? = some t → args[j]? = some v → Value.okWide Try.prog W .any base t v := hval0
  have hW' := hW
  obtain ⟨p, q, hA0, hV, rfl, hfz, hnd⟩ := hW
  have hA : DataW.TrodAll enc Try.prog W 0 (fun _ => true) true Try.f9.params.toList args.toList ds p := hA0
  rw [Try.params9] at hA hval
  obtain ⟨v0, d0, rfl, rfl, h0⟩ := trodAll_one hA
  obtain ⟨rfl, rfl⟩ := trodVars_none hV
  obtain ⟨a0, len, cap, rfl⟩ := okWide_slice Try.underlying30 (hval 0 30 v0 rfl rfl)
  have h0k := h0
  obtain ⟨fuel, hf⟩ := h0
  clear hA0 hval0
  simp only [List.append_nil] at hW'
  have hlt : ∀ x ∈ p, x.block < W.heap.size := fun x hx => by simpa using hW'.lt x hx
  have fin : ∀ W', Below W.heap.size W W' → Rows.treeKidsSpec.post enc Try.checked.prog Try.f9 false true false false W #[.slice a0 len cap] (.bool true) W' := by
    intro W' hg
    exact post_of_below (pa := p) (pv := []) hW' (fun _ _ _ => (trodAll_cons_mk (shut_bool Try.underlying4 _) trodAll_mk0))
      (fun sp hsp => trodAll_mk1 (WideElems.Trod_stays laidOut (by kernel_rfl) (of_decide_eq_true (by kernel_rfl)) h0k (fun x hx => hg.same (hlt x hx)) (fun x hx => hsp x hx))) (fun _ _ => rfl) (by simp)
      hg (ok_one (by kernel_rfl) rfl (okWide_bool_mk Try.underlying4 _))
  rcases open_strings Try.underlying30 Try.underlying9 cells9 hf with ⟨hcs, hx⟩ | ⟨a, len', cap', ss, hcs, _, hl, hm, hz, hx, hcell, hws⟩
  · simp [Value.cells] at hcs
    obtain ⟨rfl, rfl, rfl⟩ := hcs
    refine (walk [] none 0 W (Nat.le_refl _) (fun h => absurd rfl h)).mono fun e W' ⟨he, hg⟩ => ?_
    subst he
    exact ⟨_, rfl, fin W' hg⟩
  · simp [Value.cells] at hcs
    obtain ⟨rfl, rfl, rfl⟩ := hcs
    simp only [if_true] at hz
    have hlen : (ss.take len).length = len := by rw [List.length_take]; omega
    have hgo := walk (ss.take len) (some a) cap W (by omega) (fun hne => by
      obtain ⟨b, off, spot⟩ := a
      have h0l : 0 < ss.length := by
        cases ss with
        | nil => simp at hne
        | cons _ _ => simp
      have hspot : spot = none := by simpa [Addr.add] using World.cell?_spot (hcell 0 h0l)
      subst hspot
      refine ⟨b, off, rfl, fun i hi => ?_⟩
      have hi2 : i < len := by omega
      have h1 := hcell i (by omega)
      have h2 : Addr.add ⟨b, off, none⟩ i = ⟨b, off + i, none⟩ := by
        unfold Addr.add
        split
        · rename_i h; subst h; rfl
        · rfl
      rw [h2] at h1
      rw [h1]
      congr 2
      rw [List.getD, List.getD, List.getElem?_take, if_pos hi2])
    rw [hlen] at hgo
    refine hgo.mono fun e W' ⟨he, hg⟩ => ?_
    subst he
    exact ⟨_, rfl, fin W' hg⟩

theorem over : Rows.treeKidsRow.holds Try.pinned (OpenSpec.ofChange Rows.treeKidsSpec) :=
  OpenClaim.holds_of_wide 9 Try.f9 rfl rfl rfl rfl rfl rfl rfl ⟨rfl, rfl, rfl, rfl, rfl⟩ rfl rfl rfl rfl rfl (by kernel_rfl) Try.func9 (by kernel_rfl)
    (of_decide_eq_true (by kernel_rfl)) (by unfold Func.isWrapper; first | (rw [if_pos (by decide +kernel)]; kernel_rfl) | (rw [if_neg (by decide +kernel)]; exact ⟨rfl, rfl⟩))
    (fun os started H enc _ => lifted os started H enc)

theorem proved : Rows.TreeKidsSaid :=
  over
#print axioms proved
end Go.Proofs.Ytcajleckiegffaa.treeKids
