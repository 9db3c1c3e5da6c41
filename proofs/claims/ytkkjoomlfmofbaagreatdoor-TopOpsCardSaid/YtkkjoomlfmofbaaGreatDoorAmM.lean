import Derived.Test.YtkkjoomlfmofbaaGreatDoorAmL
import Derived.Below
import Derived.ChangeSame
import Derived.RowKit3
set_option linter.unusedSimpArgs false
set_option linter.unusedVariables false
set_option linter.unusedSectionVars false
/-! From the abstract machine to a row. -/
namespace Go.Am
open Go.RowKit

variable {P : Program} {T : Tr}

theorem R.empty [Nu] (g : Gh) (w : World) (hI : ∀ b o, ¬ g.I b o) : R g [] w where
  arr := fun id A h => by simp at h
  map := fun id es k h => by simp at h
  siter := fun id x h => by simp at h
  inj := fun i j h => by have := h.lt; simp at this
  imm := fun b o h => absurd h (hI b o)

/-- What a call leaves that was handed no memory of its own. -/
theorem Post.below {g g' : Gh} {h' : Heap} {w w' : World} (p : Post g [] w g' h' w') : Below w.heap.size w w' :=
  ⟨p.os, p.tape, p.output, p.size, fun k hk => p.frame k hk fun id ha => by have := ha.lt; simp at this⟩

theorem V.lit_eq [Nu] {g : Gh} {h : Heap} {w : World} {v u : Value} (hv : V g h w (.lit v) u) : u = v := by
  cases hv with
  | deep hd => cases hd with
    | lit _ => rfl

/-- A call whose arguments are plain values. -/
theorem call_lits [Nu] {E : Env} (ok : EnvOk E) {n : Nat} {f : FuncId} {args : List Value} (hargs : ∀ v ∈ args, isAggV v = false) {I : Nat → Nat → Prop} {r : Value} {h' : Heap}
    (hc : acall E n f (args.map .lit) [] = some (.lit r, h')) (w : World) (hI : ∀ b o, I b o → ∃ u, w.cell? ⟨b, o, none⟩ = some u) (hgl : GlobV E.gl ⟨fun _ => (0, 0), I⟩ [] w) : Calls E.P f args.toArray w fun e w' => e = .returned r ∧ Below w.heap.size w w' := by
  refine (acall_ok ok n f _ [] _ _ hc ⟨fun _ => (0, 0), I⟩ w args.toArray (R.nil _ hI) hgl (by simp) ?_).mono ?_
  · intro i c v hc hv
    rw [List.getElem?_map] at hc
    simp only [List.getElem?_toArray] at hv
    rw [hv] at hc
    cases hc
    exact .deep (.lit (hargs v (List.mem_of_getElem? hv)))
  · rintro e w' ⟨v, g', rfl, hv, hp, hr⟩
    exact ⟨by rw [hv.lit_eq], hp.below⟩

/-- Where no table is told. -/
theorem GlobV.leaf [Nu] (g : Gh) (h : Heap) (w : World) : GlobV .leaf g h w := ⟨fun k => .lit rfl, fun k hk => by cases hk⟩

end Go.Am

namespace Go.RowKit
open Go.ChangeShapes
variable {P : Program} {H : Type} {enc : TypeId × Value → H}

theorem post_of_below {f : Func} {s : ChangeSpec} {apart fresh handsOn again : Bool} {W W' : World} {args : Array Value} {v : Value} {ds gs : List (DataW H)} {before pa pv : List MemPlace}
    (hW : DataW.Whole enc P f.params.toList s.vars apart W args.toList ds gs before)
    (hres : ∀ (b : Nat) (sp : Nat → Bool) (hd : Bool), DataW.TrodAll enc P W' b sp hd f.resultTypes.toList (v.resultList f.resultTypes.size) (s.fn H (ds ++ gs)).results [])
    (hargs : ∀ sp : Nat → Bool, (∀ p ∈ before, sp p.block = true) → DataW.TrodAll enc P W' 0 sp true f.params.toList args.toList (s.fn H (ds ++ gs)).args pa)
    (hvars : ∀ sp : Nat → Bool, (∀ p ∈ before, sp p.block = true) → DataW.TrodVars enc P W' sp s.vars (s.fn H (ds ++ gs)).vars pv)
    (hps : before = pa ++ pv) (hb : Below W.heap.size W W')
    (hok : ∀ (j : Nat) (t : TypeId) (r : Value), f.resultTypes[j]? = some t → (v.resultList f.resultTypes.size)[j]? = some r → Value.okWide P W' .any 0 t r) :
    s.post enc P f apart fresh handsOn again W args v W' := by
  have hlt := hW.lt
  have hold : ∀ p ∈ before, (fun b => decide (b < W.heap.size)) p.block = true := fun p hp => by simpa using hW.lt p hp
  refine ⟨ds, gs, before, [], pa, pv, hW, hres _ _ _, hargs _ hold, hvars _ hold, hb.frame _, fun _ => ?_⟩
  obtain ⟨_, _, _, _, _, hz, hn⟩ := hW
  refine ⟨hok, _, _, ([] ++ pa) ++ pv, ⟨[] ++ pa, pv, trodAll_append (hargs _ (fun _ _ => rfl)) (hres _ _ _), hvars _ (fun _ _ => rfl), rfl, ?_, ?_⟩, ?_⟩
  · intro b off hp
    have hp' : MemPlace.cell b off ∈ before := by rw [hps]; simpa using hp
    rw [hb.frozen (p := ⟨b, off, none⟩) (hlt _ hp')]
    exact hz b off hp'
  · intro ha
    have := hn ha
    rw [hps] at this
    simpa using this
  · intro p hp _
    rw [hps]
    simpa using hp

end Go.RowKit
