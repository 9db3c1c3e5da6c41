import Derived.Test.YtkkjoomlfmofbaaGreatDoorAmN
set_option linter.unusedSimpArgs false
set_option linter.unusedVariables false
set_option linter.unusedSectionVars false
/-! Calls that have been run once, as a table. -/
namespace Go.Am

variable {P : Program} {T : Tr}

theorem V.deep_nil [Nu] {g : Gh} {w : World} {a : AV} {v : Value} (hv : V g [] w a v) : VD g.I w a v := by
  generalize hh : ([] : Heap) = h at hv
  induction hv with
  | deep hd => exact hd
  | agg hl _ ih => exact .agg hl fun i c v h1 h2 => ih i c v h1 h2
  | tup hl _ ih => exact .tup hl fun i c v h1 h2 => ih i c v h1 h2
  | fn hx hy _ _ i1 i2 => exact .fn hx hy (fun i c v h1 h2 => i1 i c v h1 h2) (fun i c v h1 h2 => i2 i c v h1 h2)
  | iface _ ih => exact .iface ih
  | sl hid => subst hh; simp at hid
  | ptr hid => subst hh; simp at hid
  | map hid => subst hh; simp at hid

def tableP : List (List AV × AV) → List AV → Option AV
  | [], _ => none
  | (a, r) :: t, args => bif all2 (same 64) args a then some r else tableP t args

theorem tableP_spec : ∀ {t : List (List AV × AV)} {args : List AV} {r : AV}, tableP t args = some r → (args, r) ∈ t
  | [], _, _, h => by cases h
  | (a, r') :: t, args, r, h => by
    simp only [tableP] at h
    cases hb : all2 (same 64) args a with
    | true =>
      rw [hb] at h
      cases h
      rw [all2_eq (same_eq 64) hb]
      exact List.mem_cons_self
    | false =>
      rw [hb] at h
      exact List.mem_cons_of_mem _ (tableP_spec h)

theorem table_ok [Nu] {E : Env} (ok : EnvOk E) {n : Nat} {f : FuncId} {t : List (List AV × AV)} (ht : ∀ x ∈ t, acall E n f x.1 [] = some (x.2, [])) : PrimOk E.P E.gl f (tableP t) := by
  intro args r hp I w vs hgl hlen hv hI
  have hc := ht _ (tableP_spec hp)
  refine (acall_ok ok n f args [] r [] hc ⟨fun _ => (0, 0), I⟩ w vs (R.nil _ hI) hgl hlen fun i c v h1 h2 => .deep (hv i c v h1 h2)).mono ?_
  rintro e w' ⟨v, g', rfl, hvv, hp, hR⟩
  refine ⟨v, g'.I, rfl, hvv.deep_nil, hp.size, fun b hb => hp.frame b hb fun id ha => ?_, hp.os, hp.tape, hp.output, fun b o hi => ?_⟩
  · have := ha.lt; simp at this
  · rcases hp.immNew b o hi with h | h | ⟨j, hj, _⟩
    · exact .inl h
    · exact .inr ⟨h, (hR.imm b o hi).1⟩
    · have := hj.lt; simp at this

def isR (x : Option (AV × Heap)) (r : AV) : Bool :=
  match x with
  | some (v, []) => same 64 v r
  | _ => false

theorem isR_spec {x : Option (AV × Heap)} {r : AV} (h : isR x r = true) : x = some (r, []) := by
  unfold isR at h
  split at h
  · rw [same_eq _ _ _ h]
  · cases h

/-- The same, with more functions told by tables. -/
def Env.withP (E : Env) (f : FuncId) (p : List AV → Option AV) : Env := { E with prim := fun g => bif Nat.beq g f then some p else E.prim g }

theorem EnvOk.withP [Nu] {E : Env} (ok : EnvOk E) {f : FuncId} {p : List AV → Option AV} (hp : PrimOk E.P E.gl f p) : EnvOk (E.withP f p) where
  names := ok.names
  reg := ok.reg
  low := ok.low
  prim := fun g q h => by
    simp only [Env.withP] at h
    cases hb : Nat.beq g f with
    | true =>
      rw [hb] at h
      cases h
      rw [Nat.eq_of_beq_eq_true hb]
      exact hp
    | false =>
      rw [hb] at h
      exact ok.prim g q h

end Go.Am
