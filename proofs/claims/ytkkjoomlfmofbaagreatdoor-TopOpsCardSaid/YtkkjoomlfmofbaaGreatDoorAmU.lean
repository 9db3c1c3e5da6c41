import Derived.Test.YtkkjoomlfmofbaaGreatDoorAmW
set_option linter.unusedSimpArgs false
set_option linter.unusedVariables false
set_option linter.unusedSectionVars false
/-! Symbols written out: a call that was run with symbols, told of the numbers for which they stand. -/
namespace Go.Am

/-- Symbols written out. -/
def des [Nu] : Nat → AV → AV
  | 0, a => a
  | k + 1, a => match a with
    | .sym n => .lit (Nu.val n)
    | .agg l => .agg (l.map (des k))
    | .tup l => .tup (l.map (des k))
    | .isl sz f l => .isl sz f (l.map (des k))
    | .iface t a => .iface t (des k a)
    | a => a

theorem okCell_des [Nu] : ∀ (k : Nat) (a : AV), okCell (des k a) = okCell a
  | 0, _ => rfl
  | k + 1, a => by cases a <;> rfl

theorem cells_des [Nu] : ∀ (k : Nat) (a : AV), ∃ j, j ≤ k ∧ cellsOf (des k a) = (cellsOf a).map (des j)
  | 0, a => ⟨0, Nat.le_refl _, by
    have : (des 0 : AV → AV) = id := rfl
    rw [this, List.map_id]; rfl⟩
  | k + 1, a => by
    cases a with
    | agg l => exact ⟨k, Nat.le_succ k, rfl⟩
    | _ => exact ⟨k + 1, Nat.le_refl _, rfl⟩

theorem des_vd [Nu] {I : Nat → Nat → Prop} {w : World} : ∀ (m k : Nat), k ≤ m → ∀ (a : AV) (v : Value), VD I w (des k a) v ↔ VD I w a v
  | m, 0, _, a, v => Iff.rfl
  | 0, k + 1, h, _, _ => absurd h (by omega)
  | m + 1, k + 1, hk, a, v => by
    have ih := des_vd (I := I) (w := w) m
    have get : ∀ {l : List AV} {j i : Nat} {c : AV}, l[i]? = some c → (l.map (des j))[i]? = some (des j c) := by
      intro l j i c h; rw [List.getElem?_map, h]; rfl
    have got : ∀ {l : List AV} {j i : Nat} {c : AV}, (l.map (des j))[i]? = some c → ∃ c0, l[i]? = some c0 ∧ c = des j c0 := by
      intro l j i c h
      rw [List.getElem?_map] at h
      cases hl : l[i]? with
      | none => rw [hl] at h; cases h
      | some x => rw [hl] at h; cases h; exact ⟨x, rfl, rfl⟩
    cases a with
    | sym n =>
      constructor
      · intro h
        have : v = Nu.val n := by
          have h' : VD I w (.lit (Nu.val n)) v := h
          cases h'; rfl
        subst this
        exact .sym
      · intro h
        cases h
        exact .lit rfl
    | agg l =>
      constructor
      · intro h
        have h' : VD I w (.agg (l.map (des k))) v := h
        cases h' with
        | agg hl hh => exact .agg (by rw [← hl, List.length_map]) fun i c v hc hv => (ih k (by omega) c v).1 (hh i _ v (get hc) hv)
      · intro h
        cases h with
        | agg hl hh =>
          refine VD.agg (cs := l.map (des k)) (by rw [List.length_map]; exact hl) fun i c v hc hv => ?_
          obtain ⟨c0, h0, rfl⟩ := got hc
          exact (ih k (by omega) c0 v).2 (hh i c0 v h0 hv)
    | tup l =>
      constructor
      · intro h
        have h' : VD I w (.tup (l.map (des k))) v := h
        cases h' with
        | tup hl hh => exact .tup (by rw [← hl, List.length_map]) fun i c v hc hv => (ih k (by omega) c v).1 (hh i _ v (get hc) hv)
      · intro h
        cases h with
        | tup hl hh =>
          refine VD.tup (cs := l.map (des k)) (by rw [List.length_map]; exact hl) fun i c v hc hv => ?_
          obtain ⟨c0, h0, rfl⟩ := got hc
          exact (ih k (by omega) c0 v).2 (hh i c0 v h0 hv)
    | isl sz f l =>
      constructor
      · intro h
        have h' : VD I w (.isl sz f (l.map (des k))) v := h
        cases h' with
        | @isl _ _ _ a cap u hc hf hs ha hok hh =>
          rw [List.length_map] at *
          refine .isl u hc hf (fun i e he => ?_) (fun hn => ?_) (fun i e j c he hj => ?_) (fun i e j c he hj => ?_)
          · obtain ⟨h1, h2⟩ := hs i _ (get he)
            obtain ⟨q, _, hq⟩ := cells_des k e
            rw [hq, List.length_map] at h1
            exact ⟨h1, h2⟩
          · exact ha (by simpa using hn)
          · obtain ⟨q, _, hq⟩ := cells_des k e
            have := hok i _ j (des q c) (get he) (by rw [hq]; exact get hj)
            rwa [okCell_des] at this
          · obtain ⟨q, hqk, hq⟩ := cells_des k e
            exact (ih q (by omega) c _).1 (hh i _ j (des q c) (get he) (by rw [hq]; exact get hj))
      · intro h
        cases h with
        | @isl _ _ _ a cap u hc hf hs ha hok hh =>
          have e : (l.map (des k)).length = l.length := List.length_map ..
          show VD I w (.isl sz f (l.map (des k))) (.slice a l.length cap)
          rw [← e]
          refine .isl u (by rw [e]; exact hc) (by rw [e]; exact hf) (fun i x he => ?_) (fun hn => ?_) (fun i x j c he hj => ?_) (fun i x j c he hj => ?_)
          · obtain ⟨x0, h0, rfl⟩ := got he
            obtain ⟨q, _, hq⟩ := cells_des k x0
            rw [hq, List.length_map]
            exact hs i x0 h0
          · rw [e]; exact ha (by intro hl; rw [hl] at hn; exact hn rfl)
          · obtain ⟨x0, h0, rfl⟩ := got he
            obtain ⟨q, _, hq⟩ := cells_des k x0
            rw [hq] at hj
            obtain ⟨c0, h1, rfl⟩ := got hj
            rw [okCell_des]
            exact hok i x0 j c0 h0 h1
          · obtain ⟨x0, h0, rfl⟩ := got he
            obtain ⟨q, hqk, hq⟩ := cells_des k x0
            rw [hq] at hj
            obtain ⟨c0, h1, rfl⟩ := got hj
            exact (ih q (by omega) c0 _).2 (hh i x0 j c0 h0 h1)
    | iface t a =>
      constructor
      · intro h
        have h' : VD I w (.iface t (des k a)) v := h
        cases h' with
        | iface h0 => exact .iface ((ih k (by omega) a _).1 h0)
      · intro h
        cases h with
        | iface h0 => exact VD.iface ((ih k (by omega) a _).2 h0)
    | _ => exact Iff.rfl

open Classical in
/-- Calls that have been run once with symbols, as a table of the numbers for which they stand. -/
noncomputable def symP [Nu] : List (List AV × AV) → List AV → Option AV
  | [], _ => none
  | (a, r) :: t, args => if args = a.map (des 64) then some (des 64 r) else symP t args

theorem symP_spec [Nu] : ∀ {t : List (List AV × AV)} {args : List AV} {r : AV}, symP t args = some r → ∃ x ∈ t, args = x.1.map (des 64) ∧ r = des 64 x.2
  | [], _, _, h => by cases h
  | (a, r') :: t, args, r, h => by
    simp only [symP] at h
    split at h
    · rename_i ha
      cases h
      exact ⟨_, List.mem_cons_self .., ha, rfl⟩
    · obtain ⟨x, hx, h1⟩ := symP_spec h
      exact ⟨x, List.mem_cons_of_mem _ hx, h1⟩

theorem sym_ok [Nu] {E : SEnv} (ok : SEnvOk E) {n : Nat} {f : FuncId} {t : List (List AV × AV)} (ht : ∀ x ∈ t, scall E n f x.1 [] = some (x.2, [])) : PrimOk E.P E.gl f (symP t) := by
  intro args r hp I w vs hgl hlen hv hI
  obtain ⟨x, hx, rfl, rfl⟩ := symP_spec hp
  have hc := ht _ hx
  rw [List.length_map] at hlen
  refine (scall_ok ok n f x.1 [] x.2 [] hc ⟨fun _ => (0, 0), I⟩ w vs (R.nil _ hI) hgl hlen fun i c v h1 h2 => .deep ((des_vd 64 64 (Nat.le_refl _) c v).1 (hv i _ v (by rw [List.getElem?_map, h1]; rfl) h2))).mono ?_
  rintro e w' ⟨v, g', rfl, hvv, hp, hR⟩
  refine ⟨v, g'.I, rfl, (des_vd 64 64 (Nat.le_refl _) _ _).2 hvv.deep_nil, hp.size, fun b hb => hp.frame b hb fun id ha => ?_, hp.os, hp.tape, hp.output, fun b o hi => ?_⟩
  · have := ha.lt; simp at this
  · rcases hp.immNew b o hi with h | h | ⟨j, hj, _⟩
    · exact .inl h
    · exact .inr ⟨h, (hR.imm b o hi).1⟩
    · have := hj.lt; simp at this

/-- A table of symbols, by what the calls answer of the numbers for which they stand. -/
theorem des_table_ok [Nu] {E : SEnv} (ok : SEnvOk E) {n : Nat} {f : FuncId} {t : List (List AV × AV)} (ht : ∀ x ∈ t, scall E n f (x.1.map (des 64)) [] = some (des 64 x.2, [])) : PrimOk E.P E.gl f (tableP t) := by
  intro args r hp I w vs hgl hlen hv hI
  have hc := ht _ (tableP_spec hp)
  refine (scall_ok ok n f _ [] _ [] hc ⟨fun _ => (0, 0), I⟩ w vs (R.nil _ hI) hgl (by rw [List.length_map]; exact hlen) fun i c v h1 h2 => ?_).mono ?_
  · rw [List.getElem?_map] at h1
    cases hx : args[i]? with
    | none => rw [hx] at h1; cases h1
    | some c0 =>
      rw [hx] at h1
      cases h1
      exact .deep ((des_vd 64 64 (Nat.le_refl _) c0 v).2 (hv i c0 v hx h2))
  rintro e w' ⟨v, g', rfl, hvv, hp, hR⟩
  refine ⟨v, g'.I, rfl, (des_vd 64 64 (Nat.le_refl _) _ _).1 hvv.deep_nil, hp.size, fun b hb => hp.frame b hb fun id ha => ?_, hp.os, hp.tape, hp.output, fun b o hi => ?_⟩
  · have := ha.lt; simp at this
  · rcases hp.immNew b o hi with h | h | ⟨j, hj, _⟩
    · exact .inl h
    · exact .inr ⟨h, (hR.imm b o hi).1⟩
    · have := hj.lt; simp at this

/-- A call as a function of its arguments alone. -/
noncomputable def runP (E : SEnv) (n : Nat) (f : FuncId) (args : List AV) : Option AV :=
  match scall E n f args [] with
  | some (r, []) => some r
  | _ => none

theorem runP_ok [Nu] {E : SEnv} (ok : SEnvOk E) {n : Nat} {f : FuncId} : PrimOk E.P E.gl f (runP E n f) := by
  intro args r hp
  have hc : scall E n f args [] = some (r, []) := by
    unfold runP at hp
    split at hp
    · rename_i h; cases hp; exact h
    · cases hp
  intro I w vs hgl hlen hv hI
  refine (scall_ok ok n f args [] r [] hc ⟨fun _ => (0, 0), I⟩ w vs (R.nil _ hI) hgl hlen fun i c v h1 h2 => .deep (hv i c v h1 h2)).mono ?_
  rintro e w' ⟨v, g', rfl, hvv, hp, hR⟩
  refine ⟨v, g'.I, rfl, hvv.deep_nil, hp.size, fun b hb => hp.frame b hb fun id ha => ?_, hp.os, hp.tape, hp.output, fun b o hi => ?_⟩
  · have := ha.lt; simp at this
  · rcases hp.immNew b o hi with h | h | ⟨j, hj, _⟩
    · exact .inl h
    · exact .inr ⟨h, (hR.imm b o hi).1⟩
    · have := hj.lt; simp at this

/-- One table, and where it tells nothing another one. -/
def orP (p q : List AV → Option AV) (args : List AV) : Option AV :=
  match p args with
  | some r => some r
  | none => q args

theorem orP_ok [Nu] {P : Program} {T : Tr} {f : FuncId} {p q : List AV → Option AV} (hp : PrimOk P T f p) (hq : PrimOk P T f q) : PrimOk P T f (orP p q) := by
  intro args r h
  unfold orP at h
  split at h
  · rename_i hh; cases h; exact hp args _ hh
  · exact hq args r h

end Go.Am
