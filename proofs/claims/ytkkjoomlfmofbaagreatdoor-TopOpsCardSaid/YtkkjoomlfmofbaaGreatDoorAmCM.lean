import Derived.Test.YtkkjoomlfmofbaaGreatDoorAmC
import Derived.MapKept
set_option linter.unusedSectionVars false
/-! Maps, and texts that are gone through rune by rune. -/
namespace Go.Am
set_option linter.unusedSimpArgs false
set_option linter.unusedVariables false

variable {P : Program} {g : Gh} {h : Heap} {w : World}

def turned (w : World) (b : Nat) (x : Obj) : World := { w with heap := w.heap.setIfInBounds b x }

/-- A map or an iterator turned in place. -/
theorem set_obj [Nu] (r : R g h w) {id : Nat} {o0 o : AObj} {x : Obj} (h0 : h[id]? = some o0) (hd0 : o0.isDead = false) (hn0 : ∀ A, o0 ≠ .arr A) (hn : ∀ A, o ≠ .arr A)
    (hkM : ∀ es k, o = .map es k → ∃ es0 k0, o0 = .map es0 k0) (hkS : ∀ y, o = .siter y → ∃ y0, o0 = .siter y0)
    (hM : ∀ es k, o = .map es k → Ext g h w g (h.set id o) (turned w (g.μ id).1 x) → MapOk g (h.set id o) (turned w (g.μ id).1 x) id es k)
    (hS : ∀ y, o = .siter y → Ext g h w g (h.set id o) (turned w (g.μ id).1 x) → ItOk g (h.set id o) (turned w (g.μ id).1 x) y x) :
    Post g h w g (h.set id o) (turned w (g.μ id).1 x) ∧ R g (h.set id o) (turned w (g.μ id).1 x) := by
  have hlt : id < h.length := lt_of_get h0
  have ha0 : alive h id := ⟨o0, h0, hd0⟩
  have hbl := r.block_lt ha0
  have hne : ∀ b, b ≠ (g.μ id).1 → (turned w (g.μ id).1 x).heap[b]? = w.heap[b]? := fun b hb => Array.getElem?_setIfInBounds_ne (Ne.symm hb)
  have hat : (turned w (g.μ id).1 x).heap[(g.μ id).1]? = some x := by
    show (w.heap.setIfInBounds (g.μ id).1 x)[(g.μ id).1]? = some x
    rw [Array.getElem?_setIfInBounds_self_of_lt hbl]
  have hsz : (turned w (g.μ id).1 x).heap.size = w.heap.size := Array.size_setIfInBounds
  have hos : (turned w (g.μ id).1 x).os = w.os ∧ (turned w (g.μ id).1 x).tape = w.tape ∧ (turned w (g.μ id).1 x).output = w.output := ⟨rfl, rfl, rfl⟩
  generalize turned w (g.μ id).1 x = w' at *
  have hio : ∀ b i, g.I b i → b ≠ (g.μ id).1 := by
    intro b i hi he
    obtain ⟨A, a1, _⟩ := (r.imm b i hi).2 id ha0 he.symm
    rw [h0] at a1; cases a1
    exact hn0 A rfl
  have get : ∀ k, (h.set id o)[k]? = if k = id then some o else h[k]? := by
    intro k; rw [set_get]; by_cases hk : k = id <;> simp [hk, hlt]
  have al : ∀ k, alive (h.set id o) k → alive h k := by
    rintro k ⟨y, hy, hd⟩
    rw [get] at hy
    by_cases hk : k = id
    · subst hk; exact ha0
    · rw [if_neg hk] at hy; exact ⟨y, hy, hd⟩
  have hb : ∀ k, alive h k → k ≠ id → w'.heap[(g.μ k).1]? = w.heap[(g.μ k).1]? := fun k ha hk => hne _ fun he => hk (r.inj k id ha ha0 he)
  have e : Ext g h w g (h.set id o) w' := by
    refine ⟨fun b i hi => ⟨hi, cell_of_heap (hne _ (hio b i hi)) i⟩, by simp, fun k B _ hB => ?_, fun k es c _ hk => ?_, fun k y _ hk => ?_⟩
    · rw [get] at hB
      by_cases hk : k = id
      · rw [if_pos hk] at hB; cases hB; exact absurd rfl (hn B)
      · rw [if_neg hk] at hB
        exact ⟨B, hB, ⟨rfl, rfl⟩, rfl, shape_of_heap (hb k (alive_arr hB) hk)⟩
    · rw [get] at hk
      by_cases hkk : k = id
      · rw [if_pos hkk] at hk; cases hk
        obtain ⟨es0, k0, rfl⟩ := hkM es c rfl
        subst hkk
        exact ⟨es0, k0, h0, rfl⟩
      · rw [if_neg hkk] at hk; exact ⟨es, c, hk, rfl⟩
    · rw [get] at hk
      by_cases hkk : k = id
      · rw [if_pos hkk] at hk; cases hk
        obtain ⟨y0, rfl⟩ := hkS y rfl
        subst hkk
        exact ⟨y0, h0, rfl⟩
      · rw [if_neg hkk] at hk; exact ⟨y, hk, rfl⟩
  refine ⟨⟨e, by rw [hsz]; exact Nat.le_refl _, fun b _ hnn => hne b (fun he => hnn id ha0 he.symm), fun k ha => .inr ⟨k, al k ha, rfl⟩, fun _ _ hi => .inl hi, hos.1, hos.2.1, hos.2.2⟩, ?_⟩
  refine ⟨fun k B hB => ?_, fun k es c hk => ?_, fun k y hs => ?_, fun i j hi hj he => r.inj i j (al i hi) (al j hj) he, fun b i hi => ⟨?_, fun k ha he => ?_⟩⟩
  · rw [get] at hB
    by_cases hk : k = id
    · rw [if_pos hk] at hB; cases hB; exact absurd rfl (hn B)
    · rw [if_neg hk] at hB
      have hh := hb k (alive_arr hB) hk
      obtain ⟨h1, ⟨T, n, h2, h3, h4⟩, h5, h6, h7⟩ := r.arr k B hB
      refine ⟨h1, ⟨T, n, by rw [shape_of_heap hh]; exact h2, h3, fun o ho => by rw [frozen_of_heap hh]; exact h4 o ho⟩, h5, h6, fun i e' j y he hy => ?_⟩
      obtain ⟨u, hu, hv⟩ := h7 i e' j y he hy
      exact ⟨u, by rw [cell_of_heap hh]; exact hu, hv.ext e⟩
  · rw [get] at hk
    by_cases hkk : k = id
    · rw [if_pos hkk] at hk; cases hk
      subst hkk
      exact hM es c rfl e
    · rw [if_neg hkk] at hk
      obtain ⟨es', h1, h2, h3⟩ := (r.map k es c hk).it
      exact ⟨es', by rw [hb k (alive_map hk) hkk]; exact h1, h2, fun i y hy => by obtain ⟨e', a, b, c', d⟩ := h3 i y hy; exact ⟨e', a, b, c', d.ext e⟩⟩
  · rw [get] at hs
    by_cases hkk : k = id
    · rw [if_pos hkk] at hs; cases hs
      subst hkk
      exact ⟨x, hat, hS y rfl e⟩
    · rw [if_neg hkk] at hs
      obtain ⟨ob, q1, q2⟩ := r.siter k y hs
      exact ⟨ob, by rw [hb k (alive_siter hs) hkk]; exact q1, q2.ext e⟩
  · obtain ⟨u, hu⟩ := (r.imm b i hi).1
    exact ⟨u, by rw [cell_of_heap (hne _ (hio b i hi))]; exact hu⟩
  · obtain ⟨B, b1, b2, b3⟩ := (r.imm b i hi).2 k (al k ha) he
    have hk : k ≠ id := by rintro rfl; exact hio b i hi he.symm
    exact ⟨B, by rw [get, if_neg hk]; exact b1, b2, b3⟩

theorem turned_run {b : Nat} {x0 x : Obj} (hx : w.heap[b]? = some x0) (hc : ∀ c t f, x0 ≠ .cells c t f) : (setObj b x).run P w = .ok () (turned w b x) := by
  simp only [setObj, Sem.run, hx, turned]

theorem get_run {b : Nat} {x0 : Obj} (hx : w.heap[b]? = some x0) (hc : ∀ c t f, x0 ≠ .cells c t f) : (getObj b).run P w = .ok x0 w := by
  simp only [getObj, Sem.run, hx]

/-! ### A map's keys -/

theorem keySame_now {d : TypeDesc} {k e : Value} {b : Bool} (hd : (∃ q n, d = .int q ∧ k = .int q n) ∨ (∃ s, d = .string ∧ k = .string s) ∨ (∃ s, d = .bool ∧ k = .bool s)) (hs : keySame k e = some b) : Instr.sameNow d k e = some b := by
  rcases hd with ⟨q, n, rfl, rfl⟩ | ⟨s, rfl, rfl⟩ | ⟨s, rfl, rfl⟩
  · cases e <;> simp only [keySame] at hs <;> first | (cases hs; done) | skip
    rename_i q' m
    cases hq : Nat.beq (kindNo q) (kindNo q') with
    | false => rw [hq] at hs; cases hs
    | true =>
      rw [hq] at hs
      have := kindNo_inj hq
      subst this
      cases hs
      simp [Instr.sameNow]
  · cases e <;> simp only [keySame] at hs <;> first | (cases hs; done) | skip
    rename_i s'
    cases hs
    have e : (s == s') = (s.data == s'.data) := rfl
    simp only [Instr.sameNow, Option.some.injEq]
    rw [e, Bool.eq_iff_iff, beq_iff_eq, beq_iff_eq]
    exact ⟨fun hh => by rw [hh], fun hh => Array.ext' hh⟩
  · cases e <;> simp only [keySame] at hs <;> first | (cases hs; done) | skip
    cases hs; rfl

/-- The entries of a map, side by side. -/
def Ents [Nu] (g : Gh) (h : Heap) (w : World) (es : List (Value × AV × Nat)) (es' : List MapEntry) : Prop :=
  es'.length = es.length ∧ ∀ (i : Nat) (x : Value × AV × Nat), es[i]? = some x → ∃ e : MapEntry, es'[i]? = some e ∧ e.key = x.1 ∧ e.born = x.2.2 ∧ V g h w x.2.1 e.val

theorem find_now [Nu] {d : TypeDesc} {k : Value} (hd : (∃ q n, d = .int q ∧ k = .int q n) ∨ (∃ s, d = .string ∧ k = .string s) ∨ (∃ s, d = .bool ∧ k = .bool s)) :
    ∀ {es : List (Value × AV × Nat)} {es' : List MapEntry} {i : Nat} {r : Option (Nat × AV)}, Ents g h w es es' → findA k es i = some r →
      ∃ r', Instr.findNow d k es' i = some r' ∧ (match r, r' with
        | none, none => True
        | some (j, v), some (j', v') => j = j' ∧ V g h w v v' ∧ i ≤ j ∧ ∃ x, es[j - i]? = some x ∧ keySame k x.1 = some true
        | _, _ => False)
  | [], es', i, r, he, hf => by
    have : es' = [] := List.length_eq_zero_iff.1 he.1
    subst this
    cases hf
    exact ⟨none, rfl, trivial⟩
  | x :: es, [], i, r, he, hf => by have := he.1; simp at this
  | x :: es, e :: es', i, r, he, hf => by
    obtain ⟨e0, a1, a2, a3, a4⟩ := he.2 0 x rfl
    cases a1
    simp only [findA] at hf
    split at hf
    · rename_i hk
      cases hf
      refine ⟨some (i, e.val), ?_, rfl, a4, Nat.le_refl _, x, by simp, hk⟩
      unfold Instr.findNow
      rw [a2, keySame_now hd hk]
    · rename_i hk
      have he' : Ents g h w es es' := ⟨by have := he.1; simpa using this, fun j y hy => he.2 (j + 1) y (by simpa using hy)⟩
      obtain ⟨r', b1, b2⟩ := find_now hd he' hf
      refine ⟨r', ?_, ?_⟩
      · unfold Instr.findNow
        rw [a2, keySame_now hd hk]
        exact b1
      · cases r with
        | none => cases r' <;> exact b2
        | some p =>
          cases r' with
          | none => exact b2
          | some p' =>
            obtain ⟨c1, c2, c3, y, c4, c5⟩ := b2
            refine ⟨c1, c2, by omega, y, ?_, c5⟩
            rw [show p.1 - i = (p.1 - (i + 1)) + 1 by omega, List.getElem?_cons_succ]
            exact c4
    · cases hf

theorem intsSame_true : ∀ {x y : List Value}, intsSame x y = some true → y = x
  | [], [], _ => rfl
  | [], b :: y, h => by simp [intsSame] at h
  | a :: x, [], h => by cases a <;> simp [intsSame] at h
  | a :: x, b :: y, h => by
    cases a <;> cases b <;> simp only [intsSame] at h <;> first | (cases h; done) | skip
    rename_i k n k' n'
    cases hb : Nat.beq (kindNo k) (kindNo k') with
    | false => rw [hb] at h; cases h
    | true =>
      rw [hb] at h
      simp only [cond_true] at h
      split at h
      · rename_i r hr
        simp only [Option.some.injEq, Bool.and_eq_true, beq_iff_eq] at h
        obtain ⟨rfl, rfl⟩ := h
        rw [intsSame_true hr, kindNo_inj hb]
      · cases h

theorem intsSame_self : ∀ {x : List Value} {b : Bool}, intsSame x x = some b → b = true
  | [], b, h => by cases h; rfl
  | a :: x, b, h => by
    cases a <;> simp only [intsSame] at h <;> first | (cases h; done) | skip
    rw [Nat.beq_refl] at h
    simp only [cond_true] at h
    split at h
    · rename_i r hr
      simp only [Option.some.injEq, beq_self_eq_true, Bool.true_and] at h
      rw [← h]; exact intsSame_self hr
    · cases h

theorem keyLit_inv [Nu] {kt : TypeId} {x : AV} {k v : Value} (hv : V g h w x v) (hk : keyLit P kt x = some k) :
    v = k ∧ ((∃ d, P.underlying kt = some d ∧ ((∃ q n, d = .int q ∧ k = .int q n) ∨ (∃ s, d = .string ∧ k = .string s) ∨ (∃ s, d = .bool ∧ k = .bool s))) ∨
      ∃ n et l, P.underlying kt = some (.array n et) ∧ k = .agg l ∧ P.keyTypeAt 3 kt = true ∧ P.tiled 3 kt = true ∧ (keyOf P kt k).isSome = true) := by
  unfold keyLit at hk
  split at hk
  · rename_i q q' n hu
    cases hq : Nat.beq (kindNo q) (kindNo q') with
    | false => rw [hq] at hk; cases hk
    | true =>
      rw [hq] at hk
      have := kindNo_inj hq
      subst this
      cases hk
      exact ⟨hv.lit_inv, .inl ⟨_, hu, .inl ⟨_, _, rfl, rfl⟩⟩⟩
  · rename_i s hu
    cases hk
    exact ⟨hv.lit_inv, .inl ⟨_, hu, .inr (.inl ⟨_, rfl, rfl⟩)⟩⟩
  · rename_i s hu
    cases hk
    exact ⟨hv.lit_inv, .inl ⟨_, hu, .inr (.inr ⟨_, rfl, rfl⟩)⟩⟩
  · rename_i n et cs hu
    split at hk
    · rename_i l hm
      split at hk
      · rename_i hc
        cases hk
        simp only [Bool.and_eq_true] at hc
        have ht : toLit (.agg cs) = some (.agg l.toArray) := by simp only [toLit, hm]; rfl
        exact ⟨toLit_eq hv ht, .inr ⟨_, _, _, hu, rfl, hc.1.1, hc.1.2, hc.2⟩⟩
      · cases hk
    · cases hk
  · cases hk

theorem checkKey_run {kt : TypeId} {d : TypeDesc} {k : Value} (empty : Bool) (hu : P.underlying kt = some d) (hd : (∃ q n, d = .int q ∧ k = .int q n) ∨ (∃ s, d = .string ∧ k = .string s) ∨ (∃ s, d = .bool ∧ k = .bool s)) (w : World) :
    (Instr.checkKey empty 10000 kt k).run P w = .ok () w := by
  have e : (10000 : Nat) = 9999 + 1 := rfl
  rw [e]
  unfold Instr.checkKey
  rw [Sem.run_bind, run_underlying hu]
  simp only [Result.andThen_ok]
  rcases hd with ⟨q, n, rfl, rfl⟩ | ⟨s, rfl, rfl⟩ | ⟨s, rfl, rfl⟩ <;> rfl

theorem findKey_run {kt : TypeId} {d : TypeDesc} {k : Value} {es' : List MapEntry} {r : Option (Nat × Value)} (hu : P.underlying kt = some d) (hf : Instr.findNow d k es' 0 = some r) (w : World) : (Instr.findKey kt k es').run P w = .ok r w := by
  unfold Instr.findKey
  rw [Sem.run_bind, run_underlying hu]
  simp only [Result.andThen_ok, hf]
  rfl


theorem keySame_eq {k e : Value} (hs : keySame k e = some true) : e = k := by
  cases k <;> cases e <;> simp only [keySame] at hs <;> first | (cases hs; done) | skip
  all_goals first
    | (rename_i q a q' b
       cases hq : Nat.beq (kindNo q) (kindNo q') with
       | false => rw [hq] at hs; cases hs
       | true =>
         rw [hq] at hs
         have := kindNo_inj hq
         subst this
         simp at hs
         rw [hs])
    | (rename_i a b
       simp at hs
       rw [hs])
    | (rename_i a b
       simp only [Option.some.injEq, beq_iff_eq] at hs
       congr 1
       apply ByteArray.ext
       exact (Array.ext' hs).symm)
    | (rename_i a b
       congr 1
       exact Array.ext' (intsSame_true hs))

theorem sameBits_self {k : Value} {d : TypeDesc} (hd : (∃ q n, d = .int q ∧ k = .int q n) ∨ (∃ s, d = .string ∧ k = .string s) ∨ (∃ s, d = .bool ∧ k = .bool s)) : Instr.sameBits 10000 k k = true := by
  have e : (10000 : Nat) = 9999 + 1 := rfl
  rcases hd with ⟨q, n, rfl, rfl⟩ | ⟨s, rfl, rfl⟩ | ⟨s, rfl, rfl⟩
  · simp [Instr.sameBits]
  · have e2 : (s == s) = (s.data == s.data) := rfl
    simp [Instr.sameBits, e2]
  · simp [Instr.sameBits]

/-- What is found of a key. -/
def Found [Nu] (g : Gh) (h : Heap) (w : World) (es : List (Value × AV × Nat)) (k : Value) : Option (Nat × AV) → Option (Nat × Value) → Prop
  | none, none => True
  | some (j, v), some (j', v') => j = j' ∧ V g h w v v' ∧ ∃ x, es[j]? = some x ∧ x.1 = k
  | _, _ => False

theorem asking_ok [Nu] {kt : TypeId} {k : Value} (heq : ∀ (w : World) (y : Value), (keyOf P kt y).isSome = true → ∃ r : Bool, (Op.equal kt k y).run P w = .ok r w ∧ (r = true ↔ k = y)) (hk : ∃ a, k = .agg a) :
    ∀ {es : List (Value × AV × Nat)} {es' : List MapEntry} {i : Nat} {r : Option (Nat × AV)}, Ents g h w es es' → (es.all fun e => (keyOf P kt e.1).isSome) = true → findA k es i = some r →
      ∃ r', (∀ w', (Instr.findAsking kt k es' i).run P w' = .ok r' w') ∧ (match r, r' with
        | none, none => True
        | some (j, v), some (j', v') => j = j' ∧ V g h w v v' ∧ i ≤ j ∧ ∃ x, es[j - i]? = some x ∧ x.1 = k
        | _, _ => False)
  | [], es', i, r, he, ha, hf => by
    have : es' = [] := List.length_eq_zero_iff.1 he.1
    subst this
    cases hf
    exact ⟨none, fun _ => rfl, trivial⟩
  | x :: es, [], i, r, he, ha, hf => by have := he.1; simp at this
  | x :: es, e :: es', i, r, he, ha, hf => by
    obtain ⟨e0, a1, a2, a3, a4⟩ := he.2 0 x rfl
    cases a1
    simp only [List.all_cons, Bool.and_eq_true] at ha
    simp only [findA] at hf
    split at hf
    · rename_i hks
      cases hf
      refine ⟨some (i, e.val), fun w' => ?_, rfl, a4, Nat.le_refl _, x, by simp, keySame_eq hks⟩
      obtain ⟨b, hb, hiff⟩ := heq w' e.key (by rw [a2]; exact ha.1)
      have : b = true := hiff.2 (by rw [a2, keySame_eq hks])
      subst this
      simp [Instr.findAsking, hb]
    · rename_i hks
      have he' : Ents g h w es es' := ⟨by have := he.1; simpa using this, fun j y hy => he.2 (j + 1) y (by simpa using hy)⟩
      obtain ⟨r', b1, b2⟩ := asking_ok heq hk he' ha.2 hf
      refine ⟨r', fun w' => ?_, ?_⟩
      · obtain ⟨b, hb, hiff⟩ := heq w' e.key (by rw [a2]; exact ha.1)
        have : b = false := by
          cases b with
          | false => rfl
          | true =>
            exfalso
            have e3 := hiff.1 rfl
            rw [a2] at e3
            obtain ⟨a, rfl⟩ := hk
            rw [← e3] at hks
            simp only [keySame] at hks
            cases intsSame_self hks
        subst this
        simp [Instr.findAsking, hb, b1]
      · cases r with
        | none => cases r' <;> exact b2
        | some p =>
          cases r' with
          | none => exact b2
          | some p' =>
            obtain ⟨c1, c2, c3, y, c4, c5⟩ := b2
            refine ⟨c1, c2, by omega, y, ?_, c5⟩
            rw [show p.1 - i = (p.1 - (i + 1)) + 1 by omega, List.getElem?_cons_succ]
            exact c4
    · cases hf

structure KeyOk [Nu] (P : Program) (kt : TypeId) (k : Value) : Prop where
  check : ∀ (em : Bool) (w : World), (Instr.checkKey em 10000 kt k).run P w = .ok () w
  stays : ∀ w : World, (Instr.keyThatStays k k).run P w = .ok k w
  find : ∀ {g : Gh} {h : Heap} {w : World} {es : List (Value × AV × Nat)} {es' : List MapEntry} {r : Option (Nat × AV)}, Ents g h w es es' → findE P kt k es = some r →
    ∃ r', (∀ w', (Instr.findKey kt k es').run P w' = .ok r' w') ∧ Found g h w es k r r'

theorem keyLit_ok [Nu] {kt : TypeId} {x : AV} {k v : Value} (hv : V g h w x v) (hk : keyLit P kt x = some k) : v = k ∧ KeyOk P kt k := by
  obtain ⟨rfl, hc⟩ := keyLit_inv hv hk
  refine ⟨rfl, ?_⟩
  rcases hc with ⟨d, hu, hd⟩ | ⟨n, et, l, hu, rfl, k1, k2, k3⟩
  · refine ⟨fun em w => checkKey_run em hu hd w, fun w => ?_, fun {g h w es es' r} he hf => ?_⟩
    · unfold Instr.keyThatStays
      rw [if_pos (sameBits_self hd)]
      rfl
    · have hf' : findA v es 0 = some r := by
        unfold findE at hf
        split at hf
        · rcases hd with ⟨q, n, _, e⟩ | ⟨s, _, e⟩ | ⟨s, _, e⟩ <;> cases e
        · exact hf
      obtain ⟨r', b1, b2⟩ := find_now hd he hf'
      refine ⟨r', fun w' => findKey_run hu b1 w', ?_⟩
      cases r with
      | none => cases r' <;> exact b2
      | some p =>
        cases r' with
        | none => exact b2
        | some p' =>
          obtain ⟨c1, c2, _, y, c4, c5⟩ := b2
          exact ⟨c1, c2, y, c4, keySame_eq c5⟩
  · have hwide : (match P.underlying kt with | some (.array _ _) | some (.struct _) => true | _ => false) = true := by rw [hu]
    have law := deep_law (P := P) (m := 3) (by omega) k1 k2 hwide
    obtain ⟨lx, hlx⟩ := Option.isSome_iff_exists.1 k3
    refine ⟨fun em w => law.check w em hlx, fun w => law.stays w hlx, fun {g h w es es' r} he hf => ?_⟩
    unfold findE at hf
    simp only at hf
    split at hf
    · rename_i hall
      obtain ⟨r', b1, b2⟩ := asking_ok (P := P) (kt := kt) (fun w y hy => by
        obtain ⟨ly, hly⟩ := Option.isSome_iff_exists.1 hy
        obtain ⟨b, hb, hiff⟩ := run_equal_deep w (m := 3) (by omega) k1 hwide hlx hly
        refine ⟨b, hb, hiff.trans ⟨fun e => law.inj hlx (by rw [e]; exact hly), fun e => ?_⟩⟩
        rw [e] at hlx
        exact Option.some.inj (hlx.symm.trans hly)) ⟨_, rfl⟩ he hall hf
      refine ⟨r', fun w' => by rw [run_findKey_eq w' hwide]; exact b1 w', ?_⟩
      cases r with
      | none => cases r' <;> exact b2
      | some p =>
        cases r' with
        | none => exact b2
        | some p' =>
          obtain ⟨c1, c2, _, y, c4, c5⟩ := b2
          exact ⟨c1, c2, y, c4, c5⟩
    · cases hf

theorem MapOk.ents [Nu] {id : Nat} {es : List (Value × AV × Nat)} {k : Nat} (m : MapOk g h w id es k) : ∃ es' : Array MapEntry, w.heap[(g.μ id).1]? = some (.map es' k) ∧ Ents g h w es es'.toList := by
  obtain ⟨es', h1, h2, h3⟩ := m.it
  refine ⟨es', h1, by simpa using h2, fun i x hx => ?_⟩
  obtain ⟨e, a, b⟩ := h3 i x hx
  exact ⟨e, by simpa using a, b⟩

theorem V.map_inv [Nu] {id : Nat} {v : Value} (hv : V g h w (.map id) v) : ∃ r, v = .map (some r) ∧ id < h.length ∧ ∀ es k, h[id]? = some (.map es k) → r = (g.μ id).1 := by
  cases hv with
  | deep hd => cases hd
  | map hid hM => exact ⟨_, rfl, hid, hM⟩

theorem lookup_run [Nu] (r : R g h w) {t : TypeId} {x ix y : AV} {ok : Bool} {vx vi : Value} (hx : V g h w x vx) (hi : V g h w ix vi) (hl : lookupA P t x ix ok h = some y) :
    ∃ u, (Instr.lookup t vx vi ok).run P w = .ok u w ∧ V g h w y u := by
  unfold lookupA at hl
  split at hl
  · rename_i kt et ht
    split at hl
    · rename_i k hk
      obtain ⟨rfl, kok⟩ := keyLit_ok hi hk
      -- the entries
      have key : ∀ (es : List (Value × AV × Nat)) (es' : List MapEntry), Ents g h w es es' → (match findE P kt vi es with
          | some (some (_, v)) => some (if ok = true then AV.tup [v, .lit (.bool true)] else v)
          | some none => match zeroT P et with
            | some z => some (if ok = true then AV.tup [z, .lit (.bool false)] else z)
            | none => none
          | none => none) = some y →
          ∃ u, (do
            let (v, ok') ← match ← Instr.findKey kt vi es' with
              | some (_, v) => pure (v, true)
              | none => pure (← zeroValue et, false)
            pure (if ok then .tuple #[v, .bool ok'] else v) : Sem Value).run P w = .ok u w ∧ V g h w y u := by
        intro es es' he hh
        split at hh
        · rename_i j v hf
          obtain ⟨r', b1, b2⟩ := kok.find he hf
          cases r' with
          | none => exact b2.elim
          | some p =>
            obtain ⟨_, c2, _⟩ := b2
            cases hh
            refine ⟨if ok then .tuple #[p.2, .bool true] else p.2, ?_, ?_⟩
            · rw [Sem.run_bind, b1]
              rfl
            · cases ok
              · exact c2
              · refine .tup rfl fun i c v' hc hv' => ?_
                match i, hc, hv' with
                | 0, hc, hv' => simp at hc hv'; subst hc; subst hv'; exact c2
                | 1, hc, hv' => simp at hc hv'; subst hc; subst hv'; exact .deep (.lit rfl)
                | i + 2, hc, _ => simp at hc
        · rename_i hf
          obtain ⟨r', b1, b2⟩ := kok.find he hf
          cases r' with
          | some p => exact b2.elim
          | none =>
            split at hh
            · rename_i z hz
              obtain ⟨zv, z1, rfl⟩ := zeroT_run hz w
              cases hh
              refine ⟨if ok then .tuple #[zv, .bool false] else zv, ?_, ?_⟩
              · rw [Sem.run_bind, b1]
                simp only [Result.andThen_ok]
                rw [Sem.run_bind, z1]
                rfl
              · cases ok
                · exact ofVal_ok zv
                · refine .tup rfl fun i c v' hc hv' => ?_
                  match i, hc, hv' with
                  | 0, hc, hv' => simp at hc hv'; subst hc; subst hv'; exact ofVal_ok zv
                  | 1, hc, hv' => simp at hc hv'; subst hc; subst hv'; exact .deep (.lit rfl)
                  | i + 2, hc, _ => simp at hc
            · cases hh
        · cases hh
      simp only at hl
      split at hl
      · rename_i es hes
        split at hes
        · -- nil
          cases hes
          have := hx.lit_inv
          subst this
          obtain ⟨u, h1, h2⟩ := key [] [] ⟨rfl, fun i x hx => by simp at hx⟩ hl
          refine ⟨u, ?_, h2⟩
          unfold Instr.lookup
          rw [Sem.run_bind, run_underlying ht]
          simp only [Result.andThen_ok, pure_bind]
          rw [Sem.run_bind, kok.check]
          simp only [Result.andThen_ok]
          exact h1
        · rename_i id
          split at hes
          · rename_i es0 c hid
            cases hes
            obtain ⟨b, rfl, _, hb⟩ := hx.map_inv
            have := hb _ _ hid
            subst this
            obtain ⟨es', e1, e2⟩ := (r.map _ _ _ hid).ents
            obtain ⟨u, h1, h2⟩ := key es es'.toList e2 hl
            refine ⟨u, ?_, h2⟩
            unfold Instr.lookup
            rw [Sem.run_bind, run_underlying ht]
            simp only [Result.andThen_ok]
            rw [Sem.run_bind, get_run e1 (by intros; simp)]
            simp only [Result.andThen_ok, pure_bind]
            rw [Sem.run_bind, kok.check]
            simp only [Result.andThen_ok]
            exact h1
          · cases hes
        · cases hes
      · cases hl
    · cases hl
  · cases hl

theorem turned_at [Nu] (r : R g h w) {id : Nat} (ha : alive h id) (x : Obj) : (turned w (g.μ id).1 x).heap[(g.μ id).1]? = some x := by
  show (w.heap.setIfInBounds (g.μ id).1 x)[(g.μ id).1]? = some x
  rw [Array.getElem?_setIfInBounds_self_of_lt (r.block_lt ha)]

theorem mapSet_run [Nu] (r : R g h w) {t : TypeId} {m ix v : AV} {vm vi vv : Value} {h' : Heap} (hm : V g h w m vm) (hi : V g h w ix vi) (hv : V g h w v vv) (hs : mapSet P t m ix v h = some h') :
    ∃ w', (Instr.mapUpdate t vm vi vv).run P w = .ok () w' ∧ Post g h w g h' w' ∧ R g h' w' := by
  unfold mapSet at hs
  split at hs
  · rename_i kt et id ht
    split at hs
    · rename_i k es c hk hid
      obtain ⟨rfl, kok⟩ := keyLit_ok hi hk
      obtain ⟨b, rfl, _, hb⟩ := hm.map_inv
      have := hb _ _ hid
      subst this
      obtain ⟨es', e1, e2⟩ := (r.map _ _ _ hid).ents
      have ha : alive h id := alive_map hid
      have pre : ∀ q, (do
            match ← Instr.findKey kt vi es'.toList with
            | some (i, _) => do
              let key ← Instr.keyThatStays (((es'[i]?).map (·.key)).getD vi) vi
              setObj (g.μ id).1 (.map (es'.modify i fun e => { e with key, val := vv }) c)
            | none => setObj (g.μ id).1 (.map (es'.push { key := vi, val := vv, born := c }) (c + 1)) : Sem Unit).run P w = q → (Instr.mapUpdate t (.map (some (g.μ id).1)) vi vv).run P w = q := by
        intro q hq
        unfold Instr.mapUpdate
        rw [Sem.run_bind, run_underlying ht]
        simp only [Result.andThen_ok]
        rw [Sem.run_bind, get_run e1 (by intros; simp)]
        simp only [Result.andThen_ok]
        rw [Sem.run_bind, kok.check]
        simp only [Result.andThen_ok]
        exact hq
      split at hs
      · rename_i i v0 hf
        cases hs
        obtain ⟨r', b1, b2⟩ := kok.find e2 hf
        cases r' with
        | none => exact b2.elim
        | some p =>
          obtain ⟨c1, _, x, c4, hkey⟩ := b2
          obtain ⟨ent, n1, n2, n3, n4⟩ := e2.2 i x c4
          have n1' : es'[i]? = some ent := by simpa using n1
          have stay : (Instr.keyThatStays (((es'[i]?).map (·.key)).getD vi) vi).run P w = .ok vi w := by
            rw [n1']
            simp only [Option.map_some, Option.getD_some, n2, hkey]
            exact kok.stays w
          refine ⟨turned w (g.μ id).1 (.map (es'.modify i fun e => { e with key := vi, val := vv }) c), ?_, ?_⟩
          · apply pre
            rw [Sem.run_bind, b1]
            simp only [Result.andThen_ok]
            obtain ⟨j, w0⟩ := p
            simp only at c1
            subst c1
            rw [Sem.run_bind, stay]
            simp only [Result.andThen_ok]
            exact turned_run e1 (by intros; simp)
          · refine set_obj r hid rfl (by intros; simp) (by intros; simp) (fun _ _ _ => ⟨es, c, rfl⟩) (fun _ hh => by cases hh) (fun es2 k2 hh e => ?_) (fun _ hh => by cases hh)
            cases hh
            refine ⟨_, turned_at r ha _, by simpa using e2.1, fun j y hy => ?_⟩
            rw [List.getElem?_modify] at hy
            cases hj : es[j]? with
            | none => rw [hj] at hy; cases hy
            | some y0 =>
              rw [hj] at hy
              simp only [Option.map_eq_map, Option.map_some, Option.some.injEq] at hy
              obtain ⟨ej, m1, m2, m3, m4⟩ := e2.2 j y0 hj
              have m1' : es'[j]? = some ej := by simpa using m1
              by_cases hij : i = j
              · rw [if_pos hij] at hy
                subst hy
                refine ⟨{ ej with key := vi, val := vv }, ?_, rfl, m3, hv.ext e⟩
                rw [Array.getElem?_modify, if_pos hij, m1']; rfl
              · rw [if_neg hij] at hy
                subst hy
                refine ⟨ej, ?_, m2, m3, m4.ext e⟩
                rw [Array.getElem?_modify, if_neg hij, m1']
      · rename_i hf
        cases hs
        obtain ⟨r', b1, b2⟩ := kok.find e2 hf
        cases r' with
        | some p => exact b2.elim
        | none =>
          refine ⟨turned w (g.μ id).1 (.map (es'.push { key := vi, val := vv, born := c }) (c + 1)), ?_, ?_⟩
          · apply pre
            rw [Sem.run_bind, b1]
            simp only [Result.andThen_ok]
            exact turned_run e1 (by intros; simp)
          · refine set_obj r hid rfl (by intros; simp) (by intros; simp) (fun _ _ _ => ⟨es, c, rfl⟩) (fun _ hh => by cases hh) (fun es2 k2 hh e => ?_) (fun _ hh => by cases hh)
            cases hh
            have hl : es'.size = es.length := by simpa using e2.1
            refine ⟨_, turned_at r ha _, by simp [hl], fun j y hy => ?_⟩
            rw [getElem_snoc] at hy
            by_cases hj : j < es.length
            · rw [if_pos hj] at hy
              obtain ⟨ej, m1, m2, m3, m4⟩ := e2.2 j y hy
              have m1' : es'[j]? = some ej := by simpa using m1
              refine ⟨ej, ?_, m2, m3, m4.ext e⟩
              rw [Array.getElem?_push, if_neg (by omega)]; exact m1'
            · rw [if_neg hj] at hy
              by_cases hj2 : j = es.length
              · rw [if_pos hj2] at hy
                cases hy
                refine ⟨{ key := vi, val := vv, born := c }, ?_, rfl, rfl, hv.ext e⟩
                rw [Array.getElem?_push, if_pos (by omega)]
              · rw [if_neg hj2] at hy; cases hy
      · cases hs
    · cases hs
  · cases hs

theorem makeMap_run [Nu] (r : R g h w) (t : TypeId) : ∃ u w' g', (Instr.makeMap t none).run P w = .ok u w' ∧ V g' (h ++ [.map [] 0]) w' (.map h.length) u ∧ Post g h w g' (h ++ [.map [] 0]) w' ∧ R g' (h ++ [.map [] 0]) w' := by
  obtain ⟨p1, r1⟩ := new_obj r (.map [] 0) (.map #[] 0) (fun A hh => by cases hh) (fun es k hh e => by
    cases hh
    refine ⟨#[], ?_, rfl, fun i x hx => by simp at hx⟩
    rw [Gh.push_new]
    exact heap_alloc_at w _) (fun _ hh => by cases hh)
  refine ⟨.map (some w.heap.size), _, _, rfl, .map (by simp) (fun es k hk => ?_), p1, r1⟩
  rw [Gh.push_new]

theorem range_run [Nu] (r : R g h w) {t : TypeId} {s : ByteArray} (ht : P.underlying t = some .string) : ∃ u w' g', (Instr.range t (.string s)).run P w = .ok u w' ∧ V g' (h ++ [.siter (.str s 0)]) w' (.ptr h.length 0 0) u ∧ Post g h w g' (h ++ [.siter (.str s 0)]) w' ∧ R g' (h ++ [.siter (.str s 0)]) w' := by
  obtain ⟨p1, r1⟩ := new_obj r (.siter (.str s 0)) (.stringIter s 0) (fun A hh => by cases hh) (fun es k hh => by cases hh) (fun y hh _ => by cases hh; exact .str)
  refine ⟨.pointer (some ⟨w.heap.size, 0, none⟩), w.alloc (.stringIter s 0), _, ?_, .ptr (by simp) (fun A hA => ?_) (fun _ y hs => ?_), p1, r1⟩
  · unfold Instr.range
    rw [Sem.run_bind, run_underlying ht]
    rfl
  · rw [getElem_snoc] at hA; simp at hA
  · rw [Gh.push_new]; exact ⟨rfl, rfl⟩

theorem nextS_run [Nu] (r : R g h w) {it y : AV} {vi : Value} {h' : Heap} (hv : V g h w it vi) (hn : nextS it h = some (y, h')) (ty : TypeId) :
    ∃ u w' g', (Instr.next vi true ty).run P w = .ok u w' ∧ V g' h' w' y u ∧ Post g h w g' h' w' ∧ R g' h' w' := by
  unfold nextS at hn
  split at hn
  · rename_i id
    split at hn
    · rename_i s pos hid
      obtain ⟨b, o, rfl, _, _, hS⟩ := hv.ptr_inv
      obtain ⟨rfl, rfl⟩ := hS rfl _ hid
      obtain ⟨ob, hat, hob⟩ := r.siter _ _ hid
      cases hob
      split at hn
      · rename_i hlt
        cases hn
        obtain ⟨p1, r1⟩ := set_obj r (o := .siter (.str s (pos + (Utf8.decode s pos).2))) (x := .stringIter s (pos + (Utf8.decode s pos).2)) hid rfl (by intros; simp) (by intros; simp) (fun _ _ hh => by cases hh) (fun y hh => by cases hh; exact ⟨_, rfl⟩) (fun _ _ hh => by cases hh) (fun y hh _ => by cases hh; exact .str)
        refine ⟨.tuple #[.bool true, goInt pos, .int .i32 (Utf8.decode s pos).1], _, g, ?_, ?_, p1, r1⟩
        · unfold Instr.next
          simp only
          rw [Sem.run_bind, get_run hat (by intros; simp)]
          simp only [Result.andThen_ok]
          rw [if_pos hlt]
          rw [Sem.run_bind, turned_run hat (by intros; simp)]
          rfl
        · refine .tup rfl fun i c v' hc hv' => ?_
          match i, hc, hv' with
          | 0, hc, hv' => simp at hc hv'; subst hc; subst hv'; exact .deep (.lit rfl)
          | 1, hc, hv' => simp at hc hv'; subst hc; subst hv'; exact .deep (.lit rfl)
          | 2, hc, hv' => simp at hc hv'; subst hc; subst hv'; exact .deep (.lit rfl)
          | i + 3, hc, _ => simp at hc
      · rename_i hlt
        cases hn
        refine ⟨.tuple #[.bool false], w, g, ?_, ?_, Post.refl _ _ _, r⟩
        · unfold Instr.next
          simp only
          rw [Sem.run_bind, get_run hat (by intros; simp)]
          simp only [Result.andThen_ok]
          rw [if_neg hlt]
          rfl
        · refine .tup rfl fun i c v' hc hv' => ?_
          match i, hc, hv' with
          | 0, hc, hv' => simp at hc hv'; subst hc; subst hv'; exact .deep (.lit rfl)
          | i + 1, hc, _ => simp at hc
    · cases hn
  · cases hn

/-! ### clear -/

theorem cellOk_one {v : Value} (h : cellOk v = true) : v.oneCell' = true := by
  cases v <;> first | rfl | cases h

theorem zero_one {z : Value} (hok : (cellsOf (ofVal z)).all okCell = true) : ∀ v ∈ z.cells.toList, v.oneCell' = true := by
  have oc : ∀ v : Value, okCell (ofCell v) = true → cellOk v = true := by
    intro v hv
    unfold ofCell at hv
    cases hc : cellOk v with
    | true => rfl
    | false => rw [hc] at hv; cases hv
  intro v hv
  cases z with
  | agg cs =>
    have hv : v ∈ cs.toList := hv
    have : okCell (ofCell v) = true := List.all_eq_true.1 hok _ (List.mem_map_of_mem hv)
    exact cellOk_one (oc v this)
  | tuple cs =>
    have hv : v ∈ [Value.tuple cs] := hv
    rw [List.mem_singleton] at hv
    subst hv
    simp only [ofVal] at hok
    split at hok
    · simp [cellsOf, okCell, cellOk] at hok
    · simp [cellsOf, okCell] at hok
  | _ =>
    have hv' := hv
    simp only [Value.cells] at hv'
    rw [List.mem_singleton] at hv'
    subst hv'
    rfl

theorem clear_run [Nu] (r : R g h w) {t ty : TypeId} {x y : AV} {vx : Value} {h' : Heap} (hx : V g h w x vx) (hc : clearA P t x h = some (y, h')) :
    ∃ u w' g', (Builtin.clear_ #[t] ty #[vx]).run P w = .ok u w' ∧ V g' h' w' y u ∧ Post g h w g' h' w' ∧ R g' h' w' := by
  unfold clearA at hc
  cases he : elemT P t with
  | none => rw [he] at hc; cases hc
  | some eT =>
    rw [he] at hc
    have ht := elemT_inv he
    simp only at hc
    cases hi : P.info? eT with
    | none => rw [hi] at hc; cases hc
    | some i =>
      rw [hi] at hc
      simp only at hc
      split at hc
      · cases hc
      · rename_i h0
        cases hz : i.zero with
        | none => rw [hz] at hc; cases hc
        | some z =>
          rw [hz] at hc
          simp only at hc
          split at hc
          · cases hc
          · rename_i hzz
            have hzs : z.cells.size = i.size := Classical.byContradiction fun q => hzz (.inl q)
            have hzl : (cellsOf (ofVal z)).length = i.size := Classical.byContradiction fun q => hzz (.inr (.inl q))
            have hzok : (cellsOf (ofVal z)).all okCell = true := by
              cases hh : (cellsOf (ofVal z)).all okCell
              · exact absurd (Or.inr (Or.inr hh)) hzz
              · rfl
            have zv : ∀ w, (zeroValue eT).run P w = .ok z w := fun w => by simp [zeroValue, typeInfo, hi, hz]
            split at hc
            · cases hc
              have := hx.lit_inv
              subst this
              exact ⟨.tuple #[], w, g, by simp [Builtin.clear_, run_underlying ht], .deep (.lit rfl), Post.refl _ _ _, r⟩
            · rename_i id off len full
              obtain ⟨ad, cap, rfl, hid, hlc, hff, hAA⟩ := hx.sl_inv
              split at hc
              · rename_i A hA
                split at hc
                · rename_i hl0
                  subst hl0
                  cases hc
                  exact ⟨.tuple #[], w, g, by simp [Builtin.clear_, run_underlying ht], .deep (.lit rfl), Post.refl _ _ _, r⟩
                · rename_i hl0
                  split at hc
                  · rename_i hcc
                    obtain ⟨hAz, hle, hsh⟩ := hcc
                    cases hc
                    obtain ⟨had, _⟩ := hAA A hA
                    obtain ⟨hz0, ⟨T, n, hshape, hfit, hfro⟩, hlen, hok, hrel⟩ := r.arr id A hA
                    have base := Rows.zeros (g := g) (h := h) (w := w) hzs hzl hzok (by omega) (Nat.le_refl len)
                    rw [← hAz] at base hzs
                    have ecn : (Builtin.zeroCells z.cells len) = (Array.range (len * A.sz)).map fun k => z.cells[k % z.cells.size]! := by unfold Builtin.zeroCells; rw [hzs]
                    have hcl : (Builtin.zeroCells z.cells len).toList.length = len * A.sz := by rw [Array.length_toList, zeroCells_size, hzs]
                    have hone : ∀ v ∈ (Builtin.zeroCells z.cells len).toList, v.oneCell' = true := by
                      intro v hv
                      rw [ecn] at hv
                      simp only [Array.toList_map, List.mem_map] at hv
                      obtain ⟨k, hk, rfl⟩ := hv
                      have hlt : k % z.cells.size < z.cells.size := Nat.mod_lt _ (by omega)
                      rw [getElem!_def, Array.getElem?_eq_getElem hlt]
                      exact zero_one hzok _ (by simp)
                    have hm : (off + len) * A.sz ≤ A.elems.length * A.sz := Nat.mul_le_mul_right _ hle
                    have hm2 : (off + len) * A.sz = off * A.sz + len * A.sz := Nat.add_mul _ _ _
                    generalize hcn : (Builtin.zeroCells z.cells len).toList = cn at *
                    have hex : ∀ j, j < cn.length → (w.cell? ⟨(g.μ id).1, (g.μ id).2 + off * A.sz + j, none⟩).isSome = true := fun j hj => cell_of_shape w hshape (by omega)
                    have st := run_storeCells_cells (P := P) (g.μ id).1 ((g.μ id).2 + off * A.sz) cn 0 w (by simpa using hex) (fun j hj => hfro _ (by omega)) hone
                    have run : (Builtin.clear_ #[t] ty #[.slice (some ad) len cap]).run P w = .ok (.tuple #[]) (w.setCells (g.μ id).1 ((g.μ id).2 + off * A.sz) cn) := by
                      rw [had (by omega)]
                      simp only [Nat.add_zero] at st
                      obtain ⟨m, rfl⟩ : ∃ m, len = m + 1 := ⟨len - 1, by omega⟩
                      simp [Builtin.clear_, run_underlying ht, zv, hcn, st]
                    have hrl : (List.replicate len (reElem (cellsOf (ofVal z)))).length = len := List.length_replicate
                    have hl' : (A.elems.take off ++ List.replicate len (reElem (cellsOf (ofVal z))) ++ A.elems.drop (off + len)).length = A.elems.length := by
                      have := overwrite_length (cs := A.elems) (new := List.replicate len (reElem (cellsOf (ofVal z)))) (off := off) (by rw [hrl]; exact hle)
                      unfold overwrite at this
                      rwa [hrl] at this
                    have hg := overwrite_get (cs := A.elems) (new := List.replicate len (reElem (cellsOf (ofVal z)))) (off := off) (by rw [hrl]; exact hle)
                    unfold overwrite at hg
                    rw [hrl] at hg
                    have key := set_row (A' := { A with elems := A.elems.take off ++ List.replicate len (reElem (cellsOf (ofVal z))) ++ A.elems.drop (off + len) }) r hA hsh rfl hl' ((g.μ id).2 + off * A.sz) cn
                      (fun i e he => by
                        simp only [hg] at he
                        split at he
                        · exact hlen i e he
                        · split at he
                          · exact base.len _ e he
                          · exact hlen i e he)
                      (fun i e j c he hc => by
                        simp only [hg] at he
                        split at he
                        · exact hok i e j c he hc
                        · split at he
                          · exact base.okc _ e j c he hc
                          · exact hok i e j c he hc)
                      (fun i e j c he hc => by
                        have hj := lt_of_get hc
                        simp only [hg] at he
                        by_cases h1 : i < off
                        · rw [if_pos h1] at he
                          obtain ⟨u, hu, hv⟩ := hrel i e j c he hc
                          rw [hlen i e he] at hj
                          have : (i + 1) * A.sz ≤ off * A.sz := Nat.mul_le_mul_right _ h1
                          rw [Nat.add_mul, Nat.one_mul] at this
                          exact ⟨u, by rw [World.cell?_setCells_out _ _ _ _ _ (fun _ _ => .inl (by show _ < _; simp only; omega))]; exact hu, hv⟩
                        · rw [if_neg h1] at he
                          by_cases h2 : i < off + len
                          · rw [if_pos h2] at he
                            obtain ⟨u, hu, hv⟩ := base.rel _ e j c he hc
                            have hu' : cn[(i - off) * A.sz + j]? = some u := by rw [← hcn, ecn, Array.getElem?_toList]; exact hu
                            have hq := lt_of_get hu'
                            have hin := World.cell?_setCells_in (g.μ id).1 cn ((g.μ id).2 + off * A.sz) w hex _ hq
                            rw [List.getElem?_eq_getElem hq] at hu'
                            cases hu'
                            have ea : (g.μ id).2 + i * A.sz + j = (g.μ id).2 + off * A.sz + ((i - off) * A.sz + j) := by
                              obtain ⟨q, rfl⟩ : ∃ q, i = off + q := ⟨i - off, by omega⟩
                              rw [Nat.add_sub_cancel_left, Nat.add_mul]; omega
                            rw [ea]
                            exact ⟨_, hin, hv⟩
                          · rw [if_neg h2] at he
                            obtain ⟨u, hu, hv⟩ := hrel i e j c he hc
                            have : (off + len) * A.sz ≤ i * A.sz := Nat.mul_le_mul_right _ (by omega)
                            exact ⟨u, by rw [World.cell?_setCells_out _ _ _ _ _ (fun _ _ => .inr (by show _ ≤ _; simp only; omega))]; exact hu, hv⟩)
                    exact ⟨_, _, g, run, .deep (.lit rfl), key.1, key.2⟩
                  · cases hc
              · cases hc
            · cases hc

end Go.Am
