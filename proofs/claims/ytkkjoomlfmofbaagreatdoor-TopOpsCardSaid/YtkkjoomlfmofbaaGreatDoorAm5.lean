import Derived.Test.YtkkjoomlfmofbaaGreatDoorAm4
set_option linter.unusedSimpArgs false
set_option linter.unusedVariables false
set_option linter.unusedSectionVars false
/-! What is read off rows: deep values; and a call that has memory of its own. -/
namespace Go.Am

theorem share_dead (o : AObj) : (share o).isDead = o.isDead := by cases o <;> rfl
theorem share_share (o : AObj) : share (share o) = share o := by cases o <;> rfl

theorem mark_get : ∀ (ids : List Nat) (h : Heap) (k : Nat), (mark ids h)[k]? = (h[k]?).map fun o => if k ∈ ids then share o else o
  | [], h, k => by simp [mark]
  | i :: r, h, k => by
    have ih := mark_get r (h.modify i share) k
    simp only [mark, List.foldl_cons] at ih ⊢
    rw [ih, List.getElem?_modify]
    cases hk : h[k]? with
    | none => simp
    | some o =>
      simp only [Option.map_some]
      by_cases h1 : i = k <;> by_cases h2 : k ∈ r
      · subst h1; simp [h2, share_share]
      · subst h1; simp [h2]
      · simp [h1, h2]
      · simp [h1, h2, Ne.symm h1]

theorem mark_length (ids : List Nat) (h : Heap) : (mark ids h).length = h.length := by
  induction ids generalizing h with
  | nil => rfl
  | cons i r ih => simp only [mark, List.foldl_cons] at ih ⊢; rw [ih]; simp

/-- The cells that nobody writes any more once these rows are shared. -/
def Gh.plus (g : Gh) (h : Heap) (ids : List Nat) : Gh :=
  { g with I := fun b o => g.I b o ∨ ∃ id A, id ∈ ids ∧ h[id]? = some (.arr A) ∧ b = (g.μ id).1 ∧ (g.μ id).2 ≤ o ∧ o < (g.μ id).2 + A.elems.length * A.sz }

theorem Gh.plus_le {g : Gh} {h : Heap} {i j : List Nat} (hij : ∀ x ∈ i, x ∈ j) (b o : Nat) (hi : (g.plus h i).I b o) : (g.plus h j).I b o := by
  rcases hi with hi | ⟨id, A, h1, h2⟩
  · exact .inl hi
  · exact .inr ⟨id, A, hij _ h1, h2⟩

theorem R.cell_some [Nu] {g : Gh} {h : Heap} {w : World} (r : R g h w) {id : Nat} {A : Arr} (hA : h[id]? = some (.arr A)) {o : Nat} (ho : o < (g.μ id).2 + A.elems.length * A.sz) :
    (w.cell? ⟨(g.μ id).1, o, none⟩).isSome = true := by
  obtain ⟨T, n, h2, h3, _⟩ := (r.arr id A hA).shape
  exact cell_of_shape w h2 (by omega)

theorem plus_cell [Nu] {g : Gh} {h : Heap} {w : World} (r : R g h w) (ids : List Nat) {b o : Nat} (hi : (g.plus h ids).I b o) : ∃ u, w.cell? ⟨b, o, none⟩ = some u := by
  rcases hi with hi | ⟨id, A, h1, h2, rfl, h4, h5⟩
  · exact (r.imm b o hi).1
  · exact Option.isSome_iff_exists.1 (r.cell_some h2 h5)

theorem mark_ok [Nu] {g : Gh} {h : Heap} {w : World} (r : R g h w) (ids : List Nat) : Post g h w (g.plus h ids) (mark ids h) w ∧ R (g.plus h ids) (mark ids h) w := by
  have arrOf : ∀ k A', (mark ids h)[k]? = some (.arr A') → ∃ A, h[k]? = some (.arr A) ∧ A'.sz = A.sz ∧ A'.elems = A.elems ∧ (A.shared = true → A'.shared = true) ∧ (k ∈ ids → A'.shared = true) := by
    intro k A' hA
    rw [mark_get] at hA
    cases hk : h[k]? with
    | none => rw [hk] at hA; cases hA
    | some o =>
      rw [hk] at hA
      simp only [Option.map_some, Option.some.injEq] at hA
      by_cases h1 : k ∈ ids
      · rw [if_pos h1] at hA
        cases o with
        | arr A => simp only [share, AObj.arr.injEq] at hA; subst hA; exact ⟨A, rfl, rfl, rfl, fun _ => rfl, fun _ => rfl⟩
        | _ => simp [share] at hA
      · rw [if_neg h1] at hA; subst hA; exact ⟨A', rfl, rfl, rfl, id, fun h => absurd h h1⟩
  have toArr : ∀ k A, h[k]? = some (.arr A) → ∃ A', (mark ids h)[k]? = some (.arr A') ∧ A'.sz = A.sz ∧ A'.elems = A.elems ∧ (A.shared = true → A'.shared = true) ∧ (k ∈ ids → A'.shared = true) := by
    intro k A hA
    rw [mark_get, hA]
    by_cases h1 : k ∈ ids
    · exact ⟨{ A with shared := true }, by simp [h1, share], rfl, rfl, fun _ => rfl, fun _ => rfl⟩
    · exact ⟨A, by simp [h1], rfl, rfl, id, fun h => absurd h h1⟩
  have other : ∀ (k : Nat) (o : AObj), (mark ids h)[k]? = some o → (∀ A, o ≠ .arr A) → h[k]? = some o := by
    intro k o ho hn
    rw [mark_get] at ho
    cases hk : h[k]? with
    | none => rw [hk] at ho; cases ho
    | some x =>
      rw [hk] at ho
      simp only [Option.map_some, Option.some.injEq] at ho
      split at ho
      · cases x with
        | arr A => exact absurd ho.symm (hn _)
        | _ => exact congrArg some ho
      · rw [ho]
  have al : ∀ k, alive (mark ids h) k → alive h k := by
    rintro k ⟨o, ho, hd⟩
    rw [mark_get] at ho
    cases hk : h[k]? with
    | none => rw [hk] at ho; cases ho
    | some x =>
      rw [hk] at ho
      simp only [Option.map_some, Option.some.injEq] at ho
      refine ⟨x, hk, ?_⟩
      subst ho
      split at hd
      · rwa [share_dead] at hd
      · exact hd
  have e : Ext g h w (g.plus h ids) (mark ids h) w := by
    refine ⟨fun b o hi => ⟨.inl hi, rfl⟩, by rw [mark_length]; exact Nat.le_refl _, fun k A' _ hA' => ?_, fun k es c _ hk => ⟨es, c, other k _ hk (fun _ h => by cases h), rfl⟩, fun k x _ hk => ⟨x, other k _ hk (fun _ h => by cases h), rfl⟩⟩
    obtain ⟨A, a1, a2, a3, _⟩ := arrOf k A' hA'
    exact ⟨A, a1, ⟨a2, by rw [a3]⟩, rfl, rfl⟩
  refine ⟨⟨e, Nat.le_refl _, fun _ _ _ => rfl, fun k ha => .inr ⟨k, al k ha, rfl⟩, fun b o hi => ?_, rfl, rfl, rfl⟩, ?_⟩
  · rcases hi with hi | ⟨id, A, _, h2, rfl, _⟩
    · exact .inl hi
    · exact .inr (.inr ⟨id, alive_arr h2, rfl⟩)
  refine ⟨fun k A' hA' => ?_, fun k es c hk => ?_, fun k x hs => by obtain ⟨ob, q1, q2⟩ := r.siter k x (other k _ hs (fun _ h => by cases h)); exact ⟨ob, q1, q2.ext e⟩, fun i j hi hj he => r.inj i j (al i hi) (al j hj) he, fun b o hi => ⟨plus_cell r ids hi, fun k ha he => ?_⟩⟩
  · obtain ⟨A, a1, a2, a3, _⟩ := arrOf k A' hA'
    obtain ⟨h1, h2, h3, h4, h5⟩ := r.arr k A a1
    refine ⟨by rw [a2]; exact h1, by rw [a2, a3]; exact h2, by rw [a2, a3]; exact h3, by rw [a3]; exact h4, fun i e' j x he hx => ?_⟩
    rw [a3] at he
    rw [a2]
    obtain ⟨u, hu, hv⟩ := h5 i e' j x he hx
    exact ⟨u, hu, hv.ext e⟩
  · obtain ⟨es', h1, h2, h3⟩ := (r.map k es c (other k _ hk (fun _ h => by cases h))).it
    exact ⟨es', h1, h2, fun i x hx => by obtain ⟨e', a, b, c', d⟩ := h3 i x hx; exact ⟨e', a, b, c', d.ext e⟩⟩
  · have he : (g.μ k).1 = b := he
    rcases hi with hi | ⟨id, A, h1, h2, rfl, h4, h5⟩
    · obtain ⟨A, a1, a2, a3⟩ := (r.imm b o hi).2 k (al k ha) he
      obtain ⟨A', b1, b2, b3, b4, _⟩ := toArr k A a1
      exact ⟨A', b1, b4 a2, by rw [b2, b3]; exact a3⟩
    · have hk := r.inj k id (al k ha) (alive_arr h2) he
      subst hk
      obtain ⟨A', b1, b2, b3, _, b5⟩ := toArr k A h2
      exact ⟨A', b1, b5 h1, by rw [b2, b3]; exact h5⟩

/-! ### Deep values -/

theorem VD.toPlus [Nu] {g : Gh} {h : Heap} {w : World} {ids : List Nat} {a : AV} {v : Value} (hd : VD g.I w a v) : VD (g.plus h ids).I w a v :=
  hd.mono fun _ _ hi => ⟨.inl hi, rfl⟩

theorem free_deep [Nu] {g : Gh} {h : Heap} {w : World} {a : AV} {v : Value} (hf : freeCell a = true) (hv : V g h w a v) : VD g.I w a v := by
  cases hv with
  | deep hd => exact hd
  | agg hl hh => simp [freeCell] at hf
  | tup hl hh => simp [freeCell] at hf
  | fn hx hy h1 h2 =>
    rename_i f x y x' y'
    cases x with
    | cons a l => simp [freeCell] at hf
    | nil =>
      cases y with
      | cons a l =>
        cases a <;> first | (simp [freeCell] at hf; done) | skip
        cases l with
        | cons a l => simp [freeCell] at hf
        | nil =>
          refine .fn hx hy (fun i c v hc => by simp at hc) (fun i c v hc hv => ?_)
          cases i with
          | zero =>
            cases hc
            cases h2 0 _ v rfl hv with
            | deep hd => exact hd
          | succ i => simp at hc
      | nil => exact .fn hx hy (fun i c v hc => by simp at hc) (fun i c v hc => by simp at hc)
  | iface hh =>
    rename_i t a v
    cases a <;> first | (simp [freeCell] at hf; done) | skip
    cases hh with
    | deep hd => exact .iface hd
  | sl hid hc hff hA => simp [freeCell] at hf
  | ptr hid hA hS => simp [freeCell] at hf
  | map hid hM => simp [freeCell] at hf

theorem all_get {α : Type} {l : List α} {p : α → Bool} (h : l.all p = true) {i : Nat} {x : α} (hx : l[i]? = some x) : p x = true :=
  List.all_eq_true.1 h x (List.mem_of_getElem? hx)

theorem free1_deep [Nu] {g : Gh} {h : Heap} {w : World} {a : AV} {v : Value} (hf : free1 a = true) (hv : V g h w a v) : VD g.I w a v := by
  cases a with
  | agg cs =>
    cases hv with
    | deep hd => exact hd
    | agg hl hh => exact .agg hl fun i c v hc hv => free_deep (all_get hf hc) (hh i c v hc hv)
  | _ => exact free_deep hf hv

theorem free1_cell {a : AV} (hf : free1 a = true) {j : Nat} {c : AV} (hc : (cellsOf a)[j]? = some c) : freeCell c = true := by
  cases a with
  | agg cs => exact all_get hf hc
  | _ =>
    cases j with
    | zero => simp [cellsOf] at hc; subst hc; exact hf
    | succ j => simp [cellsOf] at hc

/-- A piece of a row, read off, whatever its cells were read off to. -/
theorem sl_deep [Nu] {g : Gh} {h : Heap} {w : World} (r : R g h w) {id off len : Nat} {full : Bool} {js : List Nat} {v : Value} {A : Arr} (hA : h[id]? = some (.arr A)) (hle : off + len ≤ A.elems.length) (hin : id ∈ js)
    (hv : V g h w (.sl id off len full) v) {l : List AV} (hl : l.length = len)
    (hc : ∀ (i : Nat) (e' : AV), l[i]? = some e' → ∃ e, A.elems[off + i]? = some e ∧ (cellsOf e').length = (cellsOf e).length ∧
      ∀ (j : Nat) (c' : AV), (cellsOf e')[j]? = some c' → ∃ c, (cellsOf e)[j]? = some c ∧ okCell c' = okCell c ∧ ∀ u, V g h w c u → VD (g.plus h js).I w c' u) : VD (g.plus h js).I w (.isl A.sz full l) v := by
  cases hv with
  | deep hd => cases hd
  | sl hid hcc hf hRR hAA =>
    rename_i ad cap
    obtain ⟨had, hcap⟩ := hAA A hA
    obtain ⟨hz, ⟨T, n, hsh, hfit, _⟩, hlen, hok, hrel⟩ := r.arr id A hA
    have key : VD (g.plus h js).I w (.isl A.sz full l) (.slice (some ad) l.length cap) := by
      refine .isl (fun i j => (w.cell? ⟨(g.μ id).1, (g.μ id).2 + (off + i) * A.sz + j, none⟩).getD undef) (by omega) (fun hff => by rw [hf hff, hl]) (fun i e' he => ?_) (fun hne => ?_) (fun i e' j c' he hcj => ?_) (fun i e' j c' he hcj => ?_)
      · obtain ⟨e, h1, h2, _⟩ := hc i e' he
        exact ⟨by rw [h2]; exact hlen _ _ h1, hz⟩
      · have h0 : cap ≠ 0 := by
          intro h0
          apply hne
          apply List.eq_nil_of_length_eq_zero
          omega
        refine ⟨(g.μ id).1, (g.μ id).2 + off * A.sz, by rw [had h0], fun i j hi hj' => ?_⟩
        have ea : (g.μ id).2 + off * A.sz + i * A.sz + j = (g.μ id).2 + (off + i) * A.sz + j := by rw [Nat.add_mul]; omega
        have hlt : (g.μ id).2 + (off + i) * A.sz + j < (g.μ id).2 + A.elems.length * A.sz := by
          have : (off + i + 1) * A.sz ≤ A.elems.length * A.sz := Nat.mul_le_mul_right _ (by omega)
          rw [Nat.add_mul (off + i), Nat.one_mul] at this; omega
        rw [ea]
        refine ⟨.inr ⟨id, A, hin, hA, rfl, by omega, hlt⟩, ?_⟩
        obtain ⟨u, hu⟩ := Option.isSome_iff_exists.1 (r.cell_some hA hlt)
        rw [hu]; rfl
      · obtain ⟨e, h1, _, h3⟩ := hc i e' he
        obtain ⟨c, h4, h5, _⟩ := h3 j c' hcj
        rw [h5]; exact hok _ _ _ _ h1 h4
      · obtain ⟨e, h1, _, h3⟩ := hc i e' he
        obtain ⟨c, h4, _, h6⟩ := h3 j c' hcj
        obtain ⟨u, hu, hvu⟩ := hrel _ _ _ _ h1 h4
        simp only [hu, Option.getD_some]
        exact h6 u hvu
    rw [hl] at key
    exact key

theorem snapCs_get {f : AV → Option (AV × List Nat)} : ∀ {l l' : List AV} {ids : List Nat}, snapCs f l = some (l', ids) → l'.length = l.length ∧ ∀ (i : Nat) (c' : AV), l'[i]? = some c' → ∃ c js, l[i]? = some c ∧ f c = some (c', js) ∧ ∀ x ∈ js, x ∈ ids
  | [], l', ids, h => by cases h; exact ⟨rfl, fun i c hc => by simp at hc⟩
  | c :: l, l', ids, h => by
    simp only [snapCs] at h
    split at h
    · rename_i c' i0 l2 j0 h1 h2
      cases h
      obtain ⟨e1, e2⟩ := snapCs_get h2
      refine ⟨by simp [e1], fun i x hx => ?_⟩
      cases i with
      | zero => simp at hx; subst hx; exact ⟨c, i0, rfl, h1, fun x hx => by simp [hx]⟩
      | succ i =>
        obtain ⟨c0, js, a, b, d⟩ := e2 i x (by simpa using hx)
        exact ⟨c0, js, a, b, fun x hx => by simp [d x hx]⟩
    · cases h

/-- What a reader of cells keeps. -/
def CellR (f : AV → Option (AV × List Nat)) : Prop := ∀ c c' ids, f c = some (c', ids) → cellsOf c' = [c'] ∧ okCell c' = okCell c

theorem snapE_cells {f : AV → Option (AV × List Nat)} (hf : CellR f) {e e' : AV} {ids : List Nat} (h : snapE f e = some (e', ids)) : (cellsOf e').length = (cellsOf e).length ∧
    ∀ (j : Nat) (c' : AV), (cellsOf e')[j]? = some c' → ∃ c js, (cellsOf e)[j]? = some c ∧ f c = some (c', js) ∧ ∀ x ∈ js, x ∈ ids := by
  cases e with
  | agg cs =>
    simp only [snapE, Option.map_eq_some_iff] at h
    obtain ⟨⟨l, i⟩, h1, h2⟩ := h
    cases h2
    exact snapCs_get h1
  | _ =>
    have h1 := (hf _ _ _ h).1
    rw [h1]
    refine ⟨rfl, fun j c' hc => ?_⟩
    cases j with
    | zero => simp at hc; subst hc; exact ⟨_, ids, rfl, h, fun x hx => hx⟩
    | succ j => simp at hc

theorem snapD_cellR (h : Heap) : ∀ k, CellR (snapD h k) := by
  have free : ∀ (c c' : AV) (ids : List Nat), (if freeCell c = true then some (c, []) else none) = some (c', ids) → cellsOf c' = [c'] ∧ okCell c' = okCell c := by
    intro c c' ids hc
    split at hc
    · rename_i hf
      cases hc
      refine ⟨?_, rfl⟩
      cases c <;> first | rfl | (simp [freeCell] at hf; done)
    · cases hc
  intro k
  cases k with
  | zero => intro c c' ids hc; simp only [snapD] at hc; exact free c c' ids hc
  | succ k =>
    intro c c' ids hc
    cases c with
    | sl id off len full =>
      simp only [snapD] at hc
      split at hc
      · split at hc
        · split at hc
          · cases hc; exact ⟨rfl, rfl⟩
          · cases hc
        · cases hc
      · cases hc
    | _ => simp only [snapD] at hc; exact free _ c' ids hc

theorem view_elem {A : Arr} {off len : Nat} {i : Nat} {e : AV} (he : ((A.elems.drop off).take len)[i]? = some e) : A.elems[off + i]? = some e := by
  rw [view_get] at he
  split at he
  · exact he
  · cases he

theorem snapD_deep [Nu] {g : Gh} {h : Heap} {w : World} (r : R g h w) {js : List Nat} : ∀ (k : Nat) {a a' : AV} {ids : List Nat} {v : Value}, snapD h k a = some (a', ids) → (∀ x ∈ ids, x ∈ js) → V g h w a v → VD (g.plus h js).I w a' v := by
  have free : ∀ {a a' : AV} {ids : List Nat} {v : Value}, (if freeCell a = true then some (a, []) else none) = some (a', ids) → V g h w a v → VD (g.plus h js).I w a' v := by
    intro a a' ids v hc hv
    split at hc
    · rename_i hf; cases hc; exact (free_deep hf hv).toPlus
    · cases hc
  intro k
  induction k with
  | zero => intro a a' ids v hs hj hv; simp only [snapD] at hs; exact free hs hv
  | succ k ih =>
    intro a a' ids v hs hj hv
    cases a with
    | sl id off len full =>
      simp only [snapD] at hs
      split at hs
      · rename_i A hA
        split at hs
        · rename_i hle
          split at hs
          · rename_i l ids' hl
            cases hs
            obtain ⟨e1, e2⟩ := snapCs_get hl
            refine sl_deep r hA hle (hj id (by simp)) hv (by rw [e1]; exact view_length hle) fun i e' he => ?_
            obtain ⟨e, js1, h1, h2, h3⟩ := e2 i e' he
            obtain ⟨q1, q2⟩ := snapE_cells (snapD_cellR h k) h2
            refine ⟨e, view_elem h1, q1, fun j c' hc => ?_⟩
            obtain ⟨c, js2, p1, p2, p3⟩ := q2 j c' hc
            exact ⟨c, p1, (snapD_cellR h k c c' js2 p2).2, fun u hu => ih p2 (fun x hx => hj x (by simp [h3 x (p3 x hx)])) hu⟩
          · cases hs
        · cases hs
      · cases hs
    | _ => simp only [snapD] at hs; exact free hs hv

theorem snapCell_deep [Nu] {g : Gh} {h : Heap} {w : World} (r : R g h w) {a a' : AV} {ids js : List Nat} {v : Value} (hs : snapCell h a = some (a', ids)) (hj : ∀ x ∈ ids, x ∈ js)
    (hv : V g h w a v) : VD (g.plus h js).I w a' v := by
  cases a with
  | sl id off len full =>
    simp only [snapCell] at hs
    split at hs
    · rename_i A hA
      split at hs
      · rename_i hle
        split at hs
        · rename_i hall
          simp only [Option.some.injEq, Prod.mk.injEq] at hs
          obtain ⟨rfl, rfl⟩ := hs
          refine sl_deep r hA hle (hj id (by simp)) hv (view_length hle) fun i e he => ⟨e, view_elem he, rfl, fun j c hc => ⟨c, hc, rfl, fun u hu => ?_⟩⟩
          exact (free_deep (free1_cell (all_get hall he) hc) hu).toPlus
        · split at hs
          · rename_i l ids' hl
            cases hs
            obtain ⟨e1, e2⟩ := snapCs_get hl
            refine sl_deep r hA hle (hj id (by simp)) hv (by rw [e1]; exact view_length hle) fun i e' he => ?_
            obtain ⟨e, js1, h1, h2, h3⟩ := e2 i e' he
            obtain ⟨q1, q2⟩ := snapE_cells (snapD_cellR h 8) h2
            refine ⟨e, view_elem h1, q1, fun j c' hc => ?_⟩
            obtain ⟨c, js2, p1, p2, p3⟩ := q2 j c' hc
            exact ⟨c, p1, (snapD_cellR h 8 c c' js2 p2).2, fun u hu => snapD_deep r 8 p2 (fun x hx => hj x (by simp [h3 x (p3 x hx)])) hu⟩
          · cases hs
      · cases hs
    · cases hs
  | _ =>
    simp only [snapCell] at hs
    split at hs
    · rename_i hf
      simp only [Option.some.injEq, Prod.mk.injEq] at hs
      obtain ⟨rfl, rfl⟩ := hs
      exact (free_deep hf hv).toPlus
    · cases hs

theorem snapCells_deep [Nu] {g : Gh} {h : Heap} {w : World} (r : R g h w) : ∀ {cs cs' : List AV} {ids js : List Nat}, snapCells h cs = some (cs', ids) → (∀ x ∈ ids, x ∈ js) →
    cs'.length = cs.length ∧ ∀ (i : Nat) (c' : AV) (v : Value), cs'[i]? = some c' → (∀ c, cs[i]? = some c → V g h w c v) → VD (g.plus h js).I w c' v
  | [], cs', ids, js, hs, hj => by
    simp only [snapCells, Option.some.injEq, Prod.mk.injEq] at hs
    obtain ⟨rfl, rfl⟩ := hs
    exact ⟨rfl, fun i c' v hc => by simp at hc⟩
  | c :: cs, cs', ids, js, hs, hj => by
    simp only [snapCells] at hs
    split at hs
    · rename_i c' i cs'' j h1 h2
      simp only [Option.some.injEq, Prod.mk.injEq] at hs
      obtain ⟨rfl, rfl⟩ := hs
      obtain ⟨hl, ih⟩ := snapCells_deep r h2 (js := js) fun x hx => hj x (by simp [hx])
      refine ⟨by simp [hl], fun k c'' v hc hv => ?_⟩
      cases k with
      | zero =>
        simp at hc; subst hc
        exact snapCell_deep r h1 (fun x hx => hj x (by simp [hx])) (hv c (by simp))
      | succ k => exact ih k c'' v (by simpa using hc) fun c0 h0 => hv c0 (by simpa using h0)
    · cases hs

theorem V.agg_inv [Nu] {g : Gh} {h : Heap} {w : World} {cs : List AV} {v : Value} (hv : V g h w (.agg cs) v) :
    ∃ vs, v = .agg vs ∧ cs.length = vs.size ∧ ∀ (i : Nat) (c : AV) (u : Value), cs[i]? = some c → vs[i]? = some u → V g h w c u := by
  cases hv with
  | deep hd => cases hd with
    | agg hl hh => exact ⟨_, rfl, hl, fun i c u hc hu => .deep (hh i c u hc hu)⟩
  | agg hl hh => exact ⟨_, rfl, hl, hh⟩

theorem V.tup_inv [Nu] {g : Gh} {h : Heap} {w : World} {cs : List AV} {v : Value} (hv : V g h w (.tup cs) v) :
    ∃ vs, v = .tuple vs ∧ cs.length = vs.size ∧ ∀ (i : Nat) (c : AV) (u : Value), cs[i]? = some c → vs[i]? = some u → V g h w c u := by
  cases hv with
  | deep hd => cases hd with
    | tup hl hh => exact ⟨_, rfl, hl, fun i c u hc hu => .deep (hh i c u hc hu)⟩
  | tup hl hh => exact ⟨_, rfl, hl, hh⟩

theorem snap1_deep [Nu] {g : Gh} {h : Heap} {w : World} (r : R g h w) {a a' : AV} {ids js : List Nat} {v : Value} (hs : snap1 h a = some (a', ids)) (hj : ∀ x ∈ ids, x ∈ js)
    (hv : V g h w a v) : VD (g.plus h js).I w a' v := by
  cases a with
  | agg cs =>
    simp only [snap1] at hs
    cases hc : snapCells h cs with
    | none => rw [hc] at hs; cases hs
    | some p =>
      obtain ⟨cs', i⟩ := p
      rw [hc] at hs
      simp only [Option.map_some, Option.some.injEq, Prod.mk.injEq] at hs
      obtain ⟨rfl, rfl⟩ := hs
      obtain ⟨hl, hh⟩ := snapCells_deep r hc hj
      obtain ⟨vs, rfl, hl', hv'⟩ := hv.agg_inv
      exact .agg (by omega) fun i c u hc' hu => hh i c u hc' fun c0 h0 => hv' i c0 u h0 hu
  | _ => simp only [snap1] at hs; exact snapCell_deep r hs hj hv

theorem snaps_deep [Nu] {g : Gh} {h : Heap} {w : World} (r : R g h w) : ∀ {cs cs' : List AV} {ids js : List Nat}, snaps h cs = some (cs', ids) → (∀ x ∈ ids, x ∈ js) →
    cs'.length = cs.length ∧ ∀ (i : Nat) (c' : AV) (v : Value), cs'[i]? = some c' → (∀ c, cs[i]? = some c → V g h w c v) → VD (g.plus h js).I w c' v
  | [], cs', ids, js, hs, hj => by
    simp only [snaps, Option.some.injEq, Prod.mk.injEq] at hs
    obtain ⟨rfl, rfl⟩ := hs
    exact ⟨rfl, fun i c' v hc => by simp at hc⟩
  | c :: cs, cs', ids, js, hs, hj => by
    simp only [snaps] at hs
    split at hs
    · rename_i c' i cs'' j h1 h2
      simp only [Option.some.injEq, Prod.mk.injEq] at hs
      obtain ⟨rfl, rfl⟩ := hs
      obtain ⟨hl, ih⟩ := snaps_deep r h2 (js := js) fun x hx => hj x (by simp [hx])
      refine ⟨by simp [hl], fun k c'' v hc hv => ?_⟩
      cases k with
      | zero =>
        simp at hc; subst hc
        exact snap1_deep r h1 (fun x hx => hj x (by simp [hx])) (hv c (by simp))
      | succ k => exact ih k c'' v (by simpa using hc) fun c0 h0 => hv c0 (by simpa using h0)
    · cases hs

theorem snapR_deep [Nu] {g : Gh} {h : Heap} {w : World} (r : R g h w) {a a' : AV} {ids : List Nat} {v : Value} (hs : snapR h a = some (a', ids)) (hv : V g h w a v) :
    VD (g.plus h ids).I w a' v := by
  cases a with
  | tup cs =>
    simp only [snapR] at hs
    cases hc : snaps h cs with
    | none => rw [hc] at hs; cases hs
    | some p =>
      obtain ⟨cs', i⟩ := p
      rw [hc] at hs
      simp only [Option.map_some, Option.some.injEq, Prod.mk.injEq] at hs
      obtain ⟨rfl, rfl⟩ := hs
      obtain ⟨hl, hh⟩ := snaps_deep r hc (fun x hx => hx)
      obtain ⟨vs, rfl, hl', hv'⟩ := hv.tup_inv
      exact .tup (by omega) fun i c u hc' hu => hh i c u hc' fun c0 h0 => hv' i c0 u h0 hu
  | _ => simp only [snapR] at hs; exact snap1_deep r hs (fun x hx => hx) hv

/-- A flat value hangs on no cell. -/
theorem flat_deep [Nu] {I I' : Nat → Nat → Prop} {w w' : World} {a : AV} {v : Value} (hf : flat a = true) (hd : VD I w a v) : VD I' w' a v := by
  have cell : ∀ {c : AV} {u : Value}, flatCell c = true → VD I w c u → VD I' w' c u := by
    intro c u hc hd
    cases hd <;> first | (simp [flatCell] at hc; done) | (rename_i h; exact .lit h)
  have one : ∀ {c : AV} {u : Value}, (match c with | .agg cs => cs.all flatCell | v => flatCell v) = true → VD I w c u → VD I' w' c u := by
    intro c u hc hd
    cases hd with
    | agg hl hh => exact .agg hl fun i x y hx hy => cell (all_get hc hx) (hh i x y hx hy)
    | lit hh => exact .lit hh
    | _ => simp [flatCell] at hc
  cases hd with
  | agg hl hh => exact .agg hl fun i x y hx hy => cell (all_get hf hx) (hh i x y hx hy)
  | tup hl hh => exact .tup hl fun i x y hx hy => one (all_get hf hx) (hh i x y hx hy)
  | lit hh => exact .lit hh
  | _ => simp [flat, flatCell] at hf

/-! ### Behind a call that has memory of its own -/
theorem frame_ok [Nu] {g : Gh} {h : Heap} {w w' : World} (r : R g h w) (hb : ∀ b, b < w.heap.size → w'.heap[b]? = w.heap[b]?) (hsz : w.heap.size ≤ w'.heap.size)
    (o1 : w'.os = w.os) (o2 : w'.tape = w.tape) (o3 : w'.output = w.output) (I' : Nat → Nat → Prop) (hI : ∀ b o, g.I b o → I' b o)
    (hI' : ∀ b o, I' b o → g.I b o ∨ (w.heap.size ≤ b ∧ ∃ u, w'.cell? ⟨b, o, none⟩ = some u)) :
    Post g h w { g with I := I' } h w' ∧ R { g with I := I' } h w' := by
  have e : Ext g h w { g with I := I' } h w' := by
    refine ⟨fun b o hi => ⟨hI b o hi, cell_of_heap (hb b (r.imm_lt hi)) o⟩, Nat.le_refl _, fun id A _ hA => ⟨A, hA, ⟨rfl, rfl⟩, rfl, shape_of_heap (hb _ (r.block_lt (alive_arr hA)))⟩, fun _ es k _ hk => ⟨es, k, hk, rfl⟩, fun _ x _ hk => ⟨x, hk, rfl⟩⟩
  refine ⟨⟨e, hsz, fun b hlt _ => hb b hlt, fun id ha => .inr ⟨id, ha, rfl⟩, fun b o hi => ?_, o1, o2, o3⟩, r.keep e (fun _ _ => rfl) (fun id ha => hb _ (r.block_lt ha)) fun b o hi => ?_⟩
  · rcases hI' b o hi with h1 | ⟨h1, _⟩
    · exact .inl h1
    · exact .inr (.inl h1)
  · rcases hI' b o hi with h1 | ⟨h1, h2⟩
    · obtain ⟨⟨u, hu⟩, h3⟩ := r.imm b o h1
      exact ⟨⟨u, by rw [cell_of_heap (hb b (r.imm_lt h1))]; exact hu⟩, h3⟩
    · exact ⟨h2, fun id ha he => by have := r.block_lt ha; omega⟩

end Go.Am
