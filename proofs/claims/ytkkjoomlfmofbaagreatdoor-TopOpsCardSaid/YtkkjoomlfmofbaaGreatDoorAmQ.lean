import Derived.Test.YtkkjoomlfmofbaaGreatDoorAmCN
import Derived.Test.YtkkjoomlfmofbaaGreatDoorAmH
set_option linter.unusedSectionVars false
/-! A call that is told over the part of memory that it can come to, under other numbers. -/
namespace Go.Am
set_option linter.unusedSimpArgs false
set_option linter.unusedVariables false

def renRef (σ : Nat → Option Nat) : AV → Option AV
  | .ptr id i o => (σ id).map fun j => .ptr j i o
  | v => bif freeCell v then some v else none

def renL (f : AV → Option AV) : List AV → Option (List AV)
  | [] => some []
  | c :: l => match f c, renL f l with
    | some c', some l' => some (c' :: l')
    | _, _ => none

def renCell (σ : Nat → Option Nat) : AV → Option AV
  | .sl id off len f => (σ id).map fun j => .sl j off len f
  | .ptr id i o => (σ id).map fun j => .ptr j i o
  | .map id => (σ id).map .map
  | .fn f x y => match renL (renRef σ) x, renL (renRef σ) y with
    | some x', some y' => some (.fn f x' y')
    | _, _ => none
  | v => bif freeCell v then some v else none

def ren1 (σ : Nat → Option Nat) : AV → Option AV
  | .agg cs => (renL (renCell σ) cs).map .agg
  | v => renCell σ v

def renR (σ : Nat → Option Nat) : AV → Option AV
  | .tup vs => (renL (ren1 σ) vs).map .tup
  | v => ren1 σ v

def renEnts (σ : Nat → Option Nat) : List (Value × AV × Nat) → Option (List (Value × AV × Nat))
  | [] => some []
  | x :: l => match ren1 σ x.2.1, renEnts σ l with
    | some c, some l' => some ((x.1, c, x.2.2) :: l')
    | _, _ => none

def renObj (σ : Nat → Option Nat) : AObj → Option AObj
  | .arr A => (renL (ren1 σ) A.elems).map fun l => .arr { A with elems := l }
  | .map es k => (renEnts σ es).map fun l => .map l k
  | .siter (.ent m a b c) => (σ m).map fun j => .siter (.ent j a b c)
  | .siter x => some (.siter x)
  | .dead => some .dead

def renObjs (σ : Nat → Option Nat) : List AObj → Option (List AObj)
  | [] => some []
  | o :: l => match renObj σ o, renObjs σ l with
    | some o', some l' => some (o' :: l')
    | _, _ => none

theorem renL_get {f : AV → Option AV} : ∀ {l l' : List AV}, renL f l = some l' → l'.length = l.length ∧ ∀ (i : Nat) (c' : AV), l'[i]? = some c' → ∃ c, l[i]? = some c ∧ f c = some c'
  | [], l', h => by cases h; exact ⟨rfl, fun i c hc => by simp at hc⟩
  | c :: l, l', h => by
    simp only [renL] at h
    split at h
    · rename_i c' l2 h1 h2
      cases h
      obtain ⟨e1, e2⟩ := renL_get h2
      refine ⟨by simp [e1], fun i x hx => ?_⟩
      cases i with
      | zero => simp at hx; subst hx; exact ⟨c, rfl, h1⟩
      | succ i => exact e2 i x (by simpa using hx)
    · cases h

theorem renObjs_get {σ : Nat → Option Nat} : ∀ {l l' : List AObj}, renObjs σ l = some l' → l'.length = l.length ∧ ∀ (i : Nat) (c' : AObj), l'[i]? = some c' → ∃ c, l[i]? = some c ∧ renObj σ c = some c'
  | [], l', h => by cases h; exact ⟨rfl, fun i c hc => by simp at hc⟩
  | c :: l, l', h => by
    simp only [renObjs] at h
    split at h
    · rename_i c' l2 h1 h2
      cases h
      obtain ⟨e1, e2⟩ := renObjs_get h2
      refine ⟨by simp [e1], fun i x hx => ?_⟩
      cases i with
      | zero => simp at hx; subst hx; exact ⟨c, rfl, h1⟩
      | succ i => exact e2 i x (by simpa using hx)
    · cases h

theorem renEnts_get {σ : Nat → Option Nat} : ∀ {l l' : List (Value × AV × Nat)}, renEnts σ l = some l' → l'.length = l.length ∧ ∀ (i : Nat) x', l'[i]? = some x' → ∃ x, l[i]? = some x ∧ x'.1 = x.1 ∧ x'.2.2 = x.2.2 ∧ ren1 σ x.2.1 = some x'.2.1
  | [], l', h => by cases h; exact ⟨rfl, fun i c hc => by simp at hc⟩
  | c :: l, l', h => by
    simp only [renEnts] at h
    split at h
    · rename_i c' l2 h1 h2
      cases h
      obtain ⟨e1, e2⟩ := renEnts_get h2
      refine ⟨by simp [e1], fun i x hx => ?_⟩
      cases i with
      | zero => simp at hx; subst hx; exact ⟨c, rfl, rfl, rfl, h1⟩
      | succ i => exact e2 i x (by simpa using hx)
    · cases h

theorem renObj_arr {σ : Nat → Option Nat} {o : AObj} {A' : Arr} (h : renObj σ o = some (.arr A')) : ∃ A, o = .arr A ∧ A'.sz = A.sz ∧ A'.shared = A.shared ∧ A'.elems.length = A.elems.length ∧ renL (ren1 σ) A.elems = some A'.elems := by
  cases o with
  | arr A =>
    simp only [renObj, Option.map_eq_some_iff] at h
    obtain ⟨l, h1, h2⟩ := h
    cases h2
    exact ⟨A, rfl, rfl, rfl, (renL_get h1).1, h1⟩
  | map es k =>
    simp only [renObj, Option.map_eq_some_iff] at h
    obtain ⟨l, h1, h2⟩ := h
    cases h2
  | siter x =>
    cases x with
    | ent m a b c =>
      simp only [renObj, Option.map_eq_some_iff] at h
      obtain ⟨l, h1, h2⟩ := h
      cases h2
    | _ => simp [renObj] at h
  | dead => simp [renObj] at h

theorem renObj_map {σ : Nat → Option Nat} {o : AObj} {es' : List (Value × AV × Nat)} {k' : Nat} (h : renObj σ o = some (.map es' k')) : ∃ es, o = .map es k' ∧ renEnts σ es = some es' := by
  cases o with
  | arr A =>
    simp only [renObj, Option.map_eq_some_iff] at h
    obtain ⟨l, h1, h2⟩ := h
    cases h2
  | map es k =>
    simp only [renObj, Option.map_eq_some_iff] at h
    obtain ⟨l, h1, h2⟩ := h
    cases h2
    exact ⟨es, rfl, h1⟩
  | siter x =>
    cases x with
    | ent m a b c =>
      simp only [renObj, Option.map_eq_some_iff] at h
      obtain ⟨l, h1, h2⟩ := h
      cases h2
    | _ => simp [renObj] at h
  | dead => simp [renObj] at h

theorem renObj_siter {σ : Nat → Option Nat} {o : AObj} {x' : It} (h : renObj σ o = some (.siter x')) : ∃ x, o = .siter x ∧ ((x' = x ∧ ∀ m a b c, x ≠ .ent m a b c) ∨ ∃ m j a b c, x = .ent m a b c ∧ x' = .ent j a b c ∧ σ m = some j) := by
  cases o with
  | arr A =>
    simp only [renObj, Option.map_eq_some_iff] at h
    obtain ⟨l, h1, h2⟩ := h
    cases h2
  | map es k =>
    simp only [renObj, Option.map_eq_some_iff] at h
    obtain ⟨l, h1, h2⟩ := h
    cases h2
  | siter x =>
    refine ⟨x, rfl, ?_⟩
    cases x with
    | ent m a b c =>
      simp only [renObj, Option.map_eq_some_iff] at h
      obtain ⟨j, h1, h2⟩ := h
      cases h2
      exact .inr ⟨m, j, a, b, c, rfl, rfl, h1⟩
    | _ => simp [renObj] at h; subst h; exact .inl ⟨rfl, fun _ _ _ _ h => by cases h⟩
  | dead => simp [renObj] at h

theorem renObj_dead {σ : Nat → Option Nat} {o o' : AObj} (h : renObj σ o = some o') : o'.isDead = o.isDead := by
  cases o with
  | arr A =>
    simp only [renObj, Option.map_eq_some_iff] at h
    obtain ⟨l, h1, rfl⟩ := h
    rfl
  | map es k =>
    simp only [renObj, Option.map_eq_some_iff] at h
    obtain ⟨l, h1, rfl⟩ := h
    rfl
  | siter x =>
    cases x with
    | ent m a b c =>
      simp only [renObj, Option.map_eq_some_iff] at h
      obtain ⟨l, h1, rfl⟩ := h
      rfl
    | _ => simp [renObj] at h; subst h; rfl
  | dead => simp [renObj] at h; subst h; rfl

/-- One heap's objects are another one's, under other numbers. -/
structure Ren (σ : Nat → Option Nat) (g : Gh) (h : Heap) (g' : Gh) (h' : Heap) : Prop where
  imm : ∀ b o, g.I b o → g'.I b o
  lt : ∀ id j, σ id = some j → j < h'.length
  mu : ∀ id j, σ id = some j → alive h' j → g'.μ j = g.μ id
  obj : ∀ id j o', σ id = some j → h'[j]? = some o' → ∃ o, h[id]? = some o ∧ renObj σ o = some o'

section
variable {σ : Nat → Option Nat} {g g' : Gh} {h h' : Heap} {w : World}

theorem V.renRef [Nu] (e : Ren σ g h g' h') {x y : AV} {u : Value} (hv : V g h w x u) (hr : renRef σ x = some y) : V g' h' w y u := by
  have free : ∀ {x : AV}, V g h w x u → (bif freeCell x then some x else none) = some y → V g' h' w y u := by
    intro x hv hr
    cases hf : freeCell x with
    | false => rw [hf] at hr; cases hr
    | true => rw [hf] at hr; cases hr; exact .deep ((free_deep hf hv).mono fun b o hi => ⟨e.imm b o hi, rfl⟩)
  cases x with
  | ptr id i off =>
    simp only [Am.renRef, Option.map_eq_some_iff] at hr
    obtain ⟨j, hj, rfl⟩ := hr
    obtain ⟨b, o, rfl, hid, hA, hS⟩ := hv.ptr_inv
    refine .ptr (e.lt _ _ hj) (fun A' hA' => ?_) (fun h0 x hs => ?_)
    · obtain ⟨o1, h1, h2⟩ := e.obj _ _ _ hj hA'
      obtain ⟨A, rfl, hsz, _⟩ := renObj_arr h2
      rw [e.mu _ _ hj (alive_arr hA'), hsz]; exact hA A h1
    · obtain ⟨o1, h1, h2⟩ := e.obj _ _ _ hj hs
      obtain ⟨x0, rfl, _⟩ := renObj_siter h2
      rw [e.mu _ _ hj (alive_siter hs)]; exact hS h0 _ h1
  | _ => exact free hv hr

theorem V.renCell [Nu] (e : Ren σ g h g' h') {x y : AV} {u : Value} (hv : V g h w x u) (hr : renCell σ x = some y) : V g' h' w y u := by
  have free : ∀ {x : AV}, V g h w x u → (bif freeCell x then some x else none) = some y → V g' h' w y u := by
    intro x hv hr
    cases hf : freeCell x with
    | false => rw [hf] at hr; cases hr
    | true => rw [hf] at hr; cases hr; exact .deep ((free_deep hf hv).mono fun b o hi => ⟨e.imm b o hi, rfl⟩)
  cases x with
  | ptr id i off => exact hv.renRef e hr
  | sl id off len full =>
    simp only [Am.renCell, Option.map_eq_some_iff] at hr
    obtain ⟨j, hj, rfl⟩ := hr
    obtain ⟨ad, cap, rfl, hid, hlc, hff, hRR, hAA⟩ := hv.sl_all
    refine .sl (e.lt _ _ hj) hlc hff (fun h0 A' hA' => ?_) (fun A' hA' => ?_)
    · obtain ⟨o1, h1, h2⟩ := e.obj _ _ _ hj hA'
      obtain ⟨A, rfl, _, _, hln, _⟩ := renObj_arr h2
      rw [hln]; exact hRR h0 A h1
    · obtain ⟨o1, h1, h2⟩ := e.obj _ _ _ hj hA'
      obtain ⟨A, rfl, hsz, _⟩ := renObj_arr h2
      rw [e.mu _ _ hj (alive_arr hA'), hsz]; exact hAA A h1
  | map id =>
    simp only [Am.renCell, Option.map_eq_some_iff] at hr
    obtain ⟨j, hj, rfl⟩ := hr
    obtain ⟨r, rfl, hid, hM⟩ := hv.map_inv
    refine .map (e.lt _ _ hj) fun es k hk => ?_
    obtain ⟨o1, h1, h2⟩ := e.obj _ _ _ hj hk
    obtain ⟨es0, rfl, _⟩ := renObj_map h2
    rw [e.mu _ _ hj (alive_map hk)]; exact hM _ _ h1
  | fn f x y =>
    simp only [Am.renCell] at hr
    split at hr
    · rename_i x' y' h1 h2
      cases hr
      obtain ⟨l1, g1⟩ := renL_get h1
      obtain ⟨l2, g2⟩ := renL_get h2
      have inv : ∃ xs ys, u = .func f xs ys ∧ x.length = xs.size ∧ y.length = ys.size ∧ (∀ (i : Nat) (c : AV) (v : Value), x[i]? = some c → xs[i]? = some v → V g h w c v) ∧ (∀ (i : Nat) (c : AV) (v : Value), y[i]? = some c → ys[i]? = some v → V g h w c v) := by
        cases hv with
        | deep hd => cases hd with
          | fn hx hy a b => exact ⟨_, _, rfl, hx, hy, fun i c v hc hv => .deep (a i c v hc hv), fun i c v hc hv => .deep (b i c v hc hv)⟩
        | fn hx hy a b => exact ⟨_, _, rfl, hx, hy, a, b⟩
      obtain ⟨xs, ys, rfl, hx, hy, a, b⟩ := inv
      refine .fn (by omega) (by omega) (fun i c v hc hv => ?_) (fun i c v hc hv => ?_)
      · obtain ⟨c0, q1, q2⟩ := g1 i c hc
        exact (a i c0 v q1 hv).renRef e q2
      · obtain ⟨c0, q1, q2⟩ := g2 i c hc
        exact (b i c0 v q1 hv).renRef e q2
    · cases hr
  | _ => exact free hv hr

theorem V.ren1 [Nu] (e : Ren σ g h g' h') {x y : AV} {u : Value} (hv : V g h w x u) (hr : ren1 σ x = some y) : V g' h' w y u := by
  cases x with
  | agg cs =>
    simp only [Am.ren1, Option.map_eq_some_iff] at hr
    obtain ⟨l, h1, rfl⟩ := hr
    obtain ⟨vs, rfl, hl, hh⟩ := hv.agg_inv
    obtain ⟨e1, e2⟩ := renL_get h1
    refine .agg (by omega) fun i c v hc hv => ?_
    obtain ⟨c0, q1, q2⟩ := e2 i c hc
    exact (hh i c0 v q1 hv).renCell e q2
  | _ => exact hv.renCell e hr

theorem V.renR [Nu] (e : Ren σ g h g' h') {x y : AV} {u : Value} (hv : V g h w x u) (hr : renR σ x = some y) : V g' h' w y u := by
  cases x with
  | tup cs =>
    simp only [Am.renR, Option.map_eq_some_iff] at hr
    obtain ⟨l, h1, rfl⟩ := hr
    obtain ⟨vs, rfl, hl, hh⟩ := hv.tup_inv
    obtain ⟨e1, e2⟩ := renL_get h1
    refine .tup (by omega) fun i c v hc hv => ?_
    obtain ⟨c0, q1, q2⟩ := e2 i c hc
    exact (hh i c0 v q1 hv).ren1 e q2
  | _ => exact hv.ren1 e hr

theorem renCell_shape {x y : AV} (hr : renCell σ x = some y) : cellsOf y = [y] ∧ okCell y = okCell x := by
  have free : ∀ {x : AV}, (∀ cs, x ≠ .agg cs) → (bif freeCell x then some x else none) = some y → cellsOf y = [y] ∧ okCell y = okCell x := by
    intro x hx hr
    cases hf : freeCell x with
    | false => rw [hf] at hr; cases hr
    | true => rw [hf] at hr; cases hr; refine ⟨?_, rfl⟩; cases y <;> first | rfl | (exact (hx _ rfl).elim)
  cases x with
  | ptr id i off => simp only [renCell, Option.map_eq_some_iff] at hr; obtain ⟨j, hj, rfl⟩ := hr; exact ⟨rfl, rfl⟩
  | sl id off len full => simp only [renCell, Option.map_eq_some_iff] at hr; obtain ⟨j, hj, rfl⟩ := hr; exact ⟨rfl, rfl⟩
  | map id => simp only [renCell, Option.map_eq_some_iff] at hr; obtain ⟨j, hj, rfl⟩ := hr; exact ⟨rfl, rfl⟩
  | fn f x y => simp only [renCell] at hr; split at hr <;> cases hr; exact ⟨rfl, rfl⟩
  | agg cs => simp [renCell, freeCell] at hr
  | _ => exact free (fun _ h => by cases h) hr

theorem ren1_cells {x y : AV} (hr : ren1 σ x = some y) : (cellsOf y).length = (cellsOf x).length ∧ ∀ (j : Nat) (c' : AV), (cellsOf y)[j]? = some c' → ∃ c, (cellsOf x)[j]? = some c ∧ renCell σ c = some c' := by
  cases x with
  | agg cs =>
    simp only [ren1, Option.map_eq_some_iff] at hr
    obtain ⟨l, h1, rfl⟩ := hr
    exact renL_get h1
  | _ =>
    simp only [ren1] at hr
    obtain ⟨e1, e2⟩ := renCell_shape hr
    rw [e1]
    refine ⟨rfl, fun j c' hc => ?_⟩
    cases j with
    | zero => simp at hc; subst hc; exact ⟨_, rfl, hr⟩
    | succ j => simp at hc

theorem Ren.arr [Nu] (e : Ren σ g h g' h') (r : R g h w) {id j : Nat} {A' : Arr} (hj : σ id = some j) (hA' : h'[j]? = some (.arr A')) : ArrOk g' h' w j A' := by
  obtain ⟨o, h1, h2⟩ := e.obj _ _ _ hj hA'
  obtain ⟨A, rfl, hsz, _, hln, hren⟩ := renObj_arr h2
  obtain ⟨q1, q2⟩ := renL_get hren
  obtain ⟨a1, a2, a3, a4, a5⟩ := r.arr id A h1
  have hm := e.mu _ _ hj (alive_arr hA')
  refine ⟨by rw [hsz]; exact a1, by rw [hm, hsz, hln]; exact a2, fun i x hx => ?_, fun i x k c hx hc => ?_, fun i x k c hx hc => ?_⟩
  · obtain ⟨x0, p1, p2⟩ := q2 i x hx
    rw [(ren1_cells p2).1, hsz]; exact a3 i x0 p1
  · obtain ⟨x0, p1, p2⟩ := q2 i x hx
    obtain ⟨c0, p3, p4⟩ := (ren1_cells p2).2 k c hc
    rw [(renCell_shape p4).2]; exact a4 i x0 k c0 p1 p3
  · obtain ⟨x0, p1, p2⟩ := q2 i x hx
    obtain ⟨c0, p3, p4⟩ := (ren1_cells p2).2 k c hc
    obtain ⟨u, hu, hv⟩ := a5 i x0 k c0 p1 p3
    rw [hm, hsz]
    exact ⟨u, hu, hv.renCell e p4⟩

theorem Ren.map [Nu] (e : Ren σ g h g' h') (r : R g h w) {id j : Nat} {es' : List (Value × AV × Nat)} {k : Nat} (hj : σ id = some j) (hA' : h'[j]? = some (.map es' k)) : MapOk g' h' w j es' k := by
  obtain ⟨o, h1, h2⟩ := e.obj _ _ _ hj hA'
  obtain ⟨es, rfl, hren⟩ := renObj_map h2
  obtain ⟨q1, q2⟩ := renEnts_get hren
  obtain ⟨vs, a1, a2, a3⟩ := (r.map id es k h1).it
  have hm := e.mu _ _ hj (alive_map hA')
  refine ⟨vs, by rw [hm]; exact a1, by omega, fun i x hx => ?_⟩
  obtain ⟨x0, p1, p2, p3, p4⟩ := q2 i x hx
  obtain ⟨e0, b1, b2, b3, b4⟩ := a3 i x0 p1
  exact ⟨e0, b1, b2.trans p2.symm, b3.trans p3.symm, b4.ren1 e p4⟩

theorem Ren.siter [Nu] (e : Ren σ g h g' h') (r : R g h w) {id j : Nat} {x' : It} (hj : σ id = some j) (hA' : h'[j]? = some (.siter x')) : ∃ o, w.heap[(g'.μ j).1]? = some o ∧ ItOk g' h' w x' o := by
  obtain ⟨o, h1, h2⟩ := e.obj _ _ _ hj hA'
  obtain ⟨x, rfl, hx⟩ := renObj_siter h2
  obtain ⟨ob, a1, a2⟩ := r.siter id x h1
  refine ⟨ob, by rw [e.mu _ _ hj (alive_siter hA')]; exact a1, ?_⟩
  rcases hx with ⟨rfl, hn⟩ | ⟨m, k, a, b, c, rfl, rfl, hk⟩
  · cases a2 with
    | str => exact .str
    | none => exact .none
    | ent hv => exact absurd rfl (hn _ _ _ _)
  · cases a2 with
    | ent hv => exact .ent (hv.renCell e (by simp [Am.renCell, hk]))

theorem Ren.alive (e : Ren σ g h g' h') {id j : Nat} (hj : σ id = some j) (ha : Am.alive h' j) : Am.alive h id := by
  obtain ⟨o', h1, h2⟩ := ha
  obtain ⟨o, h3, h4⟩ := e.obj _ _ _ hj h1
  exact ⟨o, h3, by rw [← renObj_dead h4]; exact h2⟩
end

/-! ### The part that is taken -/
def idx : List Nat → Nat → Option Nat
  | [], _ => none
  | i :: l, k => bif Nat.beq i k then some 0 else (idx l k).map Nat.succ

def nodupB : List Nat → Bool
  | [] => true
  | i :: l => (idx l i).isNone && nodupB l

def putAll : Heap → List Nat → List AObj → Heap
  | h, i :: is, o :: l => (putAll h is l).set i o
  | h, _, _ => h

def pickObjs (h : Heap) : List Nat → Option (List AObj)
  | [] => some []
  | i :: l => match h[i]?, pickObjs h l with
    | some o, some os => some (o :: os)
    | _, _ => none

def backN (n : Nat) (ids : List Nat) (m n' : Nat) (j : Nat) : Option Nat := bif Nat.blt j n' then (bif Nat.blt j m then ids[j]? else some (n + (j - m))) else none

/-- A call told over the objects 'ids' alone, which bear the numbers 0, 1, .. there. -/
def subX (F : List AV → Heap → Option (AV × Heap)) (ids : List Nat) (args : List AV) (h : Heap) : Option (AV × Heap) :=
  match nodupB ids, pickObjs h ids with
  | true, some os => match renL (ren1 (idx ids)) args, renObjs (idx ids) os with
    | some args', some hs => match F args' hs with
      | some (r, hs') => match renR (backN h.length ids ids.length hs'.length) r, renObjs (backN h.length ids ids.length hs'.length) hs' with
        | some r', some l => some (r', putAll h ids l ++ l.drop ids.length)
        | _, _ => none
      | none => none
    | _, _ => none
  | _, _ => none

theorem idx_some : ∀ {ids : List Nat} {k j : Nat}, idx ids k = some j → ids[j]? = some k
  | [], k, j, h => by cases h
  | i :: l, k, j, h => by
    simp only [idx] at h
    cases hb : Nat.beq i k with
    | true => rw [hb] at h; cases h; rw [Nat.eq_of_beq_eq_true hb]; rfl
    | false =>
      rw [hb] at h
      simp only [cond_false, Option.map_eq_some_iff] at h
      obtain ⟨q, h1, rfl⟩ := h
      have := idx_some h1
      simpa using this

theorem idx_of : ∀ {ids : List Nat} {k j : Nat}, nodupB ids = true → ids[j]? = some k → idx ids k = some j
  | [], k, j, _, h => by simp at h
  | i :: l, k, j, hn, h => by
    simp only [nodupB, Bool.and_eq_true] at hn
    cases j with
    | zero => simp at h; subst h; simp [idx]
    | succ j =>
      have h' : l[j]? = some k := by simpa using h
      have := idx_of hn.2 h'
      have hne : Nat.beq i k = false := by
        cases hb : Nat.beq i k with
        | false => rfl
        | true => rw [Nat.eq_of_beq_eq_true hb, this] at hn; simp at hn
      simp [idx, hne, this]

theorem pick_get {h : Heap} : ∀ {ids : List Nat} {os : List AObj}, pickObjs h ids = some os → os.length = ids.length ∧ ∀ (j id : Nat), ids[j]? = some id → os[j]? = h[id]? ∧ id < h.length
  | [], os, hp => by cases hp; exact ⟨rfl, fun j id hj => by simp at hj⟩
  | i :: l, os, hp => by
    simp only [pickObjs] at hp
    split at hp
    · rename_i o os' h1 h2
      cases hp
      obtain ⟨e1, e2⟩ := pick_get h2
      refine ⟨by simp [e1], fun j id hj => ?_⟩
      cases j with
      | zero => simp at hj; subst hj; exact ⟨by simp [h1], lt_of_get h1⟩
      | succ j => exact e2 j id (by simpa using hj)
    · cases hp

theorem putAll_length : ∀ (h : Heap) (ids : List Nat) (l : List AObj), (putAll h ids l).length = h.length
  | h, [], _ => by simp [putAll]
  | h, _ :: _, [] => by simp [putAll]
  | h, i :: is, o :: l => by simp [putAll, putAll_length h is l]

theorem putAll_get : ∀ {h : Heap} {ids : List Nat} {l : List AObj}, ids.length ≤ l.length → ∀ {k : Nat}, k < h.length → (putAll h ids l)[k]? = match idx ids k with | some j => l[j]? | none => h[k]?
  | h, [], l, _, k, hk => by simp [putAll, idx]
  | h, i :: is, [], hl, k, hk => by simp at hl
  | h, i :: is, o :: l, hl, k, hk => by
    have ih := putAll_get (h := h) (ids := is) (l := l) (by simpa using hl) hk
    simp only [putAll, idx]
    rw [set_get, putAll_length]
    cases hb : Nat.beq i k with
    | true =>
      have := Nat.eq_of_beq_eq_true hb
      subst this
      simp [hk]
    | false =>
      have hne : ¬ (k = i ∧ k < h.length) := fun e => by rw [e.1, Nat.beq_refl] at hb; cases hb
      have hne' : ¬ k = i := fun e => by rw [e, Nat.beq_refl] at hb; cases hb
      simp only [hne', false_and, if_false]
      rw [ih]
      cases idx is k <;> simp

/-- What a call says, whatever it is told by. -/
def SaysCall [Nu] (P : Program) (T : Tr) (f : FuncId) (args : List AV) (h : Heap) (r : AV) (h' : Heap) : Prop :=
  ∀ g w (vs : Array Value), R g h w → GlobV T g h w → args.length = vs.size → (∀ (i : Nat) (c : AV) (v : Value), args[i]? = some c → vs[i]? = some v → V g h w c v) →
    Calls P f vs w fun e w' => ∃ v g', e = .returned v ∧ V g' h' w' r v ∧ Post g h w g' h' w' ∧ R g' h' w'

theorem subX_ok [Nu] {P : Program} {T : Tr} {f : FuncId} {F : List AV → Heap → Option (AV × Heap)} (hF : ∀ args h r h', F args h = some (r, h') → SaysCall P T f args h r h')
    {ids : List Nat} {args : List AV} {h h' : Heap} {r : AV} (hc : subX F ids args h = some (r, h')) : SaysCall P T f args h r h' := by
  unfold subX at hc
  split at hc
  · rename_i os hnd hpk
    split at hc
    · rename_i args' hs ha' hhs
      split at hc
      · rename_i r0 hs1 hrun
        split at hc
        · rename_i r1 l hr1 hl
          cases hc
          intro g w vs hr hgl hlen hv
          obtain ⟨pk1, pk2⟩ := pick_get hpk
          obtain ⟨hsl, hsg⟩ := renObjs_get hhs
          obtain ⟨ll, lg⟩ := renObjs_get hl
          obtain ⟨al1, al2⟩ := renL_get ha'
          have hμ : ∀ j id, ids[j]? = some id → (⟨fun j => match ids[j]? with | some id => g.μ id | none => (0, 0), g.I⟩ : Gh).μ j = g.μ id := fun j id h => by simp only [h]
          generalize hgs : (⟨fun j => match ids[j]? with | some id => g.μ id | none => (0, 0), g.I⟩ : Gh) = gs at hμ
          have hI : gs.I = g.I := by rw [← hgs]
          have E1 : Ren (idx ids) g h gs hs := {
            imm := fun b o hi => by rw [hI]; exact hi
            lt := fun id j hj => by have := lt_of_get (idx_some hj); omega
            mu := fun id j hj _ => hμ j id (idx_some hj)
            obj := fun id j o' hj ho => by
              obtain ⟨o, h1, h2⟩ := hsg j o' ho
              exact ⟨o, by rw [← (pk2 j id (idx_some hj)).1]; exact h1, h2⟩ }
          have sur : ∀ (j : Nat) (o' : AObj), hs[j]? = some o' → ∃ id, ids[j]? = some id ∧ idx ids id = some j := fun j o' ho => by
            have hj : j < ids.length := by have := lt_of_get ho; omega
            exact ⟨ids[j], List.getElem?_eq_getElem hj, idx_of hnd (List.getElem?_eq_getElem hj)⟩
          have Rs : R gs hs w := {
            arr := fun j A hA => by obtain ⟨id, _, h2⟩ := sur j _ hA; exact E1.arr hr h2 hA
            map := fun j es k hA => by obtain ⟨id, _, h2⟩ := sur j _ hA; exact E1.map hr h2 hA
            siter := fun j x hA => by obtain ⟨id, _, h2⟩ := sur j _ hA; exact E1.siter hr h2 hA
            inj := fun i j hi hj he => by
              obtain ⟨a, a1, a2⟩ := sur i _ hi.choose_spec.1
              obtain ⟨b, b1, b2⟩ := sur j _ hj.choose_spec.1
              rw [hμ i a a1, hμ j b b1] at he
              have := hr.inj a b (E1.alive a2 hi) (E1.alive b2 hj) he
              subst this
              rw [a2] at b2; exact Option.some.inj b2
            imm := fun b o hi => by
              rw [hI] at hi
              refine ⟨(hr.imm b o hi).1, fun j ha he => ?_⟩
              obtain ⟨id, h1, h2⟩ := sur j _ ha.choose_spec.1
              rw [hμ j id h1] at he ⊢
              obtain ⟨A, a1, a2, a3⟩ := (hr.imm b o hi).2 id (E1.alive h2 ha) he
              obtain ⟨x, hx, hxd⟩ := ha
              obtain ⟨o1, q1, q2⟩ := E1.obj id j x h2 hx
              rw [a1] at q1; cases q1
              simp only [renObj, Option.map_eq_some_iff] at q2
              obtain ⟨l2, q3, rfl⟩ := q2
              exact ⟨_, hx, a2, by simpa only [(renL_get q3).1] using a3⟩ }
          have gls : GlobV T gs hs w := ⟨fun i => by rw [hI]; exact hgl.v i, fun i hi => ⟨(hgl.fix i hi).1, fun j ha => by
            obtain ⟨id, h1, h2⟩ := sur j _ ha.choose_spec.1
            rw [hμ j id h1]
            exact (hgl.fix i hi).2 id (E1.alive h2 ha)⟩⟩
          have base := hF args' hs r0 hs1 hrun gs w vs Rs gls (by omega) (fun i c v hc hvv => by
            obtain ⟨c0, q1, q2⟩ := al2 i c hc
            exact (hv i c0 v q1 hvv).ren1 E1 q2)
          refine base.mono ?_
          rintro e w' ⟨v, g', rfl, hv', hp, hR⟩
          have hle : ids.length ≤ hs1.length := by have := hp.ext.len; omega
          have hll : ids.length ≤ l.length := by omega
          have hin : ∀ (j id : Nat), ids[j]? = some id → id < h.length := fun j id hj => (pk2 j id hj).2
          have τin : ∀ j k, backN h.length ids ids.length hs1.length j = some k → j < hs1.length ∧ ((j < ids.length ∧ ids[j]? = some k ∧ k < h.length) ∨ (ids.length ≤ j ∧ k = h.length + (j - ids.length))) := by
            intro j k hj
            unfold backN at hj
            cases h1 : Nat.blt j hs1.length with
            | false => rw [h1] at hj; cases hj
            | true =>
              have h1' : j < hs1.length := Nat.le_of_ble_eq_true h1
              rw [h1] at hj
              simp only [cond_true] at hj
              cases h2 : Nat.blt j ids.length with
              | true =>
                rw [h2] at hj
                simp only [cond_true] at hj
                exact ⟨h1', .inl ⟨Nat.le_of_ble_eq_true h2, hj, hin j k hj⟩⟩
              | false =>
                rw [h2] at hj
                simp only [cond_false, Option.some.injEq] at hj
                have : ¬ j < ids.length := fun h3 => by
                  have : Nat.blt j ids.length = true := Nat.ble_eq_true_of_le h3
                  rw [this] at h2; cases h2
                exact ⟨h1', .inr ⟨by omega, hj.symm⟩⟩
          have τof : ∀ j k, j < hs1.length → ((j < ids.length ∧ ids[j]? = some k) ∨ (ids.length ≤ j ∧ k = h.length + (j - ids.length))) → backN h.length ids ids.length hs1.length j = some k := by
            intro j k h1 h2
            unfold backN
            rw [show Nat.blt j hs1.length = true from Nat.ble_eq_true_of_le h1]
            rcases h2 with ⟨h2, h3⟩ | ⟨h2, rfl⟩
            · rw [show Nat.blt j ids.length = true from Nat.ble_eq_true_of_le h2]; exact h3
            · have : Nat.blt j ids.length = false := by
                cases hb : Nat.blt j ids.length with
                | false => rfl
                | true => have : j < ids.length := Nat.le_of_ble_eq_true hb; omega
              rw [this]; rfl
          generalize hτ : backN h.length ids ids.length hs1.length = τ at hr1 hl lg τin τof
          have hk2 : ∀ k, k < h.length → (putAll h ids l ++ l.drop ids.length)[k]? = match idx ids k with | some j => l[j]? | none => h[k]? := fun k hk => by
            rw [List.getElem?_append_left (by rw [putAll_length]; exact hk)]; exact putAll_get hll hk
          have hnew : ∀ j, ids.length ≤ j → (putAll h ids l ++ l.drop ids.length)[h.length + (j - ids.length)]? = l[j]? := fun j hj => by
            rw [List.getElem?_append_right (by rw [putAll_length]; omega), putAll_length, List.getElem?_drop]
            congr 1; omega
          have h2len : (putAll h ids l ++ l.drop ids.length).length = h.length + (l.length - ids.length) := by rw [List.length_append, putAll_length, List.length_drop]
          generalize (putAll h ids l ++ l.drop ids.length) = h2 at hk2 hnew h2len
          have τget : ∀ j k, τ j = some k → h2[k]? = l[j]? := fun j k hj => by
            rcases (τin j k hj).2 with ⟨_, h3, h4⟩ | ⟨h3, rfl⟩
            · rw [hk2 k h4, idx_of hnd h3]
            · exact hnew j h3
          have cls : ∀ (k : Nat) (o : AObj), h2[k]? = some o → (k < h.length ∧ idx ids k = none ∧ h[k]? = some o) ∨ ∃ j, τ j = some k ∧ l[j]? = some o := by
            intro k o ho
            by_cases hk : k < h.length
            · cases hi : idx ids k with
              | none => rw [hk2 k hk, hi] at ho; exact .inl ⟨hk, rfl, ho⟩
              | some j =>
                rw [hk2 k hk, hi] at ho
                have := lt_of_get (idx_some hi)
                exact .inr ⟨j, τof j k (by omega) (.inl ⟨this, idx_some hi⟩), ho⟩
            · have hkl := lt_of_get ho
              have e1 : k = h.length + ((ids.length + (k - h.length)) - ids.length) := by omega
              rw [e1, hnew _ (by omega)] at ho
              exact .inr ⟨ids.length + (k - h.length), τof _ _ (by omega) (.inr ⟨by omega, e1⟩), ho⟩
          have muin : ∀ j id, ids[j]? = some id → alive hs1 j → g'.μ j = gs.μ j ∧ alive hs j := by
            rintro j id hj ⟨o, ho, hd⟩
            have hjlt : j < hs.length := by have := lt_of_get hj; omega
            cases o with
            | arr A' => obtain ⟨A, h1, _, hm, _⟩ := hp.ext.keepA j A' hjlt ho; exact ⟨hm, alive_arr h1⟩
            | map es k => obtain ⟨es0, k0, h1, hm⟩ := hp.ext.keepM j es k hjlt ho; exact ⟨hm, alive_map h1⟩
            | siter x => obtain ⟨x0, h1, hm⟩ := hp.ext.keepS j x hjlt ho; exact ⟨hm, alive_siter h1⟩
            | dead => simp [AObj.isDead] at hd
          have al2' : ∀ j k, τ j = some k → alive h2 k → alive hs1 j := by
            rintro j k hj ⟨o, ho, hd⟩
            rw [τget j k hj] at ho
            obtain ⟨o1, q1, q2⟩ := lg j o ho
            exact ⟨o1, q1, by rw [← renObj_dead q2]; exact hd⟩
          have hg2 : ∀ k, k < h.length → (⟨fun k => if k < h.length then g.μ k else g'.μ (ids.length + (k - h.length)), g'.I⟩ : Gh).μ k = g.μ k := fun k hk => if_pos hk
          have hg3 : ∀ j, ids.length ≤ j → (⟨fun k => if k < h.length then g.μ k else g'.μ (ids.length + (k - h.length)), g'.I⟩ : Gh).μ (h.length + (j - ids.length)) = g'.μ j := fun j hj => by
            show (if _ then _ else _) = _
            rw [if_neg (by omega)]; congr 1; omega
          have hgI : (⟨fun k => if k < h.length then g.μ k else g'.μ (ids.length + (k - h.length)), g'.I⟩ : Gh).I = g'.I := rfl
          generalize (⟨fun k => if k < h.length then g.μ k else g'.μ (ids.length + (k - h.length)), g'.I⟩ : Gh) = g2 at hg2 hg3 hgI
          have E2 : Ren τ g' hs1 g2 h2 := {
            imm := fun b o hi => by rw [hgI]; exact hi
            lt := fun j k hj => by
              have h1 := (τin j k hj).1
              rcases (τin j k hj).2 with ⟨_, _, h4⟩ | ⟨h3, rfl⟩ <;> omega
            mu := fun j k hj ha => by
              have ha1 := al2' j k hj ha
              rcases (τin j k hj).2 with ⟨_, h3, h4⟩ | ⟨h3, rfl⟩
              · rw [hg2 k h4, (muin j k h3 ha1).1, hμ j k h3]
              · exact hg3 j h3
            obj := fun j k o' hj ho => by rw [τget j k hj] at ho; exact lg j o' ho }
          have hinj : ∀ id, alive h id → idx ids id = none → ∀ j, alive hs j → (gs.μ j).1 ≠ (g.μ id).1 := by
            intro id ha hn j hj he
            obtain ⟨k, h1, h2⟩ := sur j _ hj.choose_spec.1
            rw [hμ j k h1] at he
            have := hr.inj k id (E1.alive h2 hj) ha he
            subst this
            rw [hn] at h2; cases h2
          have fr : ∀ id, alive h id → idx ids id = none → w'.heap[(g.μ id).1]? = w.heap[(g.μ id).1]? := fun id ha hn => hp.frame _ (hr.block_lt ha) (hinj id ha hn)
          have EE : Ext g h w g2 h2 w' := by
            refine ⟨fun b o hi => ?_, by omega, fun k A hk hA => ?_, fun k es c hk hA => ?_, fun k x hk hA => ?_⟩
            · obtain ⟨a, b⟩ := hp.ext.imm b o (by rw [hI]; exact hi)
              exact ⟨by rw [hgI]; exact a, b⟩
            · rcases cls k _ hA with ⟨_, hn, h1⟩ | ⟨j, hj, h1⟩
              · exact ⟨A, h1, ⟨rfl, rfl⟩, hg2 k hk, shape_of_heap (fr k (alive_arr h1) hn)⟩
              · obtain ⟨o, q1, q2⟩ := lg j _ h1
                obtain ⟨A1, rfl, s1, _, s2, _⟩ := renObj_arr q2
                rcases (τin j k hj).2 with ⟨h3, h4, h5⟩ | ⟨h3, rfl⟩
                · obtain ⟨A0, p1, ⟨p2, p3⟩, p4, p5⟩ := hp.ext.keepA j A1 (by omega) q1
                  obtain ⟨o0, z1, z2⟩ := E1.obj k j _ (idx_of hnd h4) p1
                  obtain ⟨A2, rfl, y1, _, y2, _⟩ := renObj_arr z2
                  exact ⟨A2, z1, ⟨by rw [s1, p2, y1], by rw [s2, p3, y2]⟩, hg2 k hk, by rw [hμ j k h4] at p5; exact p5⟩
                · omega
            · rcases cls k _ hA with ⟨_, hn, h1⟩ | ⟨j, hj, h1⟩
              · exact ⟨es, c, h1, hg2 k hk⟩
              · obtain ⟨o, q1, q2⟩ := lg j _ h1
                obtain ⟨es1, rfl, _⟩ := renObj_map q2
                rcases (τin j k hj).2 with ⟨h3, h4, h5⟩ | ⟨h3, rfl⟩
                · obtain ⟨es0, c0, p1, p2⟩ := hp.ext.keepM j es1 c (by omega) q1
                  obtain ⟨o0, z1, z2⟩ := E1.obj k j _ (idx_of hnd h4) p1
                  obtain ⟨es2, rfl, _⟩ := renObj_map z2
                  exact ⟨es2, _, z1, hg2 k hk⟩
                · omega
            · rcases cls k _ hA with ⟨_, hn, h1⟩ | ⟨j, hj, h1⟩
              · exact ⟨x, h1, hg2 k hk⟩
              · obtain ⟨o, q1, q2⟩ := lg j _ h1
                obtain ⟨x1, rfl, _⟩ := renObj_siter q2
                rcases (τin j k hj).2 with ⟨h3, h4, h5⟩ | ⟨h3, rfl⟩
                · obtain ⟨x0, p1, p2⟩ := hp.ext.keepS j x1 (by omega) q1
                  obtain ⟨o0, z1, z2⟩ := E1.obj k j _ (idx_of hnd h4) p1
                  obtain ⟨x2, rfl, _⟩ := renObj_siter z2
                  exact ⟨x2, z1, hg2 k hk⟩
                · omega
          -- an object that is alive behind the call: an outer one, or one of the part
          have cla : ∀ k, alive h2 k → (k < h.length ∧ idx ids k = none ∧ alive h k) ∨ ∃ j, τ j = some k ∧ alive hs1 j := by
            rintro k ⟨o, ho, hd⟩
            rcases cls k o ho with ⟨h1, h2, h3⟩ | ⟨j, hj, h1⟩
            · exact .inl ⟨h1, h2, o, h3, hd⟩
            · exact .inr ⟨j, hj, al2' j k hj ⟨o, ho, hd⟩⟩
          have PP : Post g h w g2 h2 w' := by
            refine ⟨EE, hp.size, fun b hb hn => hp.frame b hb fun j hj => ?_, fun k ha => ?_, fun b o hi => ?_, hp.os, hp.tape, hp.output⟩
            · obtain ⟨id, h1, h3⟩ := sur j _ hj.choose_spec.1
              rw [hμ j id h1]
              exact hn id (E1.alive h3 hj)
            · rcases cla k ha with ⟨h1, _, h3⟩ | ⟨j, hj, h1⟩
              · exact .inr ⟨k, h3, by rw [hg2 k h1]⟩
              · rw [E2.mu j k hj ha]
                rcases hp.own j h1 with h3 | ⟨q, hq, he⟩
                · exact .inl h3
                · obtain ⟨id, h4, h5⟩ := sur q _ hq.choose_spec.1
                  exact .inr ⟨id, E1.alive h5 hq, by rw [← hμ q id h4]; exact he⟩
            · rw [hgI] at hi
              rcases hp.immNew b o hi with h1 | h1 | ⟨q, hq, he⟩
              · rw [hI] at h1; exact .inl h1
              · exact .inr (.inl h1)
              · obtain ⟨id, h4, h5⟩ := sur q _ hq.choose_spec.1
                exact .inr (.inr ⟨id, E1.alive h5 hq, by rw [← hμ q id h4]; exact he⟩)
          -- an outer object's block is no block of the part's
          have apart : ∀ k, k < h.length → idx ids k = none → alive h k → ∀ j, alive hs1 j → (g'.μ j).1 ≠ (g.μ k).1 := by
            intro k hk hn ha j hj he
            rcases hp.own j hj with h1 | ⟨q, hq, h1⟩
            · have := hr.block_lt ha; omega
            · exact hinj k ha hn q hq (h1.trans he)
          refine ⟨v, g2, rfl, hv'.renR E2 hr1, PP, ?_⟩
          refine ⟨fun k A hA => ?_, fun k es c hA => ?_, fun k x hA => ?_, fun i j hi hj he => ?_, fun b o hi => ⟨?_, fun k ha he => ?_⟩⟩
          · rcases cls k _ hA with ⟨hk, hn, h1⟩ | ⟨j, hj, h1⟩
            · have hh := fr k (alive_arr h1) hn
              obtain ⟨a1, a2, a3, a4, a5⟩ := hr.arr k A h1
              refine ⟨a1, ?_, a3, a4, fun i e' j x he hx => ?_⟩
              · rw [hg2 k hk]
                obtain ⟨T, n, a, b, c⟩ := a2
                exact ⟨T, n, by rw [shape_of_heap hh]; exact a, b, fun o ho => by rw [frozen_of_heap hh]; exact c o ho⟩
              · rw [hg2 k hk, cell_of_heap hh]
                obtain ⟨u, hu, hv⟩ := a5 i e' j x he hx
                exact ⟨u, hu, hv.ext EE⟩
            · exact E2.arr hR hj hA
          · rcases cls k _ hA with ⟨hk, hn, h1⟩ | ⟨j, hj, h1⟩
            · have hh := fr k (alive_map h1) hn
              obtain ⟨es', a1, a2, a3⟩ := (hr.map k es c h1).it
              refine ⟨es', by rw [hg2 k hk, hh]; exact a1, a2, fun i x hx => ?_⟩
              obtain ⟨e', a, b, c, d⟩ := a3 i x hx
              exact ⟨e', a, b, c, d.ext EE⟩
            · exact E2.map hR hj hA
          · rcases cls k _ hA with ⟨hk, hn, h1⟩ | ⟨j, hj, h1⟩
            · have hh := fr k (alive_siter h1) hn
              obtain ⟨ob, a1, a2⟩ := hr.siter k x h1
              exact ⟨ob, by rw [hg2 k hk, hh]; exact a1, a2.ext EE⟩
            · exact E2.siter hR hj hA
          · rcases cla i hi with ⟨i1, i2, i3⟩ | ⟨p, p1, p2⟩
            · rcases cla j hj with ⟨j1, j2, j3⟩ | ⟨q, q1, q2⟩
              · rw [hg2 i i1, hg2 j j1] at he; exact hr.inj i j i3 j3 he
              · rw [hg2 i i1, E2.mu q j q1 hj] at he; exact absurd he.symm (apart i i1 i2 i3 q q2)
            · rcases cla j hj with ⟨j1, j2, j3⟩ | ⟨q, q1, q2⟩
              · rw [hg2 j j1, E2.mu p i p1 hi] at he; exact absurd he (apart j j1 j2 j3 p p2)
              · rw [E2.mu p i p1 hi, E2.mu q j q1 hj] at he
                have := hR.inj p q p2 q2 he
                subst this
                rw [p1] at q1; exact Option.some.inj q1
          · rw [hgI] at hi; exact (hR.imm b o hi).1
          · rw [hgI] at hi
            rcases cla k ha with ⟨k1, k2, k3⟩ | ⟨j, j1, j2⟩
            · rw [hg2 k k1] at he ⊢
              have hkk : h2[k]? = h[k]? := by rw [hk2 k k1, k2]
              rw [hkk]
              rcases hp.immNew b o hi with h1 | h1 | ⟨q, hq, hqe⟩
              · rw [hI] at h1; exact (hr.imm b o h1).2 k k3 he
              · have := hr.block_lt k3; omega
              · exact absurd (hqe.trans he.symm) (hinj k k3 k2 q hq)
            · rw [E2.mu j k j1 ha] at he ⊢
              obtain ⟨A, a1, a2, a3⟩ := (hR.imm b o hi).2 j j2 he
              obtain ⟨o', ho', _⟩ := ha
              obtain ⟨o1, q1, q2⟩ := E2.obj j k o' j1 ho'
              rw [a1] at q1; cases q1
              simp only [renObj, Option.map_eq_some_iff] at q2
              obtain ⟨l2, q3, rfl⟩ := q2
              exact ⟨_, ho', a2, by simpa only [(renL_get q3).1] using a3⟩
        · cases hc
      · cases hc
    · cases hc
  · cases hc

end Go.Am
