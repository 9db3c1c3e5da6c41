import Derived.Test.YtkkjoomlfmofbaaGreatDoorAm2
set_option linter.unusedSimpArgs false
set_option linter.unusedVariables false
set_option linter.unusedSectionVars false
/-! Steps of memory: a new row, a new row that nobody writes, a store, an append in place, what is marked. -/
namespace Go.Am

section world
variable (w : World) (b o : Nat) (vs : List Value)

theorem shape_setCell (a : Addr) (v : Value) (r : Nat) : (w.setCell a v).shape? r = w.shape? r := by
  simp only [World.setCell, World.shape?, Array.getElem?_modify]
  by_cases hb : a.block = r
  · simp only [hb, if_true]
    cases hh : w.heap[r]? with
    | none => simp
    | some x => cases x <;> simp <;> (split <;> simp)
  · simp [hb]

theorem shape_setCells : ∀ (vs : List Value) (o : Nat) (w : World) (r : Nat), (w.setCells b o vs).shape? r = w.shape? r
  | [], _, _, _ => rfl
  | v :: t, o, w, r => by rw [World.setCells, shape_setCells t, shape_setCell]

theorem heap_setCells : ∀ (vs : List Value) (o : Nat) (w : World) (k : Nat), k ≠ b → (w.setCells b o vs).heap[k]? = w.heap[k]?
  | [], _, _, _, _ => rfl
  | v :: t, o, w, k, hk => by
    rw [World.setCells, heap_setCells t _ _ _ hk]
    simp only [World.setCell, Array.getElem?_modify]
    rw [if_neg (by simpa using Ne.symm hk)]

theorem size_setCells : ∀ (vs : List Value) (o : Nat) (w : World), (w.setCells b o vs).heap.size = w.heap.size
  | [], _, _ => rfl
  | v :: t, o, w => by rw [World.setCells, size_setCells t]; simp

theorem os_setCells : ∀ (vs : List Value) (o : Nat) (w : World), (w.setCells b o vs).os = w.os ∧ (w.setCells b o vs).tape = w.tape ∧ (w.setCells b o vs).output = w.output
  | [], _, _ => ⟨rfl, rfl, rfl⟩
  | v :: t, o, w => by rw [World.setCells]; exact os_setCells t _ _

theorem cell_of_shape {r : Nat} {T n : Nat} (h : w.shape? r = some (T, n)) {i : Nat} (hi : i < n) : (w.cell? ⟨r, i, none⟩).isSome = true := by
  unfold World.shape? at h
  unfold World.cell?
  cases hh : w.heap[r]? with
  | none => simp [hh] at h
  | some x =>
    cases x <;> simp [hh] at h ⊢
    omega

theorem shape_lt {r : Nat} {x : TypeId × Nat} (h : w.shape? r = some x) : r < w.heap.size := by
  unfold World.shape? at h
  rcases Nat.lt_or_ge r w.heap.size with h' | h'
  · exact h'
  · simp [Array.getElem?_eq_none h'] at h

theorem heap_alloc_lt (x : Obj) {k : Nat} (hk : k < w.heap.size) : (w.alloc x).heap[k]? = w.heap[k]? := by
  show (w.heap.push x)[k]? = _
  rw [Array.getElem?_push, if_neg (by omega)]

theorem heap_alloc_at (x : Obj) : (w.alloc x).heap[w.heap.size]? = some x := by
  show (w.heap.push x)[w.heap.size]? = _
  simp

theorem shape_of_heap {w w' : World} {k : Nat} (h : w'.heap[k]? = w.heap[k]?) : w'.shape? k = w.shape? k := by
  unfold World.shape?; rw [h]

theorem cell_of_heap {w w' : World} {k : Nat} (h : w'.heap[k]? = w.heap[k]?) (i : Nat) : w'.cell? ⟨k, i, none⟩ = w.cell? ⟨k, i, none⟩ := by
  unfold World.cell?; simp only; rw [h]

theorem frozen_of_heap {w w' : World} {k : Nat} (h : w'.heap[k]? = w.heap[k]?) (i : Nat) : w'.frozen? ⟨k, i, none⟩ = w.frozen? ⟨k, i, none⟩ := by
  unfold World.frozen?; simp only; rw [h]
end world

theorem R.block_lt [Nu] {g : Gh} {h : Heap} {w : World} (r : R g h w) {id : Nat} (ha : alive h id) : (g.μ id).1 < w.heap.size := by
  obtain ⟨o, ho, hd⟩ := ha
  cases o with
  | arr A => obtain ⟨T, n, hs, _⟩ := (r.arr id A ho).shape; exact shape_lt _ hs
  | map es k =>
    obtain ⟨es', he, _⟩ := (r.map id es k ho).it
    rcases Nat.lt_or_ge (g.μ id).1 w.heap.size with h' | h'
    · exact h'
    · simp [Array.getElem?_eq_none h'] at he
  | siter x =>
    obtain ⟨ob, he, _⟩ := r.siter id x ho
    rcases Nat.lt_or_ge (g.μ id).1 w.heap.size with h' | h'
    · exact h'
    · simp [Array.getElem?_eq_none h'] at he
  | dead => simp [AObj.isDead] at hd

theorem R.imm_lt [Nu] {g : Gh} {h : Heap} {w : World} (r : R g h w) {b o : Nat} (hi : g.I b o) : b < w.heap.size := by
  obtain ⟨⟨u, hu⟩, _⟩ := r.imm b o hi
  exact World.block_lt_of_cell? _ _ hu

/-- What holds of the objects is kept where their blocks and the values are. -/
theorem R.keep [Nu] {g g' : Gh} {h : Heap} {w w' : World} (r : R g h w) (e : Ext g h w g' h w') (hμ : ∀ id, alive h id → g'.μ id = g.μ id)
    (hb : ∀ id, alive h id → w'.heap[(g.μ id).1]? = w.heap[(g.μ id).1]?)
    (hI : ∀ b o, g'.I b o → (∃ u, w'.cell? ⟨b, o, none⟩ = some u) ∧
      ∀ id, alive h id → (g.μ id).1 = b → ∃ A, h[id]? = some (.arr A) ∧ A.shared = true ∧ o < (g.μ id).2 + A.elems.length * A.sz) : R g' h w' where
  arr := fun id A hA => by
    have hm := hμ id (alive_arr hA)
    have hh := hb id (alive_arr hA)
    obtain ⟨h1, h2, h3, h4, h5⟩ := r.arr id A hA
    refine ⟨h1, ?_, h3, h4, fun i e' j x he hx => ?_⟩
    · rw [hm]
      obtain ⟨T, n, a, b, c⟩ := h2
      exact ⟨T, n, by rw [shape_of_heap hh]; exact a, b, fun o ho => by rw [frozen_of_heap hh]; exact c o ho⟩
    · rw [hm, cell_of_heap hh]
      obtain ⟨u, hu, hv⟩ := h5 i e' j x he hx
      exact ⟨u, hu, hv.ext e⟩
  map := fun id es k hk => by
    have hm := hμ id (alive_map hk)
    have hh := hb id (alive_map hk)
    obtain ⟨es', h1, h2, h3⟩ := (r.map id es k hk).it
    refine ⟨es', by rw [hm, hh]; exact h1, h2, fun i x hx => ?_⟩
    obtain ⟨e', a, b, c, d⟩ := h3 i x hx
    exact ⟨e', a, b, c, d.ext e⟩
  siter := fun id x hs => by
    obtain ⟨ob, h1, h2⟩ := r.siter id x hs
    exact ⟨ob, by rw [hμ id (alive_siter hs), hb id (alive_siter hs)]; exact h1, h2.ext e⟩
  inj := fun i j hi hj he => r.inj i j hi hj (by rw [← hμ i hi, ← hμ j hj]; exact he)
  imm := fun b o hi => ⟨(hI b o hi).1, fun id ha he => by
    rw [hμ id ha] at he ⊢
    exact (hI b o hi).2 id ha he⟩

/-! ### A draw -/
theorem drew_ok [Nu] {g : Gh} {h : Heap} {w : World} (r : R g h w) : Post g h w g h w.drew ∧ R g h w.drew := by
  have e : Ext g h w g h w.drew := ⟨fun _ _ hi => ⟨hi, rfl⟩, Nat.le_refl _, fun _ A _ hA => ⟨A, hA, ⟨rfl, rfl⟩, rfl, rfl⟩, fun _ es k _ hk => ⟨es, k, hk, rfl⟩, fun _ x _ hk => ⟨x, hk, rfl⟩⟩
  exact ⟨⟨e, Nat.le_refl _, fun _ _ _ => rfl, fun id ha => .inr ⟨id, ha, rfl⟩, fun _ _ hi => .inl hi, rfl, rfl, rfl⟩, r.keep e (fun _ _ => rfl) (fun _ _ => rfl) (fun b o hi => r.imm b o hi)⟩

/-! ### A new row that nobody writes -/
theorem new_imm [Nu] {g : Gh} {h : Heap} {w : World} (r : R g h w) (c : Array Value) (T : TypeId) (fz : Nat × Nat) :
    let g' : Gh := { g with I := fun b o => g.I b o ∨ (b = w.heap.size ∧ o < c.size) }
    Post g h w g' h (w.alloc (.cells c T fz)) ∧ R g' h (w.alloc (.cells c T fz)) := by
  intro g'
  have hc : ∀ b o, b < w.heap.size → (w.alloc (.cells c T fz)).cell? ⟨b, o, none⟩ = w.cell? ⟨b, o, none⟩ := fun b o hb => cell_of_heap (heap_alloc_lt _ _ hb) o
  have e : Ext g h w g' h (w.alloc (.cells c T fz)) := by
    refine ⟨fun b o hi => ⟨.inl hi, hc _ _ (r.imm_lt hi)⟩, Nat.le_refl _, fun id A _ hA => ⟨A, hA, ⟨rfl, rfl⟩, rfl, ?_⟩, fun _ es k _ hk => ⟨es, k, hk, rfl⟩, fun _ x _ hk => ⟨x, hk, rfl⟩⟩
    exact shape_of_heap (heap_alloc_lt _ _ (r.block_lt (alive_arr hA)))
  refine ⟨⟨e, by simp, fun b hb _ => heap_alloc_lt _ _ hb, fun id ha => .inr ⟨id, ha, rfl⟩, fun b o hi => ?_, rfl, rfl, rfl⟩, r.keep e (fun _ _ => rfl) (fun id ha => heap_alloc_lt _ _ (r.block_lt ha)) fun b o hi => ?_⟩
  · rcases hi with hi | ⟨rfl, _⟩
    · exact .inl hi
    · exact .inr (.inl (Nat.le_refl _))
  · rcases hi with hi | ⟨rfl, ho⟩
    · obtain ⟨⟨u, hu⟩, h2⟩ := r.imm b o hi
      exact ⟨⟨u, by rw [hc _ _ (r.imm_lt hi)]; exact hu⟩, h2⟩
    · refine ⟨⟨c[o], ?_⟩, fun id ha he => ?_⟩
      · unfold World.cell?; simp only; rw [heap_alloc_at]; simp [ho]
      · have := r.block_lt ha; omega

/-! ### A new object -/
theorem getElem_snoc {α : Type} (l : List α) (x : α) (i : Nat) : (l ++ [x])[i]? = if i < l.length then l[i]? else if i = l.length then some x else none := by
  by_cases h : i < l.length
  · rw [List.getElem?_append_left h, if_pos h]
  · rw [List.getElem?_append_right (by omega), if_neg h]
    by_cases h2 : i = l.length
    · subst h2; simp
    · rw [if_neg h2, List.getElem?_eq_none (by simp; omega)]

theorem alive_snoc {h : Heap} {o : AObj} {id : Nat} (ha : alive (h ++ [o]) id) : alive h id ∨ id = h.length := by
  obtain ⟨x, hx, hd⟩ := ha
  rw [getElem_snoc] at hx
  split at hx
  · exact .inl ⟨x, hx, hd⟩
  · split at hx
    · exact .inr (by assumption)
    · cases hx

theorem alive_snoc_of {h : Heap} {o : AObj} {id : Nat} (ha : alive h id) : alive (h ++ [o]) id := by
  obtain ⟨x, hx, hd⟩ := ha
  have := alive.lt ⟨x, hx, hd⟩
  exact ⟨x, by rw [getElem_snoc, if_pos this]; exact hx, hd⟩

/-- The ghost behind a new object at block b. -/
def Gh.push (g : Gh) (k : Nat) (b base : Nat) : Gh := { g with μ := fun i => if i = k then (b, base) else g.μ i }

theorem Gh.push_old {g : Gh} {k b base i : Nat} (h : i ≠ k) : (g.push k b base).μ i = g.μ i := by simp [Gh.push, h]
theorem Gh.push_new {g : Gh} {k b base : Nat} : (g.push k b base).μ k = (b, base) := by simp [Gh.push]

theorem new_obj [Nu] {g : Gh} {h : Heap} {w : World} (r : R g h w) (o : AObj) (x : Obj)
    (hA : ∀ A, o = .arr A → Ext g h w (g.push h.length w.heap.size 0) (h ++ [o]) (w.alloc x) → ArrOk (g.push h.length w.heap.size 0) (h ++ [o]) (w.alloc x) h.length A)
    (hM : ∀ es k, o = .map es k → Ext g h w (g.push h.length w.heap.size 0) (h ++ [o]) (w.alloc x) → MapOk (g.push h.length w.heap.size 0) (h ++ [o]) (w.alloc x) h.length es k)
    (hS : ∀ y, o = .siter y → Ext g h w (g.push h.length w.heap.size 0) (h ++ [o]) (w.alloc x) → ItOk (g.push h.length w.heap.size 0) (h ++ [o]) (w.alloc x) y x) :
    Post g h w (g.push h.length w.heap.size 0) (h ++ [o]) (w.alloc x) ∧ R (g.push h.length w.heap.size 0) (h ++ [o]) (w.alloc x) := by
  have hne : ∀ id, alive h id → id ≠ h.length := fun id ha => Nat.ne_of_lt ha.lt
  have hc : ∀ b i, b < w.heap.size → (w.alloc x).cell? ⟨b, i, none⟩ = w.cell? ⟨b, i, none⟩ := fun b i hb => cell_of_heap (heap_alloc_lt _ _ hb) i
  have hold : ∀ id y, id < h.length → (h ++ [o])[id]? = some y → h[id]? = some y := fun id y hid hy => by rw [getElem_snoc, if_pos hid] at hy; exact hy
  have hlast : (h ++ [o])[h.length]? = some o := by simp
  have e : Ext g h w (g.push h.length w.heap.size 0) (h ++ [o]) (w.alloc x) := by
    refine ⟨fun b i hi => ⟨hi, hc _ _ (r.imm_lt hi)⟩, by simp, fun id A hid hA => ⟨A, hold _ _ hid hA, ⟨rfl, rfl⟩, Gh.push_old (by omega), ?_⟩, fun id es k hid hk => ⟨es, k, hold _ _ hid hk, Gh.push_old (by omega)⟩, fun id y hid hk => ⟨y, hold _ _ hid hk, Gh.push_old (by omega)⟩⟩
    exact shape_of_heap (heap_alloc_lt _ _ (r.block_lt (alive_arr (hold _ _ hid hA))))
  have hμ : ∀ id, alive h id → (g.push h.length w.heap.size 0).μ id = g.μ id := fun id ha => Gh.push_old (hne id ha)
  refine ⟨⟨e, by simp, fun b hb _ => heap_alloc_lt _ _ hb, fun id ha => ?_, fun b i hi => .inl hi, rfl, rfl, rfl⟩, ?_⟩
  · rcases alive_snoc ha with ha | rfl
    · exact .inr ⟨id, ha, by rw [hμ id ha]⟩
    · exact .inl (by rw [Gh.push_new]; exact Nat.le_refl _)
  · refine ⟨fun id A hA' => ?_, fun id es k hk => ?_, fun id y hs => ?_, fun i j hi hj he => ?_, fun b i hi => ⟨?_, fun id ha he => ?_⟩⟩
    · by_cases hid : id = h.length
      · subst hid
        rw [hlast] at hA'; cases hA'
        exact hA A rfl e
      · have hlt : id < h.length := by
          have := (alive_arr hA').lt; simp at this; omega
        have hA0 := hold _ _ hlt hA'
        obtain ⟨h1, h2, h3, h4, h5⟩ := r.arr id A hA0
        have hh := heap_alloc_lt w x (r.block_lt (alive_arr hA0))
        refine ⟨h1, ?_, h3, h4, fun i e' j y he hy => ?_⟩
        · rw [hμ id (alive_arr hA0)]
          obtain ⟨T, n, a, b, c⟩ := h2
          exact ⟨T, n, by rw [shape_of_heap hh]; exact a, b, fun o ho => by rw [frozen_of_heap hh]; exact c o ho⟩
        · rw [hμ id (alive_arr hA0), cell_of_heap hh]
          obtain ⟨u, hu, hv⟩ := h5 i e' j y he hy
          exact ⟨u, hu, hv.ext e⟩
    · by_cases hid : id = h.length
      · subst hid
        rw [hlast] at hk; cases hk
        exact hM es k rfl e
      · have hlt : id < h.length := by
          have := (alive_map hk).lt; simp at this; omega
        have hk0 := hold _ _ hlt hk
        obtain ⟨es', h1, h2, h3⟩ := (r.map id es k hk0).it
        refine ⟨es', by rw [hμ id (alive_map hk0), heap_alloc_lt w x (r.block_lt (alive_map hk0))]; exact h1, h2, fun i y hy => ?_⟩
        obtain ⟨e', a, b, c, d⟩ := h3 i y hy
        exact ⟨e', a, b, c, d.ext e⟩
    · by_cases hid : id = h.length
      · subst hid
        rw [hlast] at hs; cases hs
        exact ⟨x, by rw [Gh.push_new]; exact heap_alloc_at w _, hS y rfl e⟩
      · have hlt : id < h.length := by
          have := (alive_siter hs).lt; simp at this; omega
        have hs0 := hold _ _ hlt hs
        obtain ⟨ob, h1, h2⟩ := r.siter id y hs0
        exact ⟨ob, by rw [hμ id (alive_siter hs0), heap_alloc_lt w x (r.block_lt (alive_siter hs0))]; exact h1, h2.ext e⟩
    · rcases alive_snoc hi with hi | rfl <;> rcases alive_snoc hj with hj | rfl
      · exact r.inj i j hi hj (by rw [← hμ i hi, ← hμ j hj]; exact he)
      · rw [hμ i hi, Gh.push_new] at he
        have := r.block_lt hi; simp at he; omega
      · rw [hμ j hj, Gh.push_new] at he
        have := r.block_lt hj; simp at he; omega
      · rfl
    · obtain ⟨u, hu⟩ := (r.imm b i hi).1
      exact ⟨u, by rw [hc _ _ (r.imm_lt hi)]; exact hu⟩
    · rcases alive_snoc ha with ha | rfl
      · rw [hμ id ha] at he ⊢
        obtain ⟨A, a1, a2, a3⟩ := (r.imm b i hi).2 id ha he
        exact ⟨A, by rw [getElem_snoc, if_pos ha.lt]; exact a1, a2, a3⟩
      · rw [Gh.push_new] at he
        have := r.imm_lt hi; simp at he; omega

theorem new_row [Nu] {g : Gh} {h : Heap} {w : World} (r : R g h w) (sz : Nat) (row shared : Bool) (elems : List AV) (c : Array Value) (T : TypeId) (hsz : 0 < sz)
    (hlen : ∀ (i : Nat) (e : AV), elems[i]? = some e → (cellsOf e).length = sz)
    (hok : ∀ (i : Nat) (e : AV) (j : Nat) (x : AV), elems[i]? = some e → (cellsOf e)[j]? = some x → okCell x = true)
    (hn : elems.length * sz ≤ c.size)
    (hrel : ∀ (i : Nat) (e : AV) (j : Nat) (x : AV), elems[i]? = some e → (cellsOf e)[j]? = some x → ∃ u, c[i * sz + j]? = some u ∧ V g h w x u) :
    Post g h w (g.push h.length w.heap.size 0) (h ++ [.arr { sz, row, shared, elems }]) (w.alloc (.cells c T)) ∧
    R (g.push h.length w.heap.size 0) (h ++ [.arr { sz, row, shared, elems }]) (w.alloc (.cells c T)) := by
  refine new_obj r _ _ (fun A hA e => ?_) (fun _ _ hh => by cases hh) (fun _ hh => by cases hh)
  cases hA
  refine ⟨hsz, ?_, hlen, hok, fun i e' j x he hx => ?_⟩
  · rw [Gh.push_new]
    refine ⟨T, c.size, by unfold World.shape?; rw [heap_alloc_at], by simpa using hn, fun o _ => by simp⟩
  · rw [Gh.push_new]
    obtain ⟨u, hu, hv⟩ := hrel i e' j x he hx
    exact ⟨u, by simp; exact hu, hv.ext e⟩

end Go.Am
