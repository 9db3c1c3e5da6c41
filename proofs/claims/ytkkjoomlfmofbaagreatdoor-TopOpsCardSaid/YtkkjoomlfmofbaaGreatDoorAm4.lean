import Derived.Test.YtkkjoomlfmofbaaGreatDoorAm3
set_option linter.unusedSimpArgs false
set_option linter.unusedVariables false
set_option linter.unusedSectionVars false
namespace Go.Am

theorem set_get {α : Type} (l : List α) (i : Nat) (x : α) (k : Nat) : (l.set i x)[k]? = if k = i ∧ i < l.length then some x else l[k]? := by
  rw [List.getElem?_set]
  by_cases h : i = k
  · subst h; by_cases hl : i < l.length
    · simp [hl]
    · simp [hl]
  · rw [if_neg h, if_neg (by omega)]

theorem lt_of_get {α : Type} {l : List α} {i : Nat} {x : α} (h : l[i]? = some x) : i < l.length := by
  rcases Nat.lt_or_ge i l.length with hlt | hge
  · exact hlt
  · rw [List.getElem?_eq_none hge] at h; cases h

/-! ### Let go of an object -/
theorem kill_ok [Nu] {g : Gh} {h : Heap} {w : World} (r : R g h w) (id : Nat) : Post g h w g (h.set id .dead) w ∧ R g (h.set id .dead) w := by
  have old : ∀ (k : Nat) (o : AObj), (h.set id .dead)[k]? = some o → o.isDead = false → h[k]? = some o := by
    intro k o ho hd
    rw [set_get] at ho
    split at ho
    · cases ho; simp [AObj.isDead] at hd
    · exact ho
  have al : ∀ k, alive (h.set id .dead) k → alive h k := fun k ⟨o, ho, hd⟩ => ⟨o, old k o ho hd, hd⟩
  have keepSome : ∀ (k : Nat) (o : AObj), alive (h.set id .dead) k → h[k]? = some o → (h.set id .dead)[k]? = some o := by
    intro k o ⟨o', ho', hd'⟩ ho
    have := old k o' ho' hd'
    rw [ho] at this; cases this; exact ho'
  have e : Ext g h w g (h.set id .dead) w := ⟨fun _ _ hi => ⟨hi, rfl⟩, by simp, fun k A _ hA => ⟨A, old k _ hA rfl, ⟨rfl, rfl⟩, rfl, rfl⟩, fun k es c _ hk => ⟨es, c, old k _ hk rfl, rfl⟩, fun k x _ hk => ⟨x, old k _ hk rfl, rfl⟩⟩
  refine ⟨⟨e, Nat.le_refl _, fun _ _ _ => rfl, fun k ha => .inr ⟨k, al k ha, rfl⟩, fun _ _ hi => .inl hi, rfl, rfl, rfl⟩, ?_⟩
  refine ⟨fun k A hA => ?_, fun k es c hk => ?_, fun k x hs => by obtain ⟨ob, q1, q2⟩ := r.siter k x (old k _ hs rfl); exact ⟨ob, q1, q2.ext e⟩, fun i j hi hj he => r.inj i j (al i hi) (al j hj) he, fun b o hi => ⟨(r.imm b o hi).1, fun k ha he => ?_⟩⟩
  · obtain ⟨h1, h2, h3, h4, h5⟩ := r.arr k A (old k _ hA rfl)
    exact ⟨h1, h2, h3, h4, fun i e' j x he hx => by obtain ⟨u, hu, hv⟩ := h5 i e' j x he hx; exact ⟨u, hu, hv.ext e⟩⟩
  · obtain ⟨es', h1, h2, h3⟩ := (r.map k es c (old k _ hk rfl)).it
    exact ⟨es', h1, h2, fun i x hx => by obtain ⟨e', a, b, c', d⟩ := h3 i x hx; exact ⟨e', a, b, c', d.ext e⟩⟩
  · obtain ⟨A, a1, a2, a3⟩ := (r.imm b o hi).2 k (al k ha) he
    exact ⟨A, keepSome k _ ha a1, a2, a3⟩

/-! ### A store into a row of one's own -/
theorem set_row [Nu] {g : Gh} {h : Heap} {w : World} (r : R g h w) {id : Nat} {A A' : Arr} (hA : h[id]? = some (.arr A)) (hsh : A.shared = false) (hsz : A'.sz = A.sz)
    (hl : A'.elems.length = A.elems.length) (start : Nat) (vs : List Value)
    (hlen : ∀ (i : Nat) (e : AV), A'.elems[i]? = some e → (cellsOf e).length = A.sz)
    (hok : ∀ (i : Nat) (e : AV) (j : Nat) (x : AV), A'.elems[i]? = some e → (cellsOf e)[j]? = some x → okCell x = true)
    (hrel : ∀ (i : Nat) (e : AV) (j : Nat) (x : AV), A'.elems[i]? = some e → (cellsOf e)[j]? = some x →
      ∃ u, (w.setCells (g.μ id).1 start vs).cell? ⟨(g.μ id).1, (g.μ id).2 + i * A.sz + j, none⟩ = some u ∧ V g h w x u) :
    Post g h w g (h.set id (.arr A')) (w.setCells (g.μ id).1 start vs) ∧ R g (h.set id (.arr A')) (w.setCells (g.μ id).1 start vs) := by
  have hid := lt_of_get hA
  have hnot : ∀ b o, g.I b o → b ≠ (g.μ id).1 := by
    rintro b o hi rfl
    obtain ⟨A0, a1, a2, _⟩ := (r.imm _ _ hi).2 id (alive_arr hA) rfl
    rw [hA] at a1; cases a1; rw [hsh] at a2; cases a2
  have get : ∀ k, (h.set id (.arr A'))[k]? = if k = id then some (.arr A') else h[k]? := by
    intro k; rw [set_get]; by_cases hk : k = id <;> simp [hk, hid]
  have al : ∀ k, alive (h.set id (.arr A')) k → alive h k := by
    rintro k ⟨o, ho, hd⟩
    rw [get] at ho
    by_cases hk : k = id
    · subst hk; exact alive_arr hA
    · rw [if_neg hk] at ho; exact ⟨o, ho, hd⟩
  have hb : ∀ k, alive h k → k ≠ id → (w.setCells (g.μ id).1 start vs).heap[(g.μ k).1]? = w.heap[(g.μ k).1]? := fun k ha hk =>
    heap_setCells _ _ _ _ _ fun he => hk (r.inj k id ha (alive_arr hA) he)
  have e : Ext g h w g (h.set id (.arr A')) (w.setCells (g.μ id).1 start vs) := by
    refine ⟨fun b o hi => ⟨hi, cell_of_heap (heap_setCells _ _ _ _ _ (hnot b o hi)) o⟩, by simp, fun k B _ hB => ?_, fun k es c _ hk => ?_, fun k x _ hk => ?_⟩
    · rw [get] at hB
      by_cases hk : k = id
      · subst hk; rw [if_pos rfl] at hB; cases hB
        exact ⟨A, hA, ⟨hsz, hl⟩, rfl, shape_setCells _ _ _ _ _⟩
      · rw [if_neg hk] at hB
        exact ⟨B, hB, ⟨rfl, rfl⟩, rfl, shape_setCells _ _ _ _ _⟩
    · rw [get] at hk
      by_cases hkk : k = id
      · subst hkk; rw [if_pos rfl] at hk; cases hk
      · rw [if_neg hkk] at hk; exact ⟨es, c, hk, rfl⟩
    · rw [get] at hk
      by_cases hkk : k = id
      · subst hkk; rw [if_pos rfl] at hk; cases hk
      · rw [if_neg hkk] at hk; exact ⟨x, hk, rfl⟩
  obtain ⟨o1, o2, o3⟩ := os_setCells (g.μ id).1 vs start w
  refine ⟨⟨e, by rw [size_setCells]; exact Nat.le_refl _, fun b hb' hn => heap_setCells _ _ _ _ _ (fun he => hn id (alive_arr hA) he.symm), fun k ha => .inr ⟨k, al k ha, rfl⟩, fun _ _ hi => .inl hi, o1, o2, o3⟩, ?_⟩
  refine ⟨fun k B hB => ?_, fun k es c hk => ?_, fun k x hs => ?_, fun i j hi hj he => r.inj i j (al i hi) (al j hj) he, fun b o hi => ⟨?_, fun k ha he => ?_⟩⟩
  · rw [get] at hB
    by_cases hk : k = id
    · subst hk; rw [if_pos rfl] at hB; cases hB
      obtain ⟨h1, ⟨T, n, h2, h3, h4⟩, _⟩ := r.arr k A hA
      refine ⟨by rw [hsz]; exact h1, ⟨T, n, by rw [shape_setCells]; exact h2, by rw [hl, hsz]; exact h3, fun o ho => by rw [World.frozen?_setCells]; exact h4 o ho⟩, by rw [hsz]; exact hlen, hok, fun i e' j x he hx => ?_⟩
      obtain ⟨u, hu, hv⟩ := hrel i e' j x he hx
      rw [hsz]
      exact ⟨u, hu, hv.ext e⟩
    · rw [if_neg hk] at hB
      have hh := hb k (alive_arr hB) hk
      obtain ⟨h1, ⟨T, n, h2, h3, h4⟩, h5, h6, h7⟩ := r.arr k B hB
      refine ⟨h1, ⟨T, n, by rw [shape_of_heap hh]; exact h2, h3, fun o ho => by rw [frozen_of_heap hh]; exact h4 o ho⟩, h5, h6, fun i e' j x he hx => ?_⟩
      obtain ⟨u, hu, hv⟩ := h7 i e' j x he hx
      exact ⟨u, by rw [cell_of_heap hh]; exact hu, hv.ext e⟩
  · rw [get] at hk
    by_cases hkk : k = id
    · subst hkk; rw [if_pos rfl] at hk; cases hk
    · rw [if_neg hkk] at hk
      obtain ⟨es', h1, h2, h3⟩ := (r.map k es c hk).it
      exact ⟨es', by rw [hb k (alive_map hk) hkk]; exact h1, h2, fun i x hx => by obtain ⟨e', a, b, c', d⟩ := h3 i x hx; exact ⟨e', a, b, c', d.ext e⟩⟩
  · rw [get] at hs
    by_cases hkk : k = id
    · subst hkk; rw [if_pos rfl] at hs; cases hs
    · rw [if_neg hkk] at hs
      obtain ⟨ob, q1, q2⟩ := r.siter k x hs
      exact ⟨ob, by rw [hb k (alive_siter hs) hkk]; exact q1, q2.ext e⟩
  · obtain ⟨u, hu⟩ := (r.imm b o hi).1
    exact ⟨u, by rw [cell_of_heap (heap_setCells _ _ _ _ _ (hnot b o hi))]; exact hu⟩
  · obtain ⟨B, b1, b2, b3⟩ := (r.imm b o hi).2 k (al k ha) he
    have hk : k ≠ id := by rintro rfl; exact hnot b o hi he.symm
    exact ⟨B, by rw [get, if_neg hk]; exact b1, b2, b3⟩

/-! ### An append in place -/
theorem view_get (l : List AV) (off len i : Nat) : ((l.drop off).take len)[i]? = if i < len then l[off + i]? else none := by
  rw [List.getElem?_take]
  split
  · rw [List.getElem?_drop]
  · rfl

theorem view_length {l : List AV} {off len : Nat} (h : off + len ≤ l.length) : ((l.drop off).take len).length = len := by simp; omega

theorem move_row [Nu] {g : Gh} {h : Heap} {w : World} (r : R g h w) {id : Nat} {A : Arr} (hA : h[id]? = some (.arr A)) (off len : Nat) (hle : off + len ≤ A.elems.length)
    (hsh : A.shared = true → off + len = A.elems.length) (row : Bool) (ys : List AV) (vs : List Value) (hvs : vs.length = ys.length * A.sz)
    (hcap : ∀ T n, w.shape? (g.μ id).1 = some (T, n) → (g.μ id).2 + (off + len + ys.length) * A.sz ≤ n)
    (hlen : ∀ (i : Nat) (e : AV), ys[i]? = some e → (cellsOf e).length = A.sz)
    (hok : ∀ (i : Nat) (e : AV) (j : Nat) (x : AV), ys[i]? = some e → (cellsOf e)[j]? = some x → okCell x = true)
    (hrel : ∀ (i : Nat) (e : AV) (j : Nat) (x : AV), ys[i]? = some e → (cellsOf e)[j]? = some x → ∃ u, vs[i * A.sz + j]? = some u ∧ V g h w x u) :
    let g' := g.push h.length (g.μ id).1 ((g.μ id).2 + off * A.sz)
    let h' := h.set id .dead ++ [.arr { sz := A.sz, row, shared := A.shared, elems := (A.elems.drop off).take len ++ ys }]
    let w' := w.setCells (g.μ id).1 ((g.μ id).2 + (off + len) * A.sz) vs
    Post g h w g' h' w' ∧ R g' h' w' := by
  intro g' h' w'
  have hid := lt_of_get hA
  obtain ⟨hz, ⟨T, n, hshape, hfit, hfro⟩, hlen0, hok0, hrel0⟩ := r.arr id A hA
  have hcap' := hcap T n hshape
  have hlast : h'[h.length]? = some (.arr { sz := A.sz, row, shared := A.shared, elems := (A.elems.drop off).take len ++ ys }) := by
    show (_ ++ [_])[_]? = _; rw [getElem_snoc]; simp
  have old : ∀ (k : Nat) (o : AObj), h'[k]? = some o → o.isDead = false → k ≠ h.length → h[k]? = some o ∧ k ≠ id := by
    intro k o ho hd hk
    have ho : (h.set id .dead ++ [_])[k]? = some o := ho
    rw [getElem_snoc] at ho
    simp only [List.length_set] at ho
    split at ho
    · rw [set_get] at ho
      split at ho
      · cases ho; simp [AObj.isDead] at hd
      · rename_i hn; exact ⟨ho, fun e => hn ⟨e, hid⟩⟩
    · first
        | (rw [if_neg hk] at ho; cases ho)
        | (cases ho)
  have back : ∀ (k : Nat) (o : AObj), h[k]? = some o → k ≠ id → h'[k]? = some o := by
    intro k o ho hk
    show (h.set id .dead ++ [_])[k]? = _
    rw [getElem_snoc, if_pos (by simpa using lt_of_get ho), set_get, if_neg (by omega)]; exact ho
  have al : ∀ k, alive h' k → k ≠ h.length → alive h k ∧ k ≠ id := fun k ⟨o, ho, hd⟩ hk => ⟨⟨o, (old k o ho hd hk).1, hd⟩, (old k o ho hd hk).2⟩
  have hμ : ∀ k, k ≠ h.length → g'.μ k = g.μ k := fun k hk => Gh.push_old hk
  have hμn : g'.μ h.length = ((g.μ id).1, (g.μ id).2 + off * A.sz) := Gh.push_new
  have hb : ∀ k, alive h k → k ≠ id → w'.heap[(g.μ k).1]? = w.heap[(g.μ k).1]? := fun k ha hk =>
    heap_setCells _ _ _ _ _ fun he => hk (r.inj k id ha (alive_arr hA) he)
  have hcell : ∀ o, o < (g.μ id).2 + (off + len) * A.sz → w'.cell? ⟨(g.μ id).1, o, none⟩ = w.cell? ⟨(g.μ id).1, o, none⟩ := fun o ho =>
    World.cell?_setCells_out _ _ _ _ _ fun _ _ => .inl ho
  have himm : ∀ b o, g.I b o → w'.cell? ⟨b, o, none⟩ = w.cell? ⟨b, o, none⟩ := by
    intro b o hi
    by_cases hbb : b = (g.μ id).1
    · subst hbb
      obtain ⟨A0, a1, a2, a3⟩ := (r.imm _ _ hi).2 id (alive_arr hA) rfl
      rw [hA] at a1; cases a1
      exact hcell o (by rw [hsh a2]; exact a3)
    · exact cell_of_heap (heap_setCells _ _ _ _ _ hbb) o
  have hlt : ∀ k, k < h.length → k ≠ h.length := fun k hk => Nat.ne_of_lt hk
  have hh'len : h'.length = h.length + 1 := by show (_ ++ [_]).length = _; simp
  have e : Ext g h w g' h' w' := by
    refine ⟨fun b o hi => ⟨hi, himm b o hi⟩, by omega, fun k B hk hB => ?_, fun k es c hk hB => ?_, fun k x hk hB => ?_⟩
    · exact ⟨B, (old k _ hB rfl (hlt k hk)).1, ⟨rfl, rfl⟩, hμ k (hlt k hk), shape_setCells _ _ _ _ _⟩
    · exact ⟨es, c, (old k _ hB rfl (hlt k hk)).1, hμ k (hlt k hk)⟩
    · exact ⟨x, (old k _ hB rfl (hlt k hk)).1, hμ k (hlt k hk)⟩
  obtain ⟨o1, o2, o3⟩ := os_setCells (g.μ id).1 vs ((g.μ id).2 + (off + len) * A.sz) w
  refine ⟨⟨e, by show _ ≤ (w.setCells _ _ _).heap.size; rw [size_setCells]; exact Nat.le_refl _, fun b _ hn => heap_setCells _ _ _ _ _ (fun he => hn id (alive_arr hA) he.symm), fun k ha => ?_, fun _ _ hi => .inl hi, o1, o2, o3⟩, ?_⟩
  · by_cases hk : k = h.length
    · subst hk; exact .inr ⟨id, alive_arr hA, by rw [hμn]⟩
    · exact .inr ⟨k, (al k ha hk).1, by rw [hμ k hk]⟩
  refine ⟨fun k B hB => ?_, fun k es c hk => ?_, fun k x hs => ?_, fun i j hi hj he => ?_, fun b o hi => ⟨?_, fun k ha he => ?_⟩⟩
  · by_cases hk : k = h.length
    · subst hk
      rw [hlast] at hB; cases hB
      have hvl := view_length hle
      have hget : ∀ (i : Nat) (e : AV), ((A.elems.drop off).take len ++ ys)[i]? = some e → (i < len ∧ A.elems[off + i]? = some e) ∨ (len ≤ i ∧ ys[i - len]? = some e) := by
        intro i e he
        by_cases hil : i < len
        · rw [List.getElem?_append_left (by omega), view_get, if_pos hil] at he; exact .inl ⟨hil, he⟩
        · rw [List.getElem?_append_right (by omega), hvl] at he; exact .inr ⟨by omega, he⟩
      refine ⟨hz, ?_, fun i e' he => ?_, fun i e' j x he hx => ?_, fun i e' j x he hx => ?_⟩
      · rw [hμn]
        refine ⟨T, n, by show (w.setCells _ _ _).shape? _ = _; rw [shape_setCells]; exact hshape, ?_, fun o ho => by show (w.setCells _ _ _).frozen? _ = _; rw [World.frozen?_setCells]; exact hfro o ho⟩
        simp only [List.length_append, hvl]
        have : (off + len + ys.length) * A.sz = off * A.sz + (len + ys.length) * A.sz := by rw [Nat.add_assoc, Nat.add_mul]
        omega
      · rcases hget i e' he with ⟨_, h1⟩ | ⟨_, h1⟩
        · exact hlen0 _ _ h1
        · exact hlen _ _ h1
      · rcases hget i e' he with ⟨_, h1⟩ | ⟨_, h1⟩
        · exact hok0 _ _ _ _ h1 hx
        · exact hok _ _ _ _ h1 hx
      · rw [hμn]
        simp only
        rcases hget i e' he with ⟨hil, h1⟩ | ⟨hil, h1⟩
        · obtain ⟨u, hu, hv⟩ := hrel0 _ _ j x h1 hx
          have hj : j < A.sz := by have := lt_of_get hx; rw [hlen0 _ _ h1] at this; exact this
          have hm : (off + i) * A.sz + j < (off + len) * A.sz := by
            have : (off + i + 1) * A.sz ≤ (off + len) * A.sz := Nat.mul_le_mul_right _ (by omega)
            rw [Nat.add_mul (off + i), Nat.one_mul] at this; omega
          have ea : (g.μ id).2 + off * A.sz + i * A.sz + j = (g.μ id).2 + (off + i) * A.sz + j := by rw [Nat.add_mul]; omega
          rw [ea]
          exact ⟨u, by rw [hcell _ (by omega)]; exact hu, hv.ext e⟩
        · obtain ⟨u, hu, hv⟩ := hrel _ _ j x h1 hx
          have hj : j < A.sz := by have := lt_of_get hx; rw [hlen _ _ h1] at this; exact this
          have hin := World.cell?_setCells_in (g.μ id).1 vs ((g.μ id).2 + (off + len) * A.sz) w (fun q hq => by
            refine cell_of_shape w hshape ?_
            have : (off + len + ys.length) * A.sz = (off + len) * A.sz + ys.length * A.sz := Nat.add_mul _ _ _
            omega)
          have hq := lt_of_get hu
          have h2 := hin ((i - len) * A.sz + j) hq
          have ea : (g.μ id).2 + off * A.sz + i * A.sz + j = (g.μ id).2 + (off + len) * A.sz + ((i - len) * A.sz + j) := by
            obtain ⟨q, rfl⟩ : ∃ q, i = len + q := ⟨i - len, by omega⟩
            rw [Nat.add_sub_cancel_left, Nat.add_mul len q, Nat.add_mul off len]; omega
          rw [ea]
          refine ⟨u, ?_, hv.ext e⟩
          rw [List.getElem?_eq_getElem hq] at hu
          cases hu; exact h2
    · obtain ⟨hB', hkid⟩ := old k _ hB rfl hk
      have hh := hb k (alive_arr hB') hkid
      obtain ⟨h1, ⟨T', n', h2, h3, h4⟩, h5, h6, h7⟩ := r.arr k B hB'
      refine ⟨h1, by rw [hμ k hk]; exact ⟨T', n', by rw [shape_of_heap hh]; exact h2, h3, fun o ho => by rw [frozen_of_heap hh]; exact h4 o ho⟩, h5, h6, fun i e' j x he hx => ?_⟩
      obtain ⟨u, hu, hv⟩ := h7 i e' j x he hx
      exact ⟨u, by rw [hμ k hk, cell_of_heap hh]; exact hu, hv.ext e⟩
  · have hkl : k ≠ h.length := by rintro rfl; rw [hlast] at hk; cases hk
    obtain ⟨hk', hkid⟩ := old k _ hk rfl hkl
    obtain ⟨es', h1, h2, h3⟩ := (r.map k es c hk').it
    exact ⟨es', by rw [hμ k hkl, hb k (alive_map hk') hkid]; exact h1, h2, fun i x hx => by obtain ⟨e', a, b, c', d⟩ := h3 i x hx; exact ⟨e', a, b, c', d.ext e⟩⟩
  · have hkl : k ≠ h.length := by rintro rfl; rw [hlast] at hs; cases hs
    obtain ⟨hs', hkid⟩ := old k _ hs rfl hkl
    obtain ⟨ob, q1, q2⟩ := r.siter k x hs'
    exact ⟨ob, by rw [hμ k hkl, hb k (alive_siter hs') hkid]; exact q1, q2.ext e⟩
  · by_cases h1 : i = h.length <;> by_cases h2 : j = h.length
    · rw [h1, h2]
    · obtain ⟨a1, a2⟩ := al j hj h2
      rw [h1, hμn, hμ j h2] at he
      exact absurd (r.inj id j (alive_arr hA) a1 he) (Ne.symm a2)
    · obtain ⟨a1, a2⟩ := al i hi h1
      rw [h2, hμn, hμ i h1] at he
      exact absurd (r.inj i id a1 (alive_arr hA) he) a2
    · rw [hμ i h1, hμ j h2] at he
      exact r.inj i j (al i hi h1).1 (al j hj h2).1 he
  · obtain ⟨u, hu⟩ := (r.imm b o hi).1
    exact ⟨u, by rw [himm b o hi]; exact hu⟩
  · by_cases hk : k = h.length
    · subst hk
      rw [hμn] at he
      simp only at he
      obtain ⟨A0, a1, a2, a3⟩ := (r.imm b o hi).2 id (alive_arr hA) he
      rw [hA] at a1; cases a1
      refine ⟨_, hlast, a2, ?_⟩
      rw [hμn]
      simp only [List.length_append, view_length hle]
      have h2 := hsh a2
      have : (off + len) * A.sz = off * A.sz + len * A.sz := Nat.add_mul _ _ _
      have h3 : (len + ys.length) * A.sz = len * A.sz + ys.length * A.sz := Nat.add_mul _ _ _
      rw [← h2] at a3
      omega
    · rw [hμ k hk] at he ⊢
      obtain ⟨a1, a2⟩ := al k ha hk
      obtain ⟨B, b1, b2, b3⟩ := (r.imm b o hi).2 k a1 he
      exact ⟨B, back k _ b1 a2, b2, b3⟩

end Go.Am
