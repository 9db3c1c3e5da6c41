import Derived.Test.YtkkjoomlfmofbaaGreatDoorAm9
import Derived.Laws.Tables
set_option linter.unusedSimpArgs false
set_option linter.unusedVariables false
set_option linter.unusedSectionVars false
/-! Operations: what is built, made, converted, copied. -/
namespace Go.Am

variable {P : Program} {g : Gh} {h : Heap} {w : World}

/-! ### Cells that are put side by side -/

def CV [Nu] (g : Gh) (h : Heap) (w : World) (l : List AV) (arr : Array Value) : Prop :=
  l.length = arr.size ∧ ∀ (i : Nat) (c : AV) (u : Value), l[i]? = some c → arr[i]? = some u → V g h w c u

theorem foldl_set (off : Nat) : ∀ (l : List Value) (k : Nat) (arr : Array Value), off + k + l.length ≤ arr.size →
    ((l.zipIdx k).foldl (fun cs (p : Value × Nat) => cs.setIfInBounds (off + p.2) p.1) arr).size = arr.size ∧
    ∀ i : Nat, ((l.zipIdx k).foldl (fun cs (p : Value × Nat) => cs.setIfInBounds (off + p.2) p.1) arr)[i]? =
      if i < off + k then arr[i]? else if i < off + k + l.length then l[i - (off + k)]? else arr[i]?
  | [], k, arr, _ => ⟨rfl, fun i => by simp only [List.zipIdx_nil, List.foldl_nil, List.length_nil, Nat.add_zero]; split <;> simp_all⟩
  | v :: l, k, arr, hle => by
    obtain ⟨h1, h2⟩ := foldl_set off l (k + 1) (arr.setIfInBounds (off + k) v) (by simp at hle ⊢; omega)
    simp only [List.zipIdx_cons, List.foldl_cons]
    refine ⟨by rw [h1]; simp, fun i => ?_⟩
    rw [h2, Array.getElem?_setIfInBounds]
    simp only [List.length_cons] at hle ⊢
    by_cases hi : i < off + k
    · rw [if_pos (by omega), if_neg (by omega), if_pos hi]
    · rw [if_neg hi]
      by_cases he : i = off + k
      · subst he
        rw [if_pos (by omega), if_pos rfl, if_pos (by omega), if_pos (by omega), Nat.sub_self]; rfl
      · rw [if_neg (by omega)]
        by_cases h3 : i < off + (k + 1) + l.length
        · rw [if_pos h3, if_pos (by omega)]
          obtain ⟨q, rfl⟩ : ∃ q, i = off + (k + 1) + q := ⟨i - (off + (k + 1)), by omega⟩
          rw [Nat.add_sub_cancel_left, show off + (k + 1) + q - (off + k) = q + 1 by omega]; rfl
        · rw [if_neg h3, if_neg (by omega), if_neg (by omega)]

/-- The cells of v put from place off on. -/
def putCells (arr : Array Value) (off : Nat) (v : Value) : Array Value := v.cells.zipIdx.foldl (fun cs (c, j) => cs.setIfInBounds (off + j) c) arr

theorem putCells_ok {arr : Array Value} {off : Nat} {v : Value} (hle : off + v.cells.size ≤ arr.size) :
    (putCells arr off v).size = arr.size ∧ ∀ i : Nat, (putCells arr off v)[i]? = if i < off then arr[i]? else if i < off + v.cells.size then v.cells[i - off]? else arr[i]? := by
  have e : putCells arr off v = (v.cells.toList.zipIdx 0).foldl (fun cs (p : Value × Nat) => cs.setIfInBounds (off + p.2) p.1) arr := by
    unfold putCells
    rw [← Array.foldl_toList, Array.toList_zipIdx]
  obtain ⟨h1, h2⟩ := foldl_set off v.cells.toList 0 arr (by simpa using hle)
  rw [e]
  refine ⟨h1, fun i => ?_⟩
  rw [h2]
  simp

theorem CV.put [Nu] {l : List AV} {arr : Array Value} (hc : CV g h w l arr) {off : Nat} {a : AV} {v : Value} (hv : V g h w a v) (hj : a ≠ .junk) (hle : off + (cellsOf a).length ≤ l.length) :
    CV g h w (overwrite l off (cellsOf a)) (putCells arr off v) := by
  obtain ⟨hl, hr⟩ := hv.cells hj
  obtain ⟨h1, h2⟩ := hc
  obtain ⟨p1, p2⟩ := putCells_ok (arr := arr) (off := off) (v := v) (by omega)
  refine ⟨by rw [overwrite_length hle, p1, h1], fun i c u hi hu => ?_⟩
  rw [overwrite_get hle] at hi
  rw [p2, ← hl] at hu
  by_cases ha : i < off
  · rw [if_pos ha] at hi hu; exact h2 i c u hi hu
  · rw [if_neg ha] at hi hu
    by_cases hb : i < off + (cellsOf a).length
    · rw [if_pos hb] at hi hu; exact hr _ c u hi hu
    · rw [if_neg hb] at hi hu; exact h2 i c u hi hu

theorem ne_junk {a : AV} (h : (cellsOf a).all okCell = true) : a ≠ .junk := by
  rintro rfl; simp [cellsOf, okCell] at h

/-- Parts: numbers and values. -/
def PV [Nu] (g : Gh) (h : Heap) (w : World) (ps : List (Nat × AV)) (qs : List (Nat × Value)) : Prop :=
  ps.length = qs.length ∧ ∀ (i : Nat) (p : Nat × AV) (q : Nat × Value), ps[i]? = some p → qs[i]? = some q → p.1 = q.1 ∧ V g h w p.2 q.2

theorem PV.cons [Nu] {p : Nat × AV} {q : Nat × Value} {ps : List (Nat × AV)} {qs : List (Nat × Value)} (hh : PV g h w (p :: ps) (q :: qs)) : (p.1 = q.1 ∧ V g h w p.2 q.2) ∧ PV g h w ps qs :=
  ⟨hh.2 0 p q rfl rfl, by simpa using hh.1, fun i x y hx hy => hh.2 (i + 1) x y (by simpa using hx) (by simpa using hy)⟩

theorem PV.map [Nu] {ρ : Operand → Value} {e : Operand → AV} (hE : ∀ x, V g h w (e x) (ρ x)) (parts : Array (Nat × Operand)) :
    PV g h w (parts.toList.map fun p => (p.1, e p.2)) (parts.map fun (i, x) => (i, ρ x)).toList := by
  refine ⟨by simp, fun i p q hp hq => ?_⟩
  simp only [Array.toList_map, List.getElem?_map] at hp hq
  cases hx : parts.toList[i]? with
  | none => rw [hx] at hp; cases hp
  | some x =>
    rw [hx] at hp hq
    cases hp; cases hq
    exact ⟨rfl, hE _⟩

theorem fill_ok [Nu] {placeA place : Nat → Option (Nat × Nat)} (hp : ∀ i, placeA i = place i) : ∀ {ps : List (Nat × AV)} {qs : List (Nat × Value)} {l l' : List AV} {arr : Array Value}, PV g h w ps qs → CV g h w l arr →
    fillA placeA l ps = some l' → ∃ arr', Instr.fill place arr qs = some arr' ∧ CV g h w l' arr'
  | [], [], l, l', arr, _, hc, hf => by simp only [fillA, Option.some.injEq] at hf; subst hf; exact ⟨arr, rfl, hc⟩
  | [], q :: qs, l, l', arr, hpv, _, _ => by have := hpv.1; simp at this
  | p :: ps, [], l, l', arr, hpv, _, _ => by have := hpv.1; simp at this
  | (i, a) :: ps, (k, v) :: qs, l, l', arr, hpv, hc, hf => by
    obtain ⟨⟨e1, hv⟩, hrest⟩ := hpv.cons
    simp only at e1 hv
    subst e1
    simp only [fillA] at hf
    rw [hp] at hf
    cases hpl : place i with
    | none => rw [hpl] at hf; cases hf
    | some os =>
      obtain ⟨off, size⟩ := os
      rw [hpl] at hf
      simp only at hf
      split at hf
      · rename_i hcc
        obtain ⟨c1, c2, c3⟩ := hcc
        have hj := ne_junk c3
        have hl := (hv.cells hj).1
        obtain ⟨arr', h1, h2⟩ := fill_ok hp hrest (hc.put hv hj (by omega)) hf
        refine ⟨arr', ?_, h2⟩
        simp only [Instr.fill, hpl]
        rw [if_neg]
        · exact h1
        · simp only [Bool.or_eq_true, decide_eq_true_eq, not_or, Nat.not_lt, ne_eq, Decidable.not_not]
          have := hc.1
          exact ⟨by omega, by omega⟩
      · cases hf

theorem ofVal_ne_junk (v : Value) : ofVal v ≠ .junk := by
  cases v with
  | tuple vs => simp only [ofVal]; split <;> simp
  | _ => simp [ofVal]

theorem CV.ofVal [Nu] (v : Value) : CV g h w (cellsOf (ofVal v)) v.cells := (ofVal_ok v).cells (ofVal_ne_junk v)

theorem build_run [Nu] {t : TypeId} {ps : List (Nat × AV)} {qs : Array (Nat × Value)} {y : AV} (hp : PV g h w ps qs.toList) (hb : build P t ps = some y) :
    ∃ u, (Instr.build t qs).run P w = .ok u w ∧ V g h w y u := by
  unfold build at hb
  split at hb
  · rename_i zero fields hz hu
    split at hb
    · rename_i places hpl
      cases hf : fillA (places[·]?) zero ps with
      | none => rw [hf] at hb; cases hb
      | some l' =>
        rw [hf] at hb
        cases hb
        unfold zeroT at hz
        cases hi : P.info? t with
        | none => rw [hi] at hz; cases hz
        | some i =>
          rw [hi] at hz
          simp only at hz
          cases hzz : i.zero with
          | none => rw [hzz] at hz; cases hz
          | some z =>
            rw [hzz] at hz
            simp only [Option.map_some, Option.some.injEq] at hz
            subst hz
            obtain ⟨arr', h1, h2⟩ := fill_ok (place := (places.toArray[·]?)) (fun i => by simp) hp (CV.ofVal z) hf
            refine ⟨_, run_build w t qs arr' ?_, .agg h2.1 h2.2⟩
            have hpl' : fields.toList.mapM (fun f => (P.info? f.type).map fun i => (f.offset, i.size)) = some places := by
              rw [← hpl]; congr 1; funext f; unfold sizeT; cases P.info? f.type <;> rfl
            simp only [Program.built, hi, hu, hzz, hpl']
            exact h1
    · cases hb
  · rename_i zero n elem hz hu
    split at hb
    · rename_i sz hsz
      cases hf : fillA (fun i => some (i * sz, sz)) zero ps with
      | none => rw [hf] at hb; cases hb
      | some l' =>
        rw [hf] at hb
        cases hb
        unfold zeroT at hz
        cases hi : P.info? t with
        | none => rw [hi] at hz; cases hz
        | some i =>
          rw [hi] at hz
          simp only at hz
          cases hzz : i.zero with
          | none => rw [hzz] at hz; cases hz
          | some z =>
            rw [hzz] at hz
            simp only [Option.map_some, Option.some.injEq] at hz
            subst hz
            obtain ⟨arr', h1, h2⟩ := fill_ok (place := fun i => some (i * sz, sz)) (fun i => rfl) hp (CV.ofVal z) hf
            refine ⟨_, run_build w t qs arr' ?_, .agg h2.1 h2.2⟩
            unfold sizeT at hsz
            cases hie : P.info? elem with
            | none => rw [hie] at hsz; cases hsz
            | some ie =>
              rw [hie] at hsz
              cases hsz
              simp only [Program.built, hi, hu, hzz, hie]
              exact h1
    · cases hb
  · cases hb

/-! ### Rows of elements -/

/-- These elements, each of sz cells, one behind the other. -/
structure Rows [Nu] (g : Gh) (h : Heap) (w : World) (sz : Nat) (es : List AV) (arr : Array Value) : Prop where
  size : es.length * sz ≤ arr.size
  len : ∀ (i : Nat) (e : AV), es[i]? = some e → (cellsOf e).length = sz
  okc : ∀ (i : Nat) (e : AV) (j : Nat) (c : AV), es[i]? = some e → (cellsOf e)[j]? = some c → okCell c = true
  rel : ∀ (i : Nat) (e : AV) (j : Nat) (c : AV), es[i]? = some e → (cellsOf e)[j]? = some c → ∃ u, arr[i * sz + j]? = some u ∧ V g h w c u

theorem Rows.zeros [Nu] {sz : Nat} {z : Value} (hz : z.cells.size = sz) (hl : (cellsOf (ofVal z)).length = sz) (hok : (cellsOf (ofVal z)).all okCell = true) (_ : 0 < sz) {n m : Nat} (hnm : n ≤ m) :
    Rows g h w sz (List.replicate n (reElem (cellsOf (ofVal z)))) ((Array.range (m * sz)).map fun k => z.cells[k % z.cells.size]!) := by
  have hget : ∀ (i : Nat) (e : AV), (List.replicate n (reElem (cellsOf (ofVal z))))[i]? = some e → i < n ∧ e = reElem (cellsOf (ofVal z)) := by
    intro i e he
    rw [List.getElem?_replicate] at he
    split at he
    · cases he; exact ⟨by assumption, rfl⟩
    · cases he
  refine ⟨by simp; exact Nat.mul_le_mul_right _ hnm, fun i e he => ?_, fun i e j c he hc => ?_, fun i e j c he hc => ?_⟩
  · rw [(hget i e he).2, cellsOf_reElem hok, hl]
  · rw [(hget i e he).2, cellsOf_reElem hok] at hc; exact all_get hok hc
  · obtain ⟨hi, rfl⟩ := hget i e he
    rw [cellsOf_reElem hok] at hc
    have hj := lt_of_get hc
    rw [hl] at hj
    have hm : i * sz + j < m * sz := idx_lt (by omega) hj
    refine ⟨z.cells[j]'(by omega), ?_, (CV.ofVal z).2 j c _ hc (Array.getElem?_eq_getElem (by omega))⟩
    rw [Array.getElem?_map, Array.getElem?_range, if_pos hm]
    simp only [Option.map_some, Option.some.injEq]
    have hmod : (i * sz + j) % z.cells.size = j := by rw [hz, Nat.mul_comm, Nat.mul_add_mod, Nat.mod_eq_of_lt hj]
    rw [hmod, getElem!_def, Array.getElem?_eq_getElem (show j < z.cells.size by omega)]

theorem Rows.put [Nu] {sz : Nat} {es : List AV} {arr : Array Value} (r : Rows g h w sz es arr) {i : Nat} {a : AV} {v : Value} (hv : V g h w a v) (hl : (cellsOf a).length = sz)
    (hok : (cellsOf a).all okCell = true) (hi : i < es.length) : Rows g h w sz (es.set i (reElem (cellsOf a))) (putCells arr (i * sz) v) := by
  obtain ⟨h1, h2, h3, h4⟩ := r
  obtain ⟨c1, c2⟩ := hv.cells (ne_junk hok)
  have hrow : (i + 1) * sz ≤ es.length * sz := Nat.mul_le_mul_right _ hi
  rw [Nat.add_mul, Nat.one_mul] at hrow
  obtain ⟨p1, p2⟩ := putCells_ok (arr := arr) (off := i * sz) (v := v) (by omega)
  have hget : ∀ (k : Nat) (x : AV), (es.set i (reElem (cellsOf a)))[k]? = some x → (k = i ∧ x = reElem (cellsOf a)) ∨ (k ≠ i ∧ es[k]? = some x) := by
    intro k x hx
    rw [set_get] at hx
    by_cases hk : k = i
    · rw [if_pos ⟨hk, hi⟩] at hx; cases hx; exact .inl ⟨hk, rfl⟩
    · rw [if_neg (fun q => hk q.1)] at hx; exact .inr ⟨hk, hx⟩
  refine ⟨by rw [p1]; simpa using h1, fun k x hx => ?_, fun k x j c hx hc => ?_, fun k x j c hx hc => ?_⟩
  · rcases hget k x hx with ⟨_, rfl⟩ | ⟨_, hx⟩
    · rw [cellsOf_reElem hok, hl]
    · exact h2 k x hx
  · rcases hget k x hx with ⟨_, rfl⟩ | ⟨_, hx⟩
    · rw [cellsOf_reElem hok] at hc; exact all_get hok hc
    · exact h3 k x j c hx hc
  · rcases hget k x hx with ⟨rfl, rfl⟩ | ⟨hk, hx⟩
    · rw [cellsOf_reElem hok] at hc
      have hj := lt_of_get hc
      have hu : v.cells[j]? = some v.cells[j] := Array.getElem?_eq_getElem (by omega)
      exact ⟨v.cells[j], by rw [p2, if_neg (by omega), if_pos (by omega), Nat.add_sub_cancel_left]; exact hu, c2 j c _ hc hu⟩
    · obtain ⟨u, hu, hvu⟩ := h4 k x j c hx hc
      have hj := lt_of_get hc
      rw [h2 k x hx] at hj
      refine ⟨u, ?_, hvu⟩
      rw [p2]
      rcases Nat.lt_or_gt_of_ne hk with hlt | hgt
      · have : (k + 1) * sz ≤ i * sz := Nat.mul_le_mul_right _ hlt
        rw [Nat.add_mul, Nat.one_mul] at this
        rw [if_pos (by omega)]; exact hu
      · have : (i + 1) * sz ≤ k * sz := Nat.mul_le_mul_right _ hgt
        rw [Nat.add_mul, Nat.one_mul] at this
        rw [if_neg (by omega), if_neg (by omega)]; exact hu

theorem setElems_ok [Nu] {sz : Nat} : ∀ {ps : List (Nat × AV)} {qs : List (Nat × Value)} {es es' : List AV} {arr : Array Value}, PV g h w ps qs → Rows g h w sz es arr → arr.size = es.length * sz →
    setElems sz es ps = some es' → ∃ arr', Instr.fill (fun i => some (i * sz, sz)) arr qs = some arr' ∧ Rows g h w sz es' arr' ∧ arr'.size = es'.length * sz ∧ es'.length = es.length
  | [], [], es, es', arr, _, hr, hs, hf => by simp only [setElems, Option.some.injEq] at hf; subst hf; exact ⟨arr, rfl, hr, hs, rfl⟩
  | [], q :: qs, es, es', arr, hpv, _, _, _ => by have := hpv.1; simp at this
  | p :: ps, [], es, es', arr, hpv, _, _, _ => by have := hpv.1; simp at this
  | (i, a) :: ps, (k, v) :: qs, es, es', arr, hpv, hr, hs, hf => by
    obtain ⟨⟨e1, hv⟩, hrest⟩ := hpv.cons
    simp only at e1 hv
    subst e1
    simp only [setElems] at hf
    split at hf
    · rename_i hcc
      obtain ⟨c1, c2, c3⟩ := hcc
      have hl := (hv.cells (ne_junk c3)).1
      have hrow : (i + 1) * sz ≤ es.length * sz := Nat.mul_le_mul_right _ c2
      rw [Nat.add_mul, Nat.one_mul] at hrow
      have p1 := (putCells_ok (arr := arr) (off := i * sz) (v := v) (by omega)).1
      obtain ⟨arr', h1, h2, h3, h4⟩ := setElems_ok hrest (hr.put hv c1 c3 c2) (by rw [p1]; simpa using hs) hf
      refine ⟨arr', ?_, h2, h3, by rw [h4]; simp⟩
      simp only [Instr.fill]
      rw [if_neg]
      · exact h1
      · simp only [Bool.or_eq_true, decide_eq_true_eq, not_or, Nat.not_lt, ne_eq, Decidable.not_not]
        exact ⟨by omega, by omega⟩
    · cases hf

theorem isl_new [Nu] (r : R g h w) {sz : Nat} {es es' : List AV} {ids : List Nat} {arr : Array Value} (hs : snaps h es = some (es', ids)) (hr : Rows g h w sz es arr) (h0 : 0 < sz) (T : TypeId) (fz : Nat × Nat)
    {full : Bool} {cap : Nat} (hc : es.length ≤ cap) (hf : full = true → cap = es.length)
    (hok' : ∀ (i : Nat) (e : AV), es'[i]? = some e → (cellsOf e).length = sz ∧ ∀ (j : Nat) (c : AV), (cellsOf e)[j]? = some c → okCell c = true)
    (hrel : ∀ (i : Nat) (e : AV) (j : Nat) (c : AV) (u : Value), es'[i]? = some e → (cellsOf e)[j]? = some c → arr[i * sz + j]? = some u → VD (g.plus h ids).I w c u) :
    ∃ g', V g' (mark ids h) (w.alloc (.cells arr T fz)) (.isl sz full es') (.slice (some ⟨w.heap.size, 0, none⟩) es.length cap) ∧
      Post g h w g' (mark ids h) (w.alloc (.cells arr T fz)) ∧ R g' (mark ids h) (w.alloc (.cells arr T fz)) := by
  obtain ⟨pm, rm⟩ := mark_ok r ids
  obtain ⟨pn, rn⟩ := new_imm rm arr T fz
  obtain ⟨hl, _⟩ := snaps_deep r hs (fun x hx => hx)
  refine ⟨_, ?_, pm.trans pn, rn⟩
  rw [← hl]
  refine .deep (.isl (fun i j => arr.getD (i * sz + j) undef) (by omega) (fun h => by rw [hf h, hl]) (fun i e he => ⟨(hok' i e he).1, h0⟩) (fun _ => ⟨w.heap.size, 0, rfl, fun i j hi hj => ?_⟩) (fun i e j c he hc => (hok' i e he).2 j c hc) (fun i e j c he hc => ?_))
  · have hm : i * sz + j < arr.size := Nat.lt_of_lt_of_le (idx_lt (by omega) hj) hr.size
    refine ⟨.inr ⟨rfl, by omega⟩, ?_⟩
    unfold World.cell?
    simp only [heap_alloc_at, Nat.zero_add]
    simp [Array.getD, hm]
  · have hi := lt_of_get he
    have hj := lt_of_get hc
    rw [(hok' i e he).1] at hj
    have hm : i * sz + j < arr.size := Nat.lt_of_lt_of_le (idx_lt (by omega) hj) hr.size
    refine (hrel i e j c (arr.getD (i * sz + j) undef) he hc (by simp [Array.getD, hm])).mono fun b o hi => ⟨.inl hi, ?_⟩
    obtain ⟨u, hu⟩ := plus_cell r ids hi
    exact cell_of_heap (heap_alloc_lt _ _ (World.block_lt_of_cell? _ _ hu)) o

/-- What is read off keeps the cells' number and kind. -/
theorem snapCell_ok {a a' : AV} {ids : List Nat} (hs : snapCell h a = some (a', ids)) (hok : okCell a = true) : okCell a' = true ∧ cellsOf a' = [a'] := by
  cases a with
  | sl id off len full =>
    simp only [snapCell] at hs
    split at hs
    · split at hs
      · split at hs
        · cases hs; exact ⟨rfl, rfl⟩
        · split at hs
          · cases hs; exact ⟨rfl, rfl⟩
          · cases hs
      · cases hs
    · cases hs
  | agg cs => simp [okCell] at hok
  | _ =>
    simp only [snapCell] at hs
    split at hs
    · cases hs; exact ⟨hok, rfl⟩
    · cases hs

theorem snapCells_ok : ∀ {cs cs' : List AV} {ids : List Nat}, snapCells h cs = some (cs', ids) → cs.all okCell = true →
    cs'.length = cs.length ∧ cs'.all okCell = true ∧ ∀ (i : Nat) (c c' : AV), cs[i]? = some c → cs'[i]? = some c' → ∃ js, snapCell h c = some (c', js) ∧ ∀ x ∈ js, x ∈ ids
  | [], cs', ids, hs, _ => by
    simp only [snapCells, Option.some.injEq, Prod.mk.injEq] at hs
    obtain ⟨rfl, rfl⟩ := hs
    exact ⟨rfl, rfl, fun i c c' hc => by simp at hc⟩
  | c :: cs, cs', ids, hs, hok => by
    simp only [snapCells] at hs
    split at hs
    · rename_i c' i cs'' j h1 h2
      simp only [Option.some.injEq, Prod.mk.injEq] at hs
      obtain ⟨rfl, rfl⟩ := hs
      simp only [List.all_cons, Bool.and_eq_true] at hok
      obtain ⟨q1, q2, q3⟩ := snapCells_ok h2 hok.2
      refine ⟨by simp [q1], by simp only [List.all_cons, Bool.and_eq_true]; exact ⟨(snapCell_ok h1 hok.1).1, q2⟩, fun k x x' hx hx' => ?_⟩
      cases k with
      | zero => simp at hx hx'; subst hx; subst hx'; exact ⟨i, h1, fun x hx => by simp [hx]⟩
      | succ k => obtain ⟨js, a1, a2⟩ := q3 k x x' (by simpa using hx) (by simpa using hx'); exact ⟨js, a1, fun x hx => by simp [a2 x hx]⟩
    · cases hs

theorem snap1_ok {a a' : AV} {ids : List Nat} (hs : snap1 h a = some (a', ids)) (hok : (cellsOf a).all okCell = true) :
    (cellsOf a').length = (cellsOf a).length ∧ (cellsOf a').all okCell = true ∧ ∀ (j : Nat) (c c' : AV), (cellsOf a)[j]? = some c → (cellsOf a')[j]? = some c' → ∃ js, snapCell h c = some (c', js) ∧ ∀ x ∈ js, x ∈ ids := by
  cases a with
  | agg cs =>
    simp only [snap1] at hs
    cases hc : snapCells h cs with
    | none => rw [hc] at hs; cases hs
    | some p =>
      obtain ⟨cs', i⟩ := p
      rw [hc] at hs
      simp only [Option.map_some, Option.some.injEq, Prod.mk.injEq] at hs
      obtain ⟨rfl, rfl⟩ := hs
      exact snapCells_ok hc hok
  | _ =>
    simp only [snap1] at hs
    simp only [cellsOf, List.all_cons, List.all_nil, Bool.and_true] at hok
    obtain ⟨q1, q2⟩ := snapCell_ok hs hok
    rw [q2]
    refine ⟨rfl, by simpa using q1, fun j c c' hc hc' => ?_⟩
    cases j with
    | zero => simp [cellsOf] at hc hc'; subst hc; subst hc'; exact ⟨ids, hs, fun x hx => hx⟩
    | succ j => simp [cellsOf] at hc

theorem snaps_get : ∀ {es es' : List AV} {ids : List Nat}, snaps h es = some (es', ids) → es'.length = es.length ∧ ∀ (i : Nat) (e e' : AV), es[i]? = some e → es'[i]? = some e' → ∃ js, snap1 h e = some (e', js) ∧ ∀ x ∈ js, x ∈ ids
  | [], es', ids, hs => by
    simp only [snaps, Option.some.injEq, Prod.mk.injEq] at hs
    obtain ⟨rfl, rfl⟩ := hs
    exact ⟨rfl, fun i c c' hc => by simp at hc⟩
  | c :: cs, cs', ids, hs => by
    simp only [snaps] at hs
    split at hs
    · rename_i c' i cs'' j h1 h2
      simp only [Option.some.injEq, Prod.mk.injEq] at hs
      obtain ⟨rfl, rfl⟩ := hs
      obtain ⟨q1, q3⟩ := snaps_get h2
      refine ⟨by simp [q1], fun k x x' hx hx' => ?_⟩
      cases k with
      | zero => simp at hx hx'; subst hx; subst hx'; exact ⟨i, h1, fun x hx => by simp [hx]⟩
      | succ k => obtain ⟨js, a1, a2⟩ := q3 k x x' (by simpa using hx) (by simpa using hx'); exact ⟨js, a1, fun x hx => by simp [a2 x hx]⟩
    · cases hs

theorem buildSlice_run [Nu] (r : R g h w) {t : TypeId} {len : Nat} {ps : List (Nat × AV)} {qs : Array (Nat × Value)} {y : AV} {h' : Heap} (hp : PV g h w ps qs.toList) (hb : buildSlice P t len ps h = some (y, h')) :
    ∃ u w' g', (Instr.buildSlice t len qs).run P w = .ok u w' ∧ V g' h' w' y u ∧ Post g h w g' h' w' ∧ R g' h' w' := by
  unfold buildSlice at hb
  split at hb
  · rename_i eT he
    have ht := elemT_inv he
    split at hb
    · rename_i i hi
      split at hb
      · cases hb
      · rename_i h0
        have h0' : 0 < i.size ∧ ¬ (16777216 < len * i.size) := by
          have : (2 : Nat) ^ 24 = 16777216 := by decide
          omega
        cases hz : i.zero with
        | none => rw [hz] at hb; cases hb
        | some z =>
          rw [hz] at hb
          simp only [Option.map_some] at hb
          split at hb
          · cases hb
          · rename_i hzz
            have hzl : (cellsOf (ofVal z)).length = i.size := Classical.byContradiction fun q => hzz (.inl q)
            have hzok : (cellsOf (ofVal z)).all okCell = true := by
              cases hh : (cellsOf (ofVal z)).all okCell
              · exact absurd (Or.inr hh) hzz
              · rfl
            have hzs : z.cells.size = i.size := by rw [← (CV.ofVal (g := g) (h := h) (w := w) z).1]; exact hzl
            split at hb
            · rename_i es hes
              have base := Rows.zeros (g := g) (h := h) (w := w) hzs hzl hzok h0'.1 (Nat.le_refl len)
              obtain ⟨arr, f1, f2, f3, f4⟩ := setElems_ok hp base (by simp) hes
              have hel : es.length = len := by rw [f4]; simp
              have ti : ∀ w, (typeInfo eT).run P w = .ok i w := fun w => by simp [typeInfo, hi]
              have so : ∀ w, (sizeOf eT).run P w = .ok i.size w := fun w => by simp [sizeOf, ti]
              have zv : ∀ w, (zeroValue eT).run P w = .ok z w := fun w => by simp [zeroValue, ti, hz]
              have run : (Instr.buildSlice t len qs).run P w = .ok (.slice (some ⟨w.heap.size, 0, none⟩) len len) (w.alloc (.cells arr eT)) := by
                by_cases hl0 : len = 0
                · have hl0' : len * i.size = 0 := by rw [hl0]; simp
                  have f1' : Instr.fill (fun k => some (k * i.size, i.size)) #[] qs.toList = some arr := by
                    rw [← f1]; congr 1; rw [hl0']; simp
                  simp only [Instr.buildSlice, Sem.run_bind, run_underlying ht, Result.andThen_ok, so]
                  rw [if_neg (by omega)]
                  have r0 : ∀ f : Nat → Value, #[] = (Array.range 0).map f := fun f => by simp
                  simp [hl0', ← r0, f1', newRow]
                · have hl0' : ¬ (len * i.size = 0) := fun q => by rcases Nat.mul_eq_zero.1 q with q | q <;> omega
                  simp only [Instr.buildSlice, Sem.run_bind, run_underlying ht, Result.andThen_ok, so]
                  rw [if_neg (by have := h0'.2; omega)]
                  rw [if_neg hl0']
                  simp [zv, f1, newRow]
              split at hb
              · rename_i es' ids hsn
                cases hb
                have hsn : snaps h es = some (es', ids) := by
                  split at hsn
                  · exact hsn
                  · cases hsn
                obtain ⟨sl1, sl2⟩ := snaps_get hsn
                have hpt : ∀ (k : Nat) (e' : AV), es'[k]? = some e' → ∃ e js, es[k]? = some e ∧ snap1 h e = some (e', js) ∧ ∀ x ∈ js, x ∈ ids := by
                  intro k e' he'
                  have hk := lt_of_get he'
                  have he0 : es[k]? = some es[k] := List.getElem?_eq_getElem (by omega)
                  obtain ⟨js, a1, a2⟩ := sl2 k _ _ he0 he'
                  exact ⟨_, js, he0, a1, a2⟩
                obtain ⟨g', k1, k2, k3⟩ := isl_new r hsn f2 h0'.1 eT (0, 0) (full := true) (cap := es.length) (Nat.le_refl _) (fun _ => rfl)
                  (fun k e' he' => by
                    obtain ⟨e, js, a1, a2, _⟩ := hpt k e' he'
                    obtain ⟨b1, b2, _⟩ := snap1_ok a2 (all_ok_of fun j c hc => f2.okc k e j c a1 hc)
                    exact ⟨by rw [b1, f2.len k e a1], fun j c hc => all_get b2 hc⟩)
                  (fun k e' j c' u he' hc' hu => by
                    obtain ⟨e, js, a1, a2, a3⟩ := hpt k e' he'
                    obtain ⟨b1, b2, b3⟩ := snap1_ok a2 (all_ok_of fun j c hc => f2.okc k e j c a1 hc)
                    have hj := lt_of_get hc'
                    have hc : (cellsOf e)[j]? = some (cellsOf e)[j] := List.getElem?_eq_getElem (by omega)
                    obtain ⟨js', d1, d2⟩ := b3 j _ _ hc hc'
                    obtain ⟨u', hu', hvu⟩ := f2.rel k e j _ a1 hc
                    rw [hu] at hu'; cases hu'
                    exact snapCell_deep r d1 (fun x hx => a3 x (d2 x hx)) hvu)
                rw [hel] at k1
                exact ⟨_, _, g', run, k1, k2, k3⟩
              · cases hb
                obtain ⟨p1, r1⟩ := new_row r i.size true false es arr eT h0'.1 f2.len f2.okc f2.size f2.rel
                refine ⟨_, _, _, run, .sl (by simp [new]) (Nat.le_refl _) (fun _ => rfl) (fun hf => by cases hf) (fun A hA => ?_), p1, r1⟩
                unfold new at hA
                rw [getElem_snoc] at hA
                simp only [Nat.lt_irrefl, if_false, if_true, Option.some.injEq, AObj.arr.injEq] at hA
                subst hA
                rw [Gh.push_new]
                refine ⟨fun _ => by simp, fun T n hn => ?_⟩
                have : (w.alloc (.cells arr eT)).shape? w.heap.size = some (eT, arr.size) := by unfold World.shape?; rw [heap_alloc_at]
                rw [this] at hn
                cases hn
                rw [f3, hel]; simp
            · cases hb
    · cases hb
  · cases hb

end Go.Am
