import Derived.Test.YtkkjoomlfmofbaaGreatDoorAm7
set_option linter.unusedSimpArgs false
set_option linter.unusedVariables false
set_option linter.unusedSectionVars false
/-! Operations that write or make memory: store, a new variable. -/
namespace Go.Am

variable {P : Program} {g : Gh} {h : Heap} {w : World}

theorem cellsOf_reElem {cs : List AV} (hc : cs.all okCell = true) : cellsOf (reElem cs) = cs := by
  match cs, hc with
  | [], _ => rfl
  | [c], hc =>
    have : okCell c = true := by simpa using hc
    cases c <;> first | rfl | (simp [okCell] at this)
  | a :: b :: r, _ => rfl

theorem overwrite_get {cs new : List AV} {off : Nat} (hle : off + new.length ≤ cs.length) (j : Nat) :
    (overwrite cs off new)[j]? = if j < off then cs[j]? else if j < off + new.length then new[j - off]? else cs[j]? := by
  unfold overwrite
  have hl : (cs.take off).length = off := by simp; omega
  by_cases h1 : j < off
  · rw [if_pos h1, List.append_assoc, List.getElem?_append_left (by omega), List.getElem?_take, if_pos h1]
  · rw [if_neg h1]
    by_cases h2 : j < off + new.length
    · rw [if_pos h2, List.append_assoc, List.getElem?_append_right (by omega), hl, List.getElem?_append_left (by omega)]
    · rw [if_neg h2, List.getElem?_append_right (by simp; omega), List.getElem?_drop]
      congr 1; simp; omega

theorem overwrite_length {cs new : List AV} {off : Nat} (hle : off + new.length ≤ cs.length) : (overwrite cs off new).length = cs.length := by
  unfold overwrite; simp; omega

theorem all_ok_of {cs : List AV} (hh : ∀ (j : Nat) (c : AV), cs[j]? = some c → okCell c = true) : cs.all okCell = true := by
  rw [List.all_eq_true]
  intro x hx
  obtain ⟨j, hj⟩ := List.getElem?_of_mem hx
  exact hh j x hj

theorem write_elem [Nu] (r : R g h w) {id i off : Nat} {A : Arr} {e v : AV} {vv : Value} (hA : h[id]? = some (.arr A)) (hsh : A.shared = false) (he : A.elems[i]? = some e)
    (hle : off + (cellsOf v).length ≤ (cellsOf e).length) (hok : (cellsOf v).all okCell = true) (hv : V g h w v vv) :
    (storeCells ⟨(g.μ id).1, (g.μ id).2 + i * A.sz + off, none⟩ vv.cells.toList).run P w = .ok () (w.setCells (g.μ id).1 ((g.μ id).2 + i * A.sz + off) vv.cells.toList) ∧
    Post g h w g (h.set id (.arr { A with elems := A.elems.set i (reElem (overwrite (cellsOf e) off (cellsOf v))) })) (w.setCells (g.μ id).1 ((g.μ id).2 + i * A.sz + off) vv.cells.toList) ∧
    R g (h.set id (.arr { A with elems := A.elems.set i (reElem (overwrite (cellsOf e) off (cellsOf v))) })) (w.setCells (g.μ id).1 ((g.μ id).2 + i * A.sz + off) vv.cells.toList) := by
  obtain ⟨hz, ⟨T, n, hshape, hfit, hfro⟩, hlen, hokA, hrel⟩ := r.arr id A hA
  have hi := lt_of_get he
  have hle0 := hlen i e he
  have hrow : (i + 1) * A.sz ≤ A.elems.length * A.sz := Nat.mul_le_mul_right _ hi
  rw [Nat.add_mul, Nat.one_mul] at hrow
  by_cases hv0 : v = .junk
  · subst hv0; simp [cellsOf, okCell] at hok
  obtain ⟨hcl, hcr⟩ := hv.cells hv0
  have hvl : vv.cells.toList.length = (cellsOf v).length := by simpa using hcl.symm
  have hex : ∀ j, j < vv.cells.toList.length → (w.cell? ⟨(g.μ id).1, (g.μ id).2 + i * A.sz + off + j, none⟩).isSome = true := fun j hj => cell_of_shape w hshape (by omega)
  have hone : ∀ x ∈ vv.cells.toList, x.oneCell' = true := by
    intro x hx
    obtain ⟨j, hj⟩ := List.getElem?_of_mem hx
    have hjl := lt_of_get hj
    have hc : (cellsOf v)[j]? = some (cellsOf v)[j] := List.getElem?_eq_getElem (by omega)
    exact (hcr j _ x hc (by simpa using hj)).oneCell (all_get hok hc)
  have hov : (overwrite (cellsOf e) off (cellsOf v)).all okCell = true := all_ok_of fun j c hc => by
    rw [overwrite_get hle] at hc
    split at hc
    · exact hokA _ _ _ _ he hc
    · split at hc
      · exact all_get hok hc
      · exact hokA _ _ _ _ he hc
  have hcr' := cellsOf_reElem hov
  have hget : ∀ (k : Nat) (x : AV), (A.elems.set i (reElem (overwrite (cellsOf e) off (cellsOf v))))[k]? = some x →
      (k = i ∧ x = reElem (overwrite (cellsOf e) off (cellsOf v))) ∨ (k ≠ i ∧ A.elems[k]? = some x) := by
    intro k x hx
    rw [set_get] at hx
    by_cases hk : k = i
    · rw [if_pos ⟨hk, hi⟩] at hx; cases hx; exact .inl ⟨hk, rfl⟩
    · rw [if_neg (fun q => hk q.1)] at hx; exact .inr ⟨hk, hx⟩
  refine ⟨?_, ?_⟩
  · have := run_storeCells_cells (P := P) (g.μ id).1 ((g.μ id).2 + i * A.sz + off) vv.cells.toList 0 w (by simpa using hex) (fun j hj => hfro _ (by omega)) hone
    simpa using this
  · refine set_row (A' := { A with elems := A.elems.set i (reElem (overwrite (cellsOf e) off (cellsOf v))) }) r hA hsh rfl (by simp) _ _ (fun k x hx => ?_) (fun k x j c hx hc => ?_) (fun k x j c hx hc => ?_)
    · rcases hget k x hx with ⟨_, rfl⟩ | ⟨_, hx⟩
      · rw [hcr', overwrite_length hle, hle0]
      · exact hlen k x hx
    · rcases hget k x hx with ⟨_, rfl⟩ | ⟨_, hx⟩
      · rw [hcr'] at hc; exact all_get hov hc
      · exact hokA k x j c hx hc
    · rcases hget k x hx with ⟨rfl, rfl⟩ | ⟨hk, hx⟩
      · rw [hcr', overwrite_get hle] at hc
        by_cases h1 : j < off
        · rw [if_pos h1] at hc
          obtain ⟨u, hu, hvu⟩ := hrel k e j c he hc
          exact ⟨u, by rw [World.cell?_setCells_out _ _ _ _ _ (fun _ _ => .inl (by show _ < _; simp only; omega))]; exact hu, hvu⟩
        · rw [if_neg h1] at hc
          by_cases h2 : j < off + (cellsOf v).length
          · rw [if_pos h2] at hc
            obtain ⟨q, rfl⟩ : ∃ q, j = off + q := ⟨j - off, by omega⟩
            rw [Nat.add_sub_cancel_left] at hc
            have hq : q < vv.cells.toList.length := by omega
            have := World.cell?_setCells_in (g.μ id).1 vv.cells.toList ((g.μ id).2 + k * A.sz + off) w hex q hq
            rw [← Nat.add_assoc]
            exact ⟨_, this, hcr q c _ hc (by rw [← Array.getElem?_toList]; exact List.getElem?_eq_getElem hq)⟩
          · rw [if_neg h2] at hc
            obtain ⟨u, hu, hvu⟩ := hrel k e j c he hc
            exact ⟨u, by rw [World.cell?_setCells_out _ _ _ _ _ (fun _ _ => .inr (by show _ ≤ _; simp only; omega))]; exact hu, hvu⟩
      · obtain ⟨u, hu, hvu⟩ := hrel k x j c hx hc
        have hj : j < A.sz := by have := lt_of_get hc; rw [hlen k x hx] at this; exact this
        refine ⟨u, ?_, hvu⟩
        rw [World.cell?_setCells_out _ _ _ _ _ (fun _ _ => ?_)]
        · exact hu
        · show (g.μ id).2 + k * A.sz + j < _ ∨ _ ≤ (g.μ id).2 + k * A.sz + j
          rcases Nat.lt_or_gt_of_ne hk with hlt | hgt
          · have : (k + 1) * A.sz ≤ i * A.sz := Nat.mul_le_mul_right _ hlt
            rw [Nat.add_mul, Nat.one_mul] at this
            left; omega
          · have : (i + 1) * A.sz ≤ k * A.sz := Nat.mul_le_mul_right _ hgt
            rw [Nat.add_mul, Nat.one_mul] at this
            right; omega

theorem mark_set {ids : List Nat} {id : Nat} (hn : id ∉ ids) (h : Heap) (o : AObj) : mark ids (h.set id o) = (mark ids h).set id o := by
  apply List.ext_getElem?
  intro k
  rw [mark_get, set_get, set_get, mark_get, mark_length]
  by_cases hk : k = id ∧ id < h.length
  · rw [if_pos hk, if_pos hk, hk.1]; simp [hn]
  · rw [if_neg hk, if_neg hk]

theorem store_run [Nu] (r : R g h w) {t : TypeId} {a v : AV} {va vv : Value} {h' : Heap} (hva : V g h w a va) (hv : V g h w v vv) (hs : store P t a v h = some h') :
    ∃ w' g', (Instr.storeAt t va vv).run P w = .ok () w' ∧ Post g h w g' h' w' ∧ R g' h' w' := by
  unfold store at hs
  split at hs
  · rename_i id i off
    split at hs
    · rename_i A hA
      split at hs
      · cases hs
      · rename_i hsh
        have hsh : A.shared = false := by simpa using hsh
        split at hs
        · rename_i e he
          obtain ⟨b, o, rfl, hid, hb, _⟩ := hva.ptr_inv
          obtain ⟨rfl, rfl⟩ := hb A hA
          have core : ∀ (g1 : Gh) (h1 : Heap) (v1 : AV) (h2 : Heap), R g1 h1 w → h1[id]? = some (.arr A) → g1.μ id = g.μ id → V g1 h1 w v1 vv →
              (if sizeT P t = some (cellsOf v1).length ∧ off + (cellsOf v1).length ≤ (cellsOf e).length ∧ (cellsOf v1).all okCell = true then
                some (h1.set id (.arr { A with elems := A.elems.set i (reElem (overwrite (cellsOf e) off (cellsOf v1))) })) else none) = some h2 →
              ∃ w', (Instr.storeAt t (.pointer (some ⟨(g.μ id).1, (g.μ id).2 + i * A.sz + off, none⟩)) vv).run P w = .ok () w' ∧ Post g1 h1 w g1 h2 w' ∧ R g1 h2 w' := by
            intro g1 h1 v1 h2 r1 hA1 hμ hv1 hp
            split at hp
            · rename_i hc
              cases hp
              obtain ⟨k1, k2, k3⟩ := write_elem (P := P) r1 hA1 hsh he hc.2.1 hc.2.2 hv1
              rw [hμ] at k1 k2 k3
              refine ⟨_, ?_, k2, k3⟩
              have hj : v1 ≠ .junk := by rintro rfl; simp [cellsOf, okCell] at hc
              have hl := (hv1.cells hj).1
              simp only [Instr.storeAt, Instr.sureAddr, pure_bind, storeVar, Sem.run_bind, sizeT_run hc.1, Result.andThen_ok, hl]
              simp only [ne_eq, not_true, if_false]
              exact k1
            · cases hp
          simp only at hs
          split at hs
          · split at hs
            · rename_i v' ids hsn
              split at hs
              · cases hs
              · rename_i hni
                cases hp : (if sizeT P t = some (cellsOf v').length ∧ off + (cellsOf v').length ≤ (cellsOf e).length ∧ (cellsOf v').all okCell = true then
                  some (h.set id (.arr { A with elems := A.elems.set i (reElem (overwrite (cellsOf e) off (cellsOf v'))) })) else none) with
                | none => rw [hp] at hs; cases hs
                | some h2 =>
                  rw [hp] at hs
                  cases hs
                  obtain ⟨pm, rm⟩ := mark_ok r ids
                  have hAm : (mark ids h)[id]? = some (.arr A) := by rw [mark_get, hA]; simp [hni]
                  have hp2 : (if sizeT P t = some (cellsOf v').length ∧ off + (cellsOf v').length ≤ (cellsOf e).length ∧ (cellsOf v').all okCell = true then
                      some ((mark ids h).set id (.arr { A with elems := A.elems.set i (reElem (overwrite (cellsOf e) off (cellsOf v'))) })) else none) = some (mark ids h2) := by
                    split at hp
                    · rename_i hc; cases hp; rw [if_pos hc, mark_set hni]
                    · cases hp
                  obtain ⟨w', k1, k2, k3⟩ := core (g.plus h ids) (mark ids h) v' _ rm hAm rfl (.deep (snap1_deep r hsn (fun x hx => hx) hv)) hp2
                  exact ⟨w', _, k1, pm.trans k2, k3⟩
            · obtain ⟨w', k1, k2, k3⟩ := core g h v _ r hA rfl hv hs
              exact ⟨w', g, k1, k2, k3⟩
          · obtain ⟨w', k1, k2, k3⟩ := core g h v _ r hA rfl hv hs
            exact ⟨w', g, k1, k2, k3⟩
        · cases hs
    · cases hs
  · cases hs

theorem box_run [Nu] (r : R g h w) {a p : AV} {v : Value} {h' : Heap} (hv : V g h w a v) (hb : box a h = some (p, h')) (T : TypeId) :
    V (g.push h.length w.heap.size 0) h' (w.alloc (.cells v.cells T)) p (.pointer (some ⟨w.heap.size, 0, none⟩)) ∧
    Post g h w (g.push h.length w.heap.size 0) h' (w.alloc (.cells v.cells T)) ∧ R (g.push h.length w.heap.size 0) h' (w.alloc (.cells v.cells T)) := by
  unfold box at hb
  simp only at hb
  split at hb
  · cases hb
  · rename_i hc
    simp only [Option.some.injEq, Prod.mk.injEq] at hb
    obtain ⟨rfl, rfl⟩ := hb
    have hok : (cellsOf a).all okCell = true := by
      cases hh : (cellsOf a).all okCell
      · exact absurd (Or.inr hh) hc
      · rfl
    have hj : a ≠ .junk := by rintro rfl; simp [cellsOf, okCell] at hok
    obtain ⟨hl, hr⟩ := hv.cells hj
    have one : ∀ (i : Nat) (e : AV), [a][i]? = some e → i = 0 ∧ e = a := by
      intro i e he
      cases i with
      | zero => simp at he; exact ⟨rfl, he.symm⟩
      | succ i => simp at he
    obtain ⟨p1, r1⟩ := new_row r (cellsOf a).length false false [a] v.cells T (by omega) (fun i e he => by rw [(one i e he).2])
      (fun i e j x he hx => by rw [(one i e he).2] at hx; exact all_get hok hx) (by simp [hl])
      (fun i e j x he hx => by
        obtain ⟨rfl, rfl⟩ := one i e he
        have hjl := lt_of_get hx
        have hu : v.cells[j]? = some v.cells[j] := Array.getElem?_eq_getElem (by omega)
        exact ⟨v.cells[j], by rw [Nat.zero_mul, Nat.zero_add]; exact hu, hr j x _ hx hu⟩)
    refine ⟨.ptr (by simp) (fun A hA => ?_) (fun _ y hs => ?_), p1, r1⟩
    · rw [getElem_snoc] at hA
      simp only [Nat.lt_irrefl, if_false, if_true, Option.some.injEq, AObj.arr.injEq] at hA
      rw [Gh.push_new]; simp
    · rw [getElem_snoc] at hs
      simp at hs

end Go.Am
