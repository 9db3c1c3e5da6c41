import Derived.Test.YtkkjoomlfmofbaaGreatDoorAmCM
import Derived.Lib.AppendZeros
set_option linter.unusedSectionVars false
/-! Maps that are gone through, entries, interfaces. -/
namespace Go.Am
set_option linter.unusedSimpArgs false
set_option linter.unusedVariables false

variable {P : Program} {g : Gh} {h : Heap} {w : World}

/-! ### Entries side by side -/

theorem Ents.nil_inv [Nu] {es' : List MapEntry} (he : Ents g h w [] es') : es' = [] := List.length_eq_zero_iff.1 he.1

theorem Ents.cons_inv [Nu] {x : Value × AV × Nat} {es : List (Value × AV × Nat)} {es' : List MapEntry} (he : Ents g h w (x :: es) es') :
    ∃ e es0, es' = e :: es0 ∧ e.key = x.1 ∧ e.born = x.2.2 ∧ V g h w x.2.1 e.val ∧ Ents g h w es es0 := by
  cases es' with
  | nil => have := he.1; simp at this
  | cons e es0 =>
    obtain ⟨e', a, b, c, d⟩ := he.2 0 x rfl
    cases a
    exact ⟨e, es0, rfl, b, c, d, by have := he.1; simpa using this, fun j y hy => he.2 (j + 1) y (by simpa using hy)⟩

theorem Ents.cons [Nu] {x : Value × AV × Nat} {e : MapEntry} {es : List (Value × AV × Nat)} {es' : List MapEntry} (h1 : e.key = x.1) (h2 : e.born = x.2.2) (h3 : V g h w x.2.1 e.val) (he : Ents g h w es es') : Ents g h w (x :: es) (e :: es') := by
  refine ⟨by simp [he.1], fun i y hy => ?_⟩
  cases i with
  | zero => cases hy; exact ⟨e, rfl, h1, h2, h3⟩
  | succ i => exact he.2 i y (by simpa using hy)

theorem Ents.filter [Nu] {p : Nat → Bool} : ∀ {es : List (Value × AV × Nat)} {es' : List MapEntry}, Ents g h w es es' → Ents g h w (es.filter fun e => p e.2.2) (es'.filter fun e => p e.born)
  | [], es', he => by rw [he.nil_inv]; exact ⟨rfl, fun i x hx => by simp at hx⟩
  | x :: es, es', he => by
    obtain ⟨e, es0, rfl, h1, h2, h3, h4⟩ := he.cons_inv
    simp only [List.filter_cons, h2]
    split
    · exact .cons h1 h2 h3 h4.filter
    · exact h4.filter

theorem Ents.append [Nu] {es fs : List (Value × AV × Nat)} {es' fs' : List MapEntry} (he : Ents g h w es es') (hf : Ents g h w fs fs') : Ents g h w (es ++ fs) (es' ++ fs') := by
  refine ⟨by simp [he.1, hf.1], fun i x hx => ?_⟩
  by_cases hi : i < es.length
  · rw [List.getElem?_append_left hi] at hx
    rw [List.getElem?_append_left (by rw [he.1]; exact hi)]
    exact he.2 i x hx
  · rw [List.getElem?_append_right (by omega)] at hx
    rw [List.getElem?_append_right (by rw [he.1]; omega), he.1]
    exact hf.2 _ x hx

theorem Ents.all [Nu] {p : Nat → Bool} : ∀ {es : List (Value × AV × Nat)} {es' : List MapEntry}, Ents g h w es es' → (es'.all fun e => p e.born) = es.all fun e => p e.2.2
  | [], es', he => by rw [he.nil_inv]; rfl
  | x :: es, es', he => by
    obtain ⟨e, es0, rfl, h1, h2, h3, h4⟩ := he.cons_inv
    simp only [List.all_cons, h2, h4.all]

theorem Ents.isEmpty [Nu] {es : List (Value × AV × Nat)} {es' : List MapEntry} (he : Ents g h w es es') : es'.isEmpty = es.isEmpty := by
  cases es with
  | nil => rw [he.nil_inv]; rfl
  | cons x es => obtain ⟨e, es0, rfl, _⟩ := he.cons_inv; rfl

theorem Ents.find [Nu] {p : Nat → Bool} {x : Value × AV × Nat} : ∀ {es : List (Value × AV × Nat)} {es' : List MapEntry}, Ents g h w es es' → es.find? (fun e => p e.2.2) = some x →
    ∃ e, es'.find? (fun e => p e.born) = some e ∧ e.key = x.1 ∧ e.born = x.2.2 ∧ V g h w x.2.1 e.val
  | [], es', he, hf => by simp at hf
  | y :: es, es', he, hf => by
    obtain ⟨e, es0, rfl, h1, h2, h3, h4⟩ := he.cons_inv
    rw [List.find?_cons] at hf ⊢
    rw [h2]
    split at hf
    · cases hf; exact ⟨e, by simp [*], h1, h2, h3⟩
    · rename_i hp
      obtain ⟨e', a, b⟩ := h4.find hf
      exact ⟨e', by simp [hp, a], b⟩

theorem Ents.findIdx [Nu] {p : Nat → Bool} : ∀ {es : List (Value × AV × Nat)} {es' : List MapEntry}, Ents g h w es es' → es'.findIdx? (fun e => p e.born) = es.findIdx? fun e => p e.2.2
  | [], es', he => by rw [he.nil_inv]; rfl
  | x :: es, es', he => by
    obtain ⟨e, es0, rfl, h1, h2, h3, h4⟩ := he.cons_inv
    simp only [List.findIdx?_cons, h2, h4.findIdx]

/-! ### A map gone through -/

theorem rangeM_run [Nu] (r : R g h w) {t kt et : TypeId} {x y : AV} {v : Value} {h' : Heap} (ht : P.underlying t = some (.map kt et)) (hv : V g h w x v) (hr : rangeM x h = some (y, h')) :
    ∃ u w' g', (Instr.range t v).run P w = .ok u w' ∧ V g' h' w' y u ∧ Post g h w g' h' w' ∧ R g' h' w' := by
  unfold rangeM at hr
  split at hr
  · cases hr
    have := hv.lit_inv
    subst this
    obtain ⟨p1, r1⟩ := new_obj r (.siter .none) (.mapIter none 0 #[] 0) (fun A hh => by cases hh) (fun es k hh => by cases hh) (fun y hh _ => by cases hh; exact .none)
    refine ⟨.pointer (some ⟨w.heap.size, 0, none⟩), _, _, ?_, .ptr (by simp) (fun A hA => ?_) (fun _ y hs => ?_), p1, r1⟩
    · unfold Instr.range
      rw [Sem.run_bind, run_underlying ht]
      rfl
    · rw [getElem_snoc] at hA; simp at hA
    · rw [Gh.push_new]; exact ⟨rfl, rfl⟩
  · rename_i id
    split at hr
    · rename_i es c hid
      cases hr
      obtain ⟨b, rfl, _, hb⟩ := hv.map_inv
      have := hb _ _ hid
      subst this
      obtain ⟨es', e1, _⟩ := (r.map _ _ _ hid).ents
      obtain ⟨p1, r1⟩ := new_obj r (.siter (.ent id c [] c)) (.mapIter (some (g.μ id).1) c #[] c) (fun A hh => by cases hh) (fun es k hh => by cases hh) (fun y hh e => by cases hh; exact .ent (hv.ext e))
      refine ⟨.pointer (some ⟨w.heap.size, 0, none⟩), _, _, ?_, .ptr (by simp) (fun A hA => ?_) (fun _ y hs => ?_), p1, r1⟩
      · unfold Instr.range
        rw [Sem.run_bind, run_underlying ht]
        simp only [Result.andThen_ok]
        rw [Sem.run_bind, get_run e1 (by intros; simp)]
        rfl
      · rw [getElem_snoc] at hA; simp at hA
      · rw [Gh.push_new]; exact ⟨rfl, rfl⟩
    · cases hr
  · cases hr

theorem choose_next (n : Nat) (hn : 0 < n) (w : World) : ∃ j w1, j < n ∧ (w1 = w ∨ w1 = w.drew) ∧ (choose (.mapNext n)).run P w = .ok j w1 := by
  by_cases hf : n ≤ 1
  · exact ⟨0, w, hn, .inl rfl, by simp [choose, Sem.run, Question.forced, hf]⟩
  · exact ⟨_, w.drew, Nat.mod_lt _ hn, .inr rfl, by
      simp only [choose, Sem.run, Question.forced, decide_eq_true_eq, hf, if_false, Question.cut]
      rfl⟩

theorem next_cands [Nu] (r : R g h w) {it : AV} {vi : Value} {l : List (AV × Heap)} (hv : V g h w it vi) (hc : candsM it h = some l) (ty : TypeId) :
    ∃ x ∈ l, ∃ u w', (Instr.next vi false ty).run P w = .ok u w' ∧ V g x.2 w' x.1 u ∧ Post g h w g x.2 w' ∧ R g x.2 w' := by
  unfold candsM at hc
  split at hc
  · rename_i id
    obtain ⟨b, o, rfl, _, _, hS⟩ := hv.ptr_inv
    have over : ∀ {w1 : World}, V g h w1 (.tup [.lit (.bool false)]) (.tuple #[.bool false]) := fun {w1} => .tup rfl fun i c v' hc hv' => by
      match i, hc, hv' with
      | 0, hc, hv' => simp at hc hv'; subst hc; subst hv'; exact .deep (.lit rfl)
      | i + 1, hc, _ => simp at hc
    split at hc
    · rename_i hid
      cases hc
      obtain ⟨rfl, rfl⟩ := hS rfl _ hid
      obtain ⟨ob, hat, hob⟩ := r.siter _ _ hid
      cases hob
      refine ⟨_, List.mem_singleton.2 rfl, .tuple #[.bool false], w, ?_, over, Post.refl _ _ _, r⟩
      unfold Instr.next
      simp only
      rw [Sem.run_bind, get_run hat (by intros; simp)]
      rfl
    · rename_i m since seen last hid
      obtain ⟨rfl, rfl⟩ := hS rfl _ hid
      obtain ⟨ob, hat, hob⟩ := r.siter _ _ hid
      cases hob with
      | @ent _ bm _ _ _ hvm =>
      split at hc
      · rename_i es c hm
        obtain ⟨b', e0, _, hb'⟩ := hvm.map_inv
        cases e0
        have := hb' _ _ hm
        subst this
        obtain ⟨es', e1, e2⟩ := (r.map _ _ _ hm).ents
        split at hc
        · cases hc
        · rename_i htest
          simp only [Option.some.injEq] at hc
          subst hc
          have hcont : ∀ n, seen.toArray.contains n = seen.contains n := fun n => by simp
          -- the candidates, as the model has them
          generalize hL : es'.filter (fun e => !seen.toArray.contains e.born) = left' at *
          have hl' : left'.toList = es'.toList.filter (fun e => !seen.contains e.born) := by
            rw [← hL, Array.toList_filter]
            exact List.filter_congr fun x _ => by rw [hcont]
          have eL := e2.filter (p := fun n => !seen.contains n)
          rw [← hl'] at eL
          have eO := eL.filter (p := fun n => Nat.blt n since)
          have eY := eL.filter (p := fun n => Nat.ble since n)
          generalize hes : es.filter (fun e => !seen.contains e.2.2) = left at *
          have hO : (left'.filter (fun x => decide (x.born < since))).toList = left'.toList.filter (fun e => Nat.blt e.born since) := by
            rw [Array.toList_filter]
            exact List.filter_congr fun x _ => by rw [Bool.eq_iff_iff]; simp [Nat.blt_eq]
          have hY : (left'.filter (fun x => decide (x.born ≥ since))).toList = left'.toList.filter (fun e => Nat.ble since e.born) := by
            rw [Array.toList_filter]
            exact List.filter_congr fun x _ => by rw [Bool.eq_iff_iff]; simp
          generalize hOd : left'.filter (fun x => decide (x.born < since)) = old' at *
          generalize hYd : left'.filter (fun x => decide (x.born ≥ since)) = new' at *
          rw [← hO] at eO
          rw [← hY] at eY
          have hempty : old'.isEmpty = (left.filter fun e => Nat.blt e.2.2 since).isEmpty := by
            have := eO.isEmpty
            rw [← this]
            cases old' with | mk l => cases l <;> rfl
          have eA := eO.append eY
          generalize left.filter (fun e => Nat.blt e.2.2 since) = old at *
          generalize left.filter (fun e => Nat.ble since e.2.2) = young at *
          generalize hcd : (if old'.isEmpty = true then #[none] else #[]) ++ Array.map some (old' ++ new') = cands
          have hpos : 0 < cands.size := by
            rw [← hcd]
            cases he : old'.isEmpty with
            | true => simp; omega
            | false =>
              have : 0 < old'.size := by
                cases old' with | mk l => cases l with
                  | nil => simp at he
                  | cons a l => simp
              simp; omega
          have hnth : ∀ (j : Nat) (q : Option MapEntry), cands[j]? = some q → (∃ x, ((if old.isEmpty then [((.tup [.lit (.bool false)], h) : AV × Heap)] else []) ++ (old ++ young).map fun e => ((.tup [.lit (.bool true), ofVal e.1, e.2.1], h.set id (.siter (.ent m since (seen ++ [e.2.2]) c))) : AV × Heap))[j]? = some x ∧
              ((q = none ∧ x = (AV.tup [.lit (.bool false)], h)) ∨ ∃ (e : MapEntry) (en : Value × AV × Nat), q = some e ∧ x = (AV.tup [.lit (.bool true), ofVal en.1, en.2.1], h.set id (.siter (.ent m since (seen ++ [en.2.2]) c))) ∧ e.key = en.1 ∧ e.born = en.2.2 ∧ V g h w en.2.1 e.val)) := by
            have body : ∀ (j : Nat) (q : Option MapEntry), (Array.map some (old' ++ new'))[j]? = some q → ∃ x, ((old ++ young).map fun e => ((.tup [.lit (.bool true), ofVal e.1, e.2.1], h.set id (.siter (.ent m since (seen ++ [e.2.2]) c))) : AV × Heap))[j]? = some x ∧
                ∃ (e : MapEntry) (en : Value × AV × Nat), q = some e ∧ x = (AV.tup [.lit (.bool true), ofVal en.1, en.2.1], h.set id (.siter (.ent m since (seen ++ [en.2.2]) c))) ∧ e.key = en.1 ∧ e.born = en.2.2 ∧ V g h w en.2.1 e.val := by
              intro j q hq
              rw [Array.getElem?_map, ← Array.getElem?_toList, Array.toList_append] at hq
              cases hh : (old'.toList ++ new'.toList)[j]? with
              | none => rw [hh] at hq; cases hq
              | some e =>
                rw [hh] at hq
                cases hq
                have hlt : j < (old ++ young).length := by have := lt_of_get hh; rw [eA.1] at this; exact this
                obtain ⟨e', a, b, c', d⟩ := eA.2 j _ (List.getElem?_eq_getElem hlt)
                rw [hh] at a
                cases a
                exact ⟨_, by rw [List.getElem?_map, List.getElem?_eq_getElem hlt]; rfl, e, _, rfl, rfl, b, c', d⟩
            intro j q hq
            rw [← hcd] at hq
            rw [hempty] at hq
            cases he : old.isEmpty with
            | false =>
              rw [he] at hq
              simp only [Bool.false_eq_true, if_false, Array.empty_append, List.nil_append] at hq ⊢
              obtain ⟨x, hx, hy⟩ := body j q hq
              exact ⟨x, hx, .inr hy⟩
            | true =>
              rw [he] at hq
              simp only [if_true] at hq ⊢
              cases j with
              | zero =>
                have : q = none := by
                  rw [Array.getElem?_append_left (by simp)] at hq
                  simpa using hq.symm
                exact ⟨_, rfl, .inl ⟨this, rfl⟩⟩
              | succ j =>
                rw [Array.getElem?_append_right (by simp)] at hq
                obtain ⟨x, hx, hy⟩ := body j q (by simpa using hq)
                exact ⟨x, by simpa using hx, .inr hy⟩
          obtain ⟨j, w1, hj, hw1, hch⟩ := choose_next (P := P) cands.size hpos w
          have hr1 : Post g h w g h w1 ∧ R g h w1 := by
            rcases hw1 with rfl | rfl
            · exact ⟨Post.refl _ _ _, r⟩
            · exact drew_ok r
          have hat1 : w1.heap[(g.μ id).1]? = some (.mapIter (some (g.μ m).1) since seen.toArray last) := by
            rcases hw1 with rfl | rfl <;> exact hat
          have htest' : (!seen.toArray.isEmpty && !es'.isEmpty && es'.all (fun x => decide (x.born ≥ last))) = false := by
            have h1 : es'.isEmpty = es.isEmpty := by rw [← e2.isEmpty]; cases es' with | mk l => cases l <;> rfl
            have h2 : es'.all (fun x => decide (x.born ≥ last)) = es.all (fun e => Nat.ble last e.2.2) := by
              rw [← Array.all_toList, ← e2.all (p := fun n => Nat.ble last n)]
              congr 1
              funext x
              rw [Bool.eq_iff_iff]; simp
            have h3 : seen.toArray.isEmpty = seen.isEmpty := by cases seen <;> rfl
            rw [h1, h2, h3]
            simpa using htest
          obtain ⟨q, hq⟩ : ∃ q, cands[j]? = some q := ⟨_, Array.getElem?_eq_getElem hj⟩
          have pre : ∀ {res : Result Value}, (match (some q : Option (Option MapEntry)) with
              | some (some e) => (do setObj (g.μ id).1 (.mapIter (some (g.μ m).1) since (seen.toArray.push e.born) c); pure (.tuple #[.bool true, e.key, e.val]) : Sem Value)
              | some none => pure (.tuple #[.bool false])
              | none => stuck "Next: no such candidate").run P w1 = res → (Instr.next (.pointer (some ⟨(g.μ id).1, 0, none⟩)) false ty).run P w = res := by
            intro res hres
            unfold Instr.next
            simp only
            rw [Sem.run_bind, get_run hat (by intros; simp)]
            simp only [Result.andThen_ok]
            rw [Sem.run_bind, get_run e1 (by intros; simp)]
            simp only [Result.andThen_ok, htest', Bool.false_eq_true, if_false, hL, hOd, hYd]
            rw [hcd, Sem.run_bind, hch]
            simp only [Result.andThen_ok, hq]
            exact hres
          obtain ⟨x, hx, hcase⟩ := hnth j q hq
          refine ⟨x, List.mem_of_getElem? hx, ?_⟩
          rcases hcase with ⟨rfl, rfl⟩ | ⟨e, en, rfl, rfl, k1, k2, k3⟩
          · exact ⟨_, w1, pre rfl, over, hr1.1, hr1.2⟩
          · obtain ⟨p2, r2⟩ := set_obj hr1.2 (o := .siter (.ent m since (seen ++ [en.2.2]) c)) (x := .mapIter (some (g.μ m).1) since (seen.toArray.push e.born) c) hid rfl (by intros; simp) (by intros; simp) (fun _ _ hh => by cases hh) (fun y hh => by cases hh; exact ⟨_, rfl⟩) (fun _ _ hh => by cases hh) (fun y hh e' => by
              cases hh
              have hp : seen.toArray.push e.born = (seen ++ [en.2.2]).toArray := by rw [k2]; simp
              have key : ∀ w2, Ext g h w1 g (h.set id (.siter (.ent m since (seen ++ [en.2.2]) c))) w2 → ItOk g (h.set id (.siter (.ent m since (seen ++ [en.2.2]) c))) w2 (.ent m since (seen ++ [en.2.2]) c) (.mapIter (some (g.μ m).1) since (seen ++ [en.2.2]).toArray c) := fun w2 e2 => .ent ((hvm.ext hr1.1.ext).ext e2)
              have := key _ e'
              rw [← hp] at this
              exact this)
            refine ⟨_, _, pre (by rw [Sem.run_bind, turned_run hat1 (by intros; simp)]; rfl), ?_, hr1.1.trans p2, r2⟩
            refine .tup rfl fun i c' v' hc' hv' => ?_
            match i, hc', hv' with
            | 0, hc', hv' => simp at hc' hv'; subst hc'; subst hv'; exact .deep (.lit rfl)
            | 1, hc', hv' => simp at hc' hv'; subst hc'; subst hv'; rw [k1]; exact ofVal_ok _
            | 2, hc', hv' => simp at hc' hv'; subst hc'; subst hv'; exact (k3.ext hr1.1.ext).ext p2.ext
            | i + 3, hc', _ => simp at hc'
      · cases hc
    · cases hc
  · cases hc

theorem nextM_run [Nu] (r : R g h w) {it y : AV} {vi : Value} {h' : Heap} (hv : V g h w it vi) (hn : nextM it h = some (y, h')) (ty : TypeId) :
    ∃ u w' g', (Instr.next vi false ty).run P w = .ok u w' ∧ V g' h' w' y u ∧ Post g h w g' h' w' ∧ R g' h' w' := by
  unfold nextM at hn
  split at hn
  · rename_i x hc
    cases hn
    obtain ⟨x, hx, u, w', h1, h2, h3, h4⟩ := next_cands (P := P) r hv hc ty
    rw [List.mem_singleton] at hx
    subst hx
    exact ⟨u, w', g, h1, h2, h3, h4⟩
  · cases hn

theorem entryM_run [Nu] (r : R g h w) {it y : AV} {vi : Value} (hv : V g h w it vi) (hn : entryM it h = some y) :
    ∃ u, (Instr.entry vi).run P w = .ok u w ∧ V g h w y u := by
  unfold entryM at hn
  split at hn
  · rename_i id
    split at hn
    · rename_i m since seen last hid
      split at hn
      · rename_i bl es c hl hm
        split at hn
        · rename_i hcl
          split at hn
          · rename_i x hf
            cases hn
            obtain ⟨b, o, rfl, _, _, hS⟩ := hv.ptr_inv
            obtain ⟨rfl, rfl⟩ := hS rfl _ hid
            obtain ⟨ob, hat, hob⟩ := r.siter _ _ hid
            cases hob with
            | @ent _ bm _ _ _ hvm =>
            obtain ⟨b', e0, _, hb'⟩ := hvm.map_inv
            cases e0
            have := hb' _ _ hm
            subst this
            obtain ⟨es', e1, e2⟩ := (r.map _ _ _ hm).ents
            obtain ⟨e, f1, f2, f3, f4⟩ := e2.find (p := fun n => Nat.beq n bl) hf
            refine ⟨.tuple #[e.key, e.val], ?_, ?_⟩
            · unfold Instr.entry
              simp only
              rw [Sem.run_bind, get_run hat (by intros; simp)]
              simp only [Result.andThen_ok]
              have hb2 : seen.toArray.back? = some bl := by rw [← hl]; simp [List.getLast?_eq_getElem?]
              rw [hb2]
              simp only
              rw [Sem.run_bind, get_run e1 (by intros; simp)]
              simp only [Result.andThen_ok]
              have hcc : (c != last) = false := by simp [hcl]
              have hff : es'.find? (fun x => x.born == bl) = some e := by
                rw [← Array.find?_toList, ← f1]
                congr 1
                funext y
                rw [Bool.eq_iff_iff]; simp
              rw [hcc]
              simp only [Bool.false_eq_true, if_false, hff]
              rfl
            · refine .tup rfl fun i c' v' hc' hv' => ?_
              match i, hc', hv' with
              | 0, hc', hv' => simp at hc' hv'; subst hc'; subst hv'; rw [f2]; exact ofVal_ok _
              | 1, hc', hv' => simp at hc' hv'; subst hc'; subst hv'; exact f4
              | i + 2, hc', _ => simp at hc'
          · cases hn
        · cases hn
      · cases hn
    · cases hn
  · cases hn

theorem lenM_run [Nu] (r : R g h w) {t ty kt et : TypeId} {x y : AV} {v : Value} (ht : P.underlying t = some (.map kt et)) (hv : V g h w x v) (hn : lenM x h = some y) :
    ∃ u, (Builtin.len_ #[t] ty #[v]).run P w = .ok u w ∧ V g h w y u := by
  unfold lenM at hn
  split at hn
  · cases hn
    have := hv.lit_inv
    subst this
    exact ⟨goInt 0, by simp [Builtin.len_, run_underlying ht], .deep (.lit rfl)⟩
  · rename_i id
    split at hn
    · rename_i es c hid
      cases hn
      obtain ⟨b, rfl, _, hb⟩ := hv.map_inv
      have := hb _ _ hid
      subst this
      obtain ⟨es', e1, e2⟩ := (r.map _ _ _ hid).ents
      refine ⟨goInt es'.size, ?_, ?_⟩
      · simp [Builtin.len_, run_underlying ht, get_run e1 (by intros; simp)]
      · have : es'.size = es.length := by have := e2.1; simpa using this
        rw [this]
        exact .deep (.lit rfl)
    · cases hn
  · cases hn

/-! ### Entries of one's own -/

theorem mapEntry_run [Nu] (r : R g h w) {t : TypeId} {m ix y : AV} {vm vi : Value} {h' : Heap} (hm : V g h w m vm) (hi : V g h w ix vi) (hs : mapEntryA P t m ix h = some (y, h')) :
    ∃ u w' g', (Instr.mapEntry t vm vi).run P w = .ok u w' ∧ V g' h' w' y u ∧ Post g h w g' h' w' ∧ R g' h' w' := by
  unfold mapEntryA at hs
  split at hs
  · rename_i kt et id ht
    split at hs
    · rename_i k es c hk hid
      obtain ⟨rfl, kok⟩ := keyLit_ok hi hk
      obtain ⟨b, rfl, _, hb⟩ := hm.map_inv
      have := hb _ _ hid
      subst this
      obtain ⟨es', e1, e2⟩ := (r.map _ _ _ hid).ents
      have ha : alive h id := alive_map hid
      have two : ∀ {g1 : Gh} {h1 : Heap} {w1 : World} {a : AV} {va : Value} {n : Nat}, V g1 h1 w1 a va → V g1 h1 w1 (.tup [a, .lit (goInt n)]) (.tuple #[va, goInt n]) := fun {g1 h1 w1 a va n} hva => .tup rfl fun i c v' hc hv' => by
        match i, hc, hv' with
        | 0, hc, hv' => simp at hc hv'; subst hc; subst hv'; exact hva
        | 1, hc, hv' => simp at hc hv'; subst hc; subst hv'; exact .deep (.lit rfl)
        | i + 2, hc, _ => simp at hc
      split at hs
      · rename_i i v0 hf
        split at hs
        · rename_i en hen
          cases hs
          obtain ⟨r', b1, b2⟩ := kok.find e2 hf
          cases r' with
          | none => exact b2.elim
          | some p =>
            obtain ⟨c1, c2, x, c4, hkey⟩ := b2
            obtain ⟨j, w0⟩ := p
            simp only at c1 c2 c4
            subst c1
            rw [hen] at c4
            cases c4
            obtain ⟨ent, n1, n2, n3, n4⟩ := e2.2 i en hen
            have n1' : es'[i]? = some ent := by simpa using n1
            obtain ⟨p1, r1⟩ := set_obj r (o := .map (es.modify i fun e => (vi, e.2.1, e.2.2)) c) (x := .map (es'.modify i fun e => { e with key := vi }) c) hid rfl (by intros; simp) (by intros; simp) (fun _ _ _ => ⟨es, c, rfl⟩) (fun _ hh => by cases hh) (fun es2 k2 hh e => by
              cases hh
              refine ⟨_, turned_at r ha _, by simpa using e2.1, fun j y hy => ?_⟩
              rw [List.getElem?_modify] at hy
              cases hj : es[j]? with
              | none => rw [hj] at hy; cases hy
              | some y0 =>
                rw [hj] at hy
                simp only [Option.map_eq_map, Option.map_some, Option.some.injEq] at hy
                obtain ⟨ej, m1, m2, m3, m4⟩ := e2.2 j y0 hj
                have m1' : es'[j]? = some ej := by simpa using m1
                by_cases hij : i = j
                · rw [if_pos hij] at hy
                  subst hy
                  refine ⟨{ ej with key := vi }, ?_, rfl, m3, m4.ext e⟩
                  rw [Array.getElem?_modify, if_pos hij, m1']; rfl
                · rw [if_neg hij] at hy
                  subst hy
                  refine ⟨ej, ?_, m2, m3, m4.ext e⟩
                  rw [Array.getElem?_modify, if_neg hij, m1']) (fun _ hh => by cases hh)
            refine ⟨.tuple #[w0, goInt en.2.2], _, g, ?_, two (c2.ext p1.ext), p1, r1⟩
            unfold Instr.mapEntry
            rw [Sem.run_bind, run_underlying ht]
            simp only [Result.andThen_ok]
            rw [Sem.run_bind, get_run e1 (by intros; simp)]
            simp only [Result.andThen_ok]
            rw [Sem.run_bind, kok.check]
            simp only [Result.andThen_ok]
            rw [Sem.run_bind, b1]
            simp only [Result.andThen_ok, n1', Option.map_some, Option.getD_some, n2, hkey, n3]
            rw [Sem.run_bind, kok.stays]
            simp only [Result.andThen_ok]
            rw [Sem.run_bind, turned_run e1 (by intros; simp)]
            rfl
        · cases hs
      · rename_i hf
        split at hs
        · rename_i z hz
          cases hs
          obtain ⟨zv, z1, rfl⟩ := zeroT_run hz w
          obtain ⟨r', b1, b2⟩ := kok.find e2 hf
          cases r' with
          | some p => exact b2.elim
          | none =>
            obtain ⟨p1, r1⟩ := set_obj r (o := .map (es ++ [(vi, ofVal zv, c)]) (c + 1)) (x := .map (es'.push { key := vi, val := zv, born := c }) (c + 1)) hid rfl (by intros; simp) (by intros; simp) (fun _ _ _ => ⟨es, c, rfl⟩) (fun _ hh => by cases hh) (fun es2 k2 hh e => by
              cases hh
              have hl : es'.size = es.length := by simpa using e2.1
              refine ⟨_, turned_at r ha _, by simp [hl], fun j y hy => ?_⟩
              rw [getElem_snoc] at hy
              by_cases hj : j < es.length
              · rw [if_pos hj] at hy
                obtain ⟨ej, m1, m2, m3, m4⟩ := e2.2 j y hy
                have m1' : es'[j]? = some ej := by simpa using m1
                refine ⟨ej, ?_, m2, m3, m4.ext e⟩
                rw [Array.getElem?_push, if_neg (by omega)]; exact m1'
              · rw [if_neg hj] at hy
                by_cases hj2 : j = es.length
                · rw [if_pos hj2] at hy
                  cases hy
                  refine ⟨{ key := vi, val := zv, born := c }, ?_, rfl, rfl, ofVal_ok _⟩
                  rw [Array.getElem?_push, if_pos (by omega)]
                · rw [if_neg hj2] at hy; cases hy) (fun _ hh => by cases hh)
            refine ⟨.tuple #[zv, goInt c], _, g, ?_, two (ofVal_ok _), p1, r1⟩
            unfold Instr.mapEntry
            rw [Sem.run_bind, run_underlying ht]
            simp only [Result.andThen_ok]
            rw [Sem.run_bind, get_run e1 (by intros; simp)]
            simp only [Result.andThen_ok]
            rw [Sem.run_bind, kok.check]
            simp only [Result.andThen_ok]
            rw [Sem.run_bind, b1]
            simp only [Result.andThen_ok]
            rw [Sem.run_bind, z1]
            simp only [Result.andThen_ok]
            rw [Sem.run_bind, turned_run e1 (by intros; simp)]
            rfl
        · cases hs
      · cases hs
    · cases hs
  · cases hs

theorem entryStore_run [Nu] (r : R g h w) (t : TypeId) {m s x : AV} {vm vs vx : Value} {h' : Heap} (hm : V g h w m vm) (hs : V g h w s vs) (hx : V g h w x vx) (he : entryStoreA m s x h = some h') :
    ∃ w', (Instr.entryStore t vm vs vx).run P w = .ok () w' ∧ Post g h w g h' w' ∧ R g h' w' := by
  unfold entryStoreA at he
  split at he
  · rename_i id k bn
    split at he
    · rename_i es c hid
      split at he
      · rename_i i hf
        cases he
        have := hs.lit_inv
        subst this
        obtain ⟨b, rfl, _, hb⟩ := hm.map_inv
        have := hb _ _ hid
        subst this
        obtain ⟨es', e1, e2⟩ := (r.map _ _ _ hid).ents
        have ha : alive h id := alive_map hid
        have hfi := e2.findIdx (p := fun n => (n : Int) == bn)
        rw [hf] at hfi
        have hfi' : es'.findIdx? (fun e => (e.born : Int) == bn) = some i := by
          rw [← hfi]
          cases es' with | mk l => simp
        obtain ⟨p1, r1⟩ := set_obj r (o := .map (es.modify i fun e => (e.1, x, e.2.2)) c) (x := .map (es'.modify i fun e => { e with val := vx }) c) hid rfl (by intros; simp) (by intros; simp) (fun _ _ _ => ⟨es, c, rfl⟩) (fun _ hh => by cases hh) (fun es2 k2 hh e => by
          cases hh
          refine ⟨_, turned_at r ha _, by simpa using e2.1, fun j y hy => ?_⟩
          rw [List.getElem?_modify] at hy
          cases hj : es[j]? with
          | none => rw [hj] at hy; cases hy
          | some y0 =>
            rw [hj] at hy
            simp only [Option.map_eq_map, Option.map_some, Option.some.injEq] at hy
            obtain ⟨ej, m1, m2, m3, m4⟩ := e2.2 j y0 hj
            have m1' : es'[j]? = some ej := by simpa using m1
            by_cases hij : i = j
            · rw [if_pos hij] at hy
              subst hy
              refine ⟨{ ej with val := vx }, ?_, m2, m3, hx.ext e⟩
              rw [Array.getElem?_modify, if_pos hij, m1']; rfl
            · rw [if_neg hij] at hy
              subst hy
              refine ⟨ej, ?_, m2, m3, m4.ext e⟩
              rw [Array.getElem?_modify, if_neg hij, m1']) (fun _ hh => by cases hh)
        refine ⟨_, ?_, p1, r1⟩
        unfold Instr.entryStore
        simp only
        rw [Sem.run_bind, get_run e1 (by intros; simp)]
        simp only [Result.andThen_ok, asInt, asIntOf, pure_bind, hfi']
        exact turned_run e1 (by intros; simp)
      · cases he
    · cases he
  · cases he

/-! ### What lies in an interface -/

theorem ifaceOf_inv [Nu] {x y : AV} {t : TypeId} {v : Value} (hv : V g h w x v) (hi : ifaceOf x = some (t, y)) : ∃ u, v = .iface t u ∧ V g h w y u := by
  unfold ifaceOf at hi
  split at hi
  · cases hi
    cases hv with
    | deep hd => cases hd with
      | iface hh => exact ⟨_, rfl, .deep hh⟩
    | iface hh => exact ⟨_, rfl, hh⟩
  · cases hi
    have := hv.lit_inv
    subst this
    exact ⟨_, rfl, ofVal_ok _⟩
  · cases hi

theorem assertA_run [Nu] {x y : AV} {xt a : TypeId} {ok : Bool} {v : Value} (hv : V g h w x v) (ha : assertA P x a ok = some y) :
    ∃ u, (Instr.typeAssert v xt a ok).run P w = .ok u w ∧ V g h w y u := by
  unfold assertA at ha
  split at ha
  · cases ha
  · cases ha
  · rename_i d hni hd
    split at ha
    · rename_i t y0 hi
      obtain ⟨u, rfl, hu⟩ := ifaceOf_inv hv hi
      have two : ∀ {a : AV} {va : Value} {b : Bool}, V g h w a va → V g h w (.tup [a, .lit (.bool b)]) (.tuple #[va, .bool b]) := fun {a va b} hva => .tup rfl fun i c v' hc hv' => by
        match i, hc, hv' with
        | 0, hc, hv' => simp at hc hv'; subst hc; subst hv'; exact hva
        | 1, hc, hv' => simp at hc hv'; subst hc; subst hv'; exact .deep (.lit rfl)
        | i + 2, hc, _ => simp at hc
      split at ha
      · rename_i hta
        cases ha
        subst hta
        refine ⟨if ok then .tuple #[u, .bool true] else u, ?_, ?_⟩
        · unfold Instr.typeAssert
          simp only
          rw [Sem.run_bind, run_underlying hd]
          simp only [Result.andThen_ok]
          cases d <;> first | (exact absurd rfl (hni _); done) | (simp; done)
        · cases ok
          · exact hu
          · exact two hu
      · rename_i hta
        split at ha
        · rename_i hok
          subst hok
          cases hz : zeroT P a with
          | none => rw [hz] at ha; cases ha
          | some z =>
            rw [hz] at ha
            cases ha
            obtain ⟨zv, z1, rfl⟩ := zeroT_run hz w
            refine ⟨.tuple #[zv, .bool false], ?_, two (ofVal_ok _)⟩
            unfold Instr.typeAssert
            simp only
            rw [Sem.run_bind, run_underlying hd]
            simp only [Result.andThen_ok]
            cases d <;> first | (exact absurd rfl (hni _); done) | (simp [hta, z1]; done)
        · cases ha
    · cases ha

/-- A method of what lies in an interface. -/
theorem methA_run [Nu] (r : R g h w) {x y : AV} {name : String} {v : Value} {f : FuncId} (hv : V g h w x v) (hm : methA P x name h = some (f, y)) :
    ∃ t v0 u, v = .iface t v0 ∧ (∀ n, (Go.method (n + 1) t v0 name).run P w = .ok (f, u) w) ∧ V g h w y u := by
  unfold methA at hm
  split at hm
  · rename_i t y0 hi
    obtain ⟨v0, rfl, hu⟩ := ifaceOf_inv hv hi
    split at hm
    · rename_i ti hti
      split at hm
      · rename_i me hf
        split at hm
        · rename_i hpath
          have hpl : me.path.toList = [] := List.isEmpty_iff.1 hpath
          have hf' : ti.methods.find? (fun m => m.name == name) = some me := by rw [← Array.find?_toList]; exact hf
          have ti' : ∀ w, (typeInfo t).run P w = .ok ti w := fun w => by simp [typeInfo, hti]
          have pe : me.path.isEmpty = true := by
            cases hp : me.path with | mk l => rw [hp] at hpl; simp at hpl; subst hpl; rfl
          have pre : ∀ {n : Nat} {f : FuncId} {b : Bool} {u : Value}, me.func = some (f, b) → (Go.receiverAt t (.val v0) b (some ((name.splitOn ".").getLastD name))).run P w = .ok u w → (Go.method (n + 1) t v0 name).run P w = .ok (f, u) w := by
            intro n f b u hfn hr
            unfold Go.method
            rw [Sem.run_bind, ti']
            simp only [Result.andThen_ok, hf', hpl, Go.follow]
            rw [Sem.run_bind]
            simp only [Sem.run_pure, Result.andThen_ok, hfn, pe, if_true]
            rw [Sem.run_bind, hr]
            rfl
          split at hm
          · rename_i f0 e hfn hu'
            cases hm
            refine ⟨t, v0, v0, rfl, fun n => pre hfn ?_, hu⟩
            unfold Go.receiverAt
            rw [Sem.run_bind, run_underlying hu']
            rfl
          · rename_i f0 e hfn hu'
            split at hm
            · rename_i pid pi poff
              cases hl : load P e (.ptr pid pi poff) h with
              | none => rw [hl] at hm; cases hm
              | some z =>
                rw [hl] at hm
                cases hm
                obtain ⟨u, l1, l2⟩ := load_run (P := P) r hu hl
                refine ⟨t, v0, u, rfl, fun n => pre hfn ?_, l2⟩
                obtain ⟨b, o, rfl, _⟩ := hu.ptr_inv
                unfold Go.receiverAt
                rw [Sem.run_bind, run_underlying hu']
                simp only [Result.andThen_ok]
                rw [Sem.run_bind]
                simp only [Go.Place.get, Sem.run_pure, Result.andThen_ok]
                rw [Sem.run_bind]
                have hw : (Builtin.ssaWrapNilChk_ #[t] t #[.pointer (some ⟨b, o, none⟩), strVal "", strVal ((name.splitOn ".").getLastD name)] : Sem Value).run P w = .ok (.pointer (some ⟨b, o, none⟩)) w := rfl
                rw [hw]
                simp only [Result.andThen_ok]
                simpa [Instr.loadAt, Instr.sureAddr, asAddr] using l1
            · cases hm
          · rename_i f0 d hne hfn hu'
            cases hm
            refine ⟨t, v0, v0, rfl, fun n => pre hfn ?_, hu⟩
            unfold Go.receiverAt
            rw [Sem.run_bind, run_underlying hu']
            simp only [Result.andThen_ok]
            cases d <;> first | rfl | (rename_i q; exact absurd rfl (hne q))
          · cases hm
        · cases hm
      · cases hm
    · cases hm
  · cases hm

/-! ### append(nil, make(..)...) -/

set_option maxRecDepth 4000 in
theorem appendN_run [Nu] (r : R g h w) {sT xT ty : TypeId} {s x y : AV} {vs vx : Value} {h' : Heap} (hxT : isIntT P xT = true) (hs : V g h w s vs) (hx : V g h w x vx) (ha : appendN P sT s x h = some (y, h')) :
    ∃ u w' g', (Builtin.append_ #[sT, xT] ty #[vs, vx]).run P w = .ok u w' ∧ V g' h' w' y u ∧ Post g h w g' h' w' ∧ R g' h' w' := by
  unfold isIntT at hxT
  split at hxT
  · rename_i kn hxu
    unfold appendN at ha
    split at ha
    · rename_i eT k n he
      have ht := elemT_inv he
      have hxv := hx.lit_inv
      subst hxv
      split at ha
      · cases ha
      · rename_i hn
        have hn0 : 0 ≤ n ∧ n ≤ 140737488355328 := by omega
        obtain ⟨m, rfl⟩ : ∃ m : Nat, n = (m : Int) := ⟨n.toNat, by omega⟩
        simp only [Int.toNat_natCast] at ha
        split at ha
        · rename_i i hi
          split at ha
          · cases ha
          · rename_i h0
            have h0 : 0 < i.size := by omega
            split at ha
            · rename_i z hz
              split at ha
              · cases ha
              · rename_i hzz
                have hzs : z.cells.size = i.size := Classical.byContradiction fun q => hzz (.inl q)
                have hzl : (cellsOf (ofVal z)).length = i.size := Classical.byContradiction fun q => hzz (.inr (.inl q))
                have hzok : (cellsOf (ofVal z)).all okCell = true := by
                  cases hh : (cellsOf (ofVal z)).all okCell
                  · exact absurd (Or.inr (Or.inr hh)) hzz
                  · rfl
                split at ha
                · cases ha
                · rename_i hemp
                  have hpos : 0 < m := by
                    rcases Nat.eq_zero_or_pos m with q | q
                    · subst q; simp at hemp
                    · exact q
                  split at ha
                  · split at ha
                    · rename_i hroom
                      cases ha
                      have e0 := hs.lit_inv
                      subst e0
                      simp only [List.length_replicate, Int.toNat_natCast] at hroom ⊢
                      obtain ⟨q1, q2⟩ := roomy_of (n := m) (b := i.bytes) (of_decide_eq_true hroom)
                      have run := Lib.run_append_nil_zeros (P := P) w sT xT ty eT i z k kn ht hxu hi hz m hpos h0 (by omega) (by omega)
                      obtain ⟨pd, rd⟩ := drew_ok r
                      have hle := le_grownCap w m 0 eT
                      have base := Rows.zeros (g := g) (h := h) (w := w.drew) hzs hzl hzok h0 (Nat.le_refl m)
                      have ecn : (Builtin.zeroCells z.cells m) = (Array.range (m * i.size)).map fun k => z.cells[k % z.cells.size]! := by unfold Builtin.zeroCells; rw [hzs]
                      rw [← ecn] at base
                      have hsz : (Builtin.zeroCells z.cells m ++ Builtin.zeroCells z.cells (grownCap w m 0 eT - m)).size = grownCap w m 0 eT * i.size := by
                        rw [Array.size_append, zeroCells_size, zeroCells_size, hzs, ← Nat.add_mul]
                        congr 1; omega
                      obtain ⟨p1, r1⟩ := new_row rd i.size true false _ (Builtin.zeroCells z.cells m ++ Builtin.zeroCells z.cells (grownCap w m 0 eT - m)) eT h0 base.len base.okc
                        (by rw [hsz, List.length_replicate]; exact Nat.mul_le_mul_right _ hle)
                        (fun k e j c he hc => by
                          obtain ⟨u, hu, hv⟩ := base.rel k e j c he hc
                          have hlt : k * i.size + j < (Builtin.zeroCells z.cells m).size := by
                            rcases Nat.lt_or_ge (k * i.size + j) (Builtin.zeroCells z.cells m).size with q | q
                            · exact q
                            · rw [Array.getElem?_eq_none q] at hu; cases hu
                          exact ⟨u, by rw [Array.getElem?_append_left hlt]; exact hu, hv⟩)
                      refine ⟨_, _, _, run, .sl (by simp [new]) hle (fun hf => by cases hf) (fun _ A hA => ?_) (fun A hA => ?_), pd.trans p1, r1⟩
                      · unfold new at hA
                        rw [getElem_snoc] at hA
                        simp only [Nat.lt_irrefl, if_false, if_true, Option.some.injEq, AObj.arr.injEq] at hA
                        subst hA
                        simpa using hle
                      unfold new at hA
                      rw [getElem_snoc] at hA
                      simp only [Nat.lt_irrefl, if_false, if_true, Option.some.injEq, AObj.arr.injEq] at hA
                      subst hA
                      rw [Gh.push_new]
                      refine ⟨fun _ => by simp, fun T n' hn' => ?_⟩
                      have : (w.drew.alloc (.cells (Builtin.zeroCells z.cells m ++ Builtin.zeroCells z.cells (grownCap w m 0 eT - m)) eT)).shape? w.drew.heap.size = some (eT, grownCap w m 0 eT * i.size) := by
                        unfold World.shape?; rw [heap_alloc_at]; simp only [hsz]
                      simp only [World.size_drew] at this hn'
                      rw [this] at hn'
                      cases hn'
                      simp
                    · cases ha
                  · cases ha
            · cases ha
        · cases ha
    · cases ha
  · cases hxT

end Go.Am
