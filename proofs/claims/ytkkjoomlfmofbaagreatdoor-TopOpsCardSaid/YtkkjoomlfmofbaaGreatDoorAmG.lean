import Derived.Test.YtkkjoomlfmofbaaGreatDoorAmF
set_option linter.unusedSimpArgs false
set_option linter.unusedVariables false
set_option linter.unusedSectionVars false
/-! Calls. -/
namespace Go.Am

variable {P : Program} {T : Tr}

theorem argsTr_get : ∀ (args : List AV) (t : Tr) (i k : Nat), i + args.length < 9223372036854775807 →
    (argsTr t i args).get k = if i ≤ k ∧ k < i + args.length then args.getD (k - i) (.lit undef) else t.get k
  | [], t, i, k, _ => by simp only [argsTr, List.length_nil, Nat.add_zero]; rw [if_neg (by omega)]
  | v :: r, t, i, k, h => by
    simp only [List.length_cons] at h
    simp only [argsTr]
    rw [argsTr_get r _ (i + 1) k (by omega), Tr.set_get 64 t i v k (by omega)]
    simp only [List.length_cons]
    by_cases h1 : i + 1 ≤ k ∧ k < i + 1 + r.length
    · rw [if_pos h1, if_pos (by omega)]
      obtain ⟨q, rfl⟩ : ∃ q, k = i + 1 + q := ⟨k - (i + 1), by omega⟩
      rw [Nat.add_sub_cancel_left, show i + 1 + q - i = q + 1 by omega]; rfl
    · rw [if_neg h1]
      by_cases h2 : k = i
      · subst h2; rw [if_pos rfl, if_pos (by omega), Nat.sub_self]; rfl
      · rw [if_neg h2, if_neg (by omega)]

theorem loadVar_run [Nu] {g : Gh} {h : Heap} {w : World} (r : R g h w) {t : TypeId} {a x : AV} {v : Value} (hv : V g h w a v) (hl : load P t a h = some x) :
    ∃ ad u, v = .pointer (some ad) ∧ (loadVar t ad).run P w = .ok u w ∧ V g h w x u := by
  obtain ⟨u, h1, h2⟩ := load_run (P := P) r hv hl
  have : ∃ ad, v = .pointer (some ad) := by
    unfold load at hl
    split at hl
    · obtain ⟨b, o, rfl, _⟩ := hv.iptr_inv; exact ⟨_, rfl⟩
    · obtain ⟨b, o, rfl, _⟩ := hv.ptr_inv; exact ⟨_, rfl⟩
    · cases hl
  obtain ⟨ad, rfl⟩ := this
  exact ⟨ad, u, rfl, by simpa [Instr.loadAt, Instr.sureAddr] using h1, h2⟩

theorem resultsM [Nu] {g : Gh} {w : World} {a : Act} {st : St} (rel : RelSt T g w a st) : ∀ (l : List ResultVar) (vs : List AV), l.mapM (fun
    | ResultVar.tmp t => some (st.s.tmp t)
    | .cell a t => load P t (st.s.tmp a) st.h) = some vs →
    ∃ us : List Value, (l.mapM (m := Sem) fun
      | .tmp t => pure (a.tmps.getD t undef)
      | .cell x t => do loadVar t (← asAddr (a.tmps.getD x undef))).run P w = .ok us w ∧ us.length = vs.length ∧ ∀ (i : Nat) (c : AV) (u : Value), vs[i]? = some c → us[i]? = some u → V g st.h w c u
  | [], vs, h => by
    simp at h; subst h
    exact ⟨[], by simp, rfl, fun i c u hc => by simp at hc⟩
  | x :: l, vs, h => by
    rw [List.mapM_cons] at h
    cases hx : (match x with
      | ResultVar.tmp t => some (st.s.tmp t)
      | .cell a t => load P t (st.s.tmp a) st.h) with
    | none => rw [hx] at h; cases h
    | some y =>
      rw [hx] at h
      cases hl : l.mapM (fun
        | ResultVar.tmp t => some (st.s.tmp t)
        | .cell a t => load P t (st.s.tmp a) st.h) with
      | none => rw [hl] at h; cases h
      | some ys =>
        rw [hl] at h
        cases h
        obtain ⟨us, h1, h2, h3⟩ := resultsM rel l ys hl
        have one : ∃ u, (match x with
            | ResultVar.tmp t => (pure (a.tmps.getD t undef) : Sem Value)
            | .cell x t => do loadVar t (← asAddr (a.tmps.getD x undef))).run P w = .ok u w ∧ V g st.h w y u := by
          cases x with
          | tmp t => cases hx; exact ⟨_, rfl, rel.f.2.2.1 t⟩
          | cell b t =>
            obtain ⟨ad, u, e1, e2, e3⟩ := loadVar_run (P := P) rel.r (rel.f.2.2.1 b) hx
            refine ⟨u, ?_, e3⟩
            simp only [e1, asAddr, pure_bind]
            exact e2
        obtain ⟨u, k1, k2⟩ := one
        refine ⟨u :: us, ?_, by simp [h2], fun i c v hc hv => ?_⟩
        · rw [List.mapM_cons, Sem.run_bind, k1, Result.andThen_ok, Sem.run_bind, h1]; rfl
        · cases i with
          | zero => simp at hc hv; subst hc; subst hv; exact k2
          | succ i => exact h3 i c v (by simpa using hc) (by simpa using hv)

theorem results_run [Nu] {g : Gh} {w : World} {a : Act} {st : St} (rel : RelSt T g w a st) {fn : Func} {r : AV} (hr : results P fn st = some r) :
    ∃ v, (Go.results fn a.tmps).run P w = .ok v w ∧ V g st.h w r v := by
  unfold results at hr
  have conv : ∀ us : List Value, (fn.results.toList.mapM (m := Sem) fun
      | .tmp t => pure (a.tmps.getD t undef)
      | .cell x t => do loadVar t (← asAddr (a.tmps.getD x undef))).run P w = .ok us w →
      (Go.results fn a.tmps).run P w = .ok (if h : us.toArray.size = 1 then us.toArray[0] else .tuple us.toArray) w := by
    intro us hu
    unfold Go.results
    rw [Sem.run_bind, Array.mapM_eq_mapM_toList, Sem.run_map]
    exact (congrArg (fun q : Result (List Value) => (q.andThen fun a w' => Result.ok a.toArray w').andThen fun a w' => Sem.run P (pure (if h : a.size = 1 then a[0] else Value.tuple a)) w') hu).trans rfl
  split at hr
  · rename_i v hm
    cases hr
    obtain ⟨us, h1, h2, h3⟩ := resultsM (P := P) rel _ _ hm
    match us, h2 with
    | [u], _ =>
      refine ⟨u, by rw [conv _ h1]; simp, h3 0 r u rfl rfl⟩
  · rename_i vs hn hm
    cases hr
    obtain ⟨us, h1, h2, h3⟩ := resultsM (P := P) rel _ _ hm
    have hne : us.length ≠ 1 := by
      intro h
      rw [h2] at h
      match vs, h with
      | [v], _ => exact hn v rfl
    refine ⟨.tuple us.toArray, by rw [conv _ h1]; simp [hne], ?_⟩
    split
    · have : us = [] := by simpa using h2
      subst this
      exact .deep (.lit rfl)
    · exact .tup (by simp [h2]) fun i c v hc hv => h3 i c v hc (by simpa using hv)
  · cases hr

theorem body_ok [Nu] {E : Env} {call : CallF} (hreg : RegOk E.P E.gl (E.reg call)) {f : FuncId} {fn : Func} {c : Code} (hf : E.P.funcs[f]? = some fn) (hb : fn.body = some c)
    (hlow : ∀ i, i ≤ 4294967296 → E.gl.get i = .lit undef)
    {args : List AV} {h h' : Heap} {r : AV} (hbody : body E call fn c args h = some (r, h')) {g : Gh} {w : World} {vs : Array Value} (hr : R g h w) (hgl : GlobV E.gl g h w) (hl : args.length = vs.size)
    (ha : ∀ (i : Nat) (c : AV) (v : Value), args[i]? = some c → vs[i]? = some v → V g h w c v) :
    Calls E.P f vs w fun e w' => ∃ v g', e = .returned v ∧ V g' h' w' r v ∧ Post g h w g' h' w' ∧ R g' h' w' := by
  unfold body at hbody
  split at hbody
  · cases hbody
  · rename_i hn
    refine calls_of_wp hf hb ?_
    have rel : RelSt E.gl g w { tmps := vs ++ Array.replicate (fn.ntmps - vs.size) undef, defers := [] } ⟨max fn.ntmps args.length, argsTr E.gl 0 args, h⟩ := by
      refine ⟨hr, ⟨by simp [hl]; omega, by simp only; omega, fun i => ?_, fun i hi => by rw [argsTr_get args E.gl 0 i (by omega), if_neg (by omega)], hgl⟩, rfl⟩
      by_cases hle : i ≤ 4294967296
      case neg =>
        rw [tmp_high _ hle]
        have hs : ¬ i < (vs ++ Array.replicate (fn.ntmps - vs.size) undef).size := by simp; omega
        simp only [Array.getD, hs, dite_false]
        exact .deep (.lit rfl)
      rw [tmp_get _ hle, argsTr_get args E.gl 0 i (by omega)]
      simp only [Nat.zero_le, true_and, Nat.zero_add, Nat.sub_zero]
      by_cases hi : i < args.length
      · rw [if_pos hi]
        have hv : vs[i]? = some vs[i] := Array.getElem?_eq_getElem (by omega)
        have hc : args[i]? = some args[i] := List.getElem?_eq_getElem hi
        have e1 : args.getD i (.lit undef) = args[i] := by simp [List.getD, hc]
        have e2 : (vs ++ Array.replicate (fn.ntmps - vs.size) undef).getD i undef = vs[i] := by
          rw [Array.getD_eq_getD_getElem?, Array.getElem?_append_left (by omega), hv]; rfl
        rw [e1, e2]
        exact ha i _ _ hc hv
      · rw [if_neg hi]
        have e2 : (vs ++ Array.replicate (fn.ntmps - vs.size) undef).getD i undef = undef := by
          rw [Array.getD_eq_getD_getElem?, Array.getElem?_append_right (by omega), Array.getElem?_replicate]
          split <;> rfl
        rw [e2, hlow i hle]
        exact .deep (.lit rfl)
    have key : ∀ x st', (x = AExit.normal ∨ x = .ret) → (run (E.reg call) c).1 ⟨max fn.ntmps args.length, argsTr E.gl 0 args, h⟩ = some (x, st') → (results E.P fn st').map (·, st'.h) = some (r, h') →
        c.wp E.P (bodyPost E.P fn fun e w' => ∃ v g', e = .returned v ∧ V g' h' w' r v ∧ Post g h w g' h' w' ∧ R g' h' w') { tmps := vs ++ Array.replicate (fn.ntmps - vs.size) undef, defers := [] } w := by
      intro x st' hx hrun hres
      cases hr2 : results E.P fn st' with
      | none => rw [hr2] at hres; cases hres
      | some r2 =>
        rw [hr2] at hres
        cases hres
        refine wp_mono ((run_ok hreg c).1 _ _ _ hrun g w _ rel) ?_
        rintro e a' w' ⟨rfl, g', p', rel'⟩
        obtain ⟨v, h1, h2⟩ := results_run rel' hr2
        rcases hx with rfl | rfl
        · exact ⟨rel'.d, v, h1, v, g', rfl, h2, p', rel'.r⟩
        · exact ⟨rel'.d, v, h1, v, g', rfl, h2, p', rel'.r⟩
    split at hbody
    · rename_i st' hrun
      exact key _ st' (.inl rfl) hrun hbody
    · rename_i st' hrun
      exact key _ st' (.inr rfl) hrun hbody
    · cases hbody

/-- A function whose answer is told by a function of deep values. -/
def PrimOk [Nu] (P : Program) (T : Tr) (f : FuncId) (p : List AV → Option AV) : Prop :=
  ∀ args r, p args = some r → ∀ (I : Nat → Nat → Prop) (w : World) (vs : Array Value), GlobV T ⟨fun _ => (0, 0), I⟩ [] w → args.length = vs.size →
    (∀ (i : Nat) (c : AV) (v : Value), args[i]? = some c → vs[i]? = some v → VD I w c v) → (∀ b o, I b o → ∃ u, w.cell? ⟨b, o, none⟩ = some u) →
    Calls P f vs w fun e w' => ∃ v I', e = .returned v ∧ VD I' w' r v ∧ w.heap.size ≤ w'.heap.size ∧ (∀ b, b < w.heap.size → w'.heap[b]? = w.heap[b]?) ∧
      w'.os = w.os ∧ w'.tape = w.tape ∧ w'.output = w.output ∧ (∀ b o, I' b o → I b o ∨ (w.heap.size ≤ b ∧ ∃ u, w'.cell? ⟨b, o, none⟩ = some u))

theorem finish_alone [Nu] {g : Gh} {h : Heap} {w w' : World} (r : R g h w) (ids : List Nat) {r' : AV} {v : Value} {Iend : Nat → Nat → Prop} (hd : VD Iend w' r' v)
    (hsz : w.heap.size ≤ w'.heap.size) (hb : ∀ b, b < w.heap.size → w'.heap[b]? = w.heap[b]?) (o1 : w'.os = w.os) (o2 : w'.tape = w.tape) (o3 : w'.output = w.output)
    (hI : ∀ b o, Iend b o → (g.plus h ids).I b o ∨ (w.heap.size ≤ b ∧ ∃ u, w'.cell? ⟨b, o, none⟩ = some u)) :
    ∃ g', V g' (if flat r' ∨ ids = [] then h else mark ids h) w' r' v ∧ Post g h w g' (if flat r' ∨ ids = [] then h else mark ids h) w' ∧ R g' (if flat r' ∨ ids = [] then h else mark ids h) w' := by
  by_cases hc : flat r' ∨ ids = []
  · rw [if_pos hc]
    by_cases hf : flat r' = true
    · obtain ⟨p1, r1⟩ := frame_ok r hb hsz o1 o2 o3 g.I (fun _ _ h => h) (fun _ _ h => .inl h)
      exact ⟨_, .deep (flat_deep hf hd), p1, r1⟩
    · have hid : ids = [] := by rcases hc with h1 | h1; exact absurd h1 hf; exact h1
      subst hid
      obtain ⟨p1, r1⟩ := frame_ok r hb hsz o1 o2 o3 (fun b o => g.I b o ∨ Iend b o) (fun _ _ h => .inl h) (fun b o h => by
        rcases h with h | h
        · exact .inl h
        · rcases hI b o h with h2 | h2
          · rcases h2 with h2 | ⟨id, A, hm, _⟩
            · exact .inl h2
            · simp at hm
          · exact .inr h2)
      exact ⟨_, .deep (hd.mono fun b o h => ⟨.inr h, rfl⟩), p1, r1⟩
  · rw [if_neg hc]
    obtain ⟨pm, rm⟩ := mark_ok r ids
    obtain ⟨p1, r1⟩ := frame_ok rm hb hsz o1 o2 o3 (fun b o => (g.plus h ids).I b o ∨ Iend b o) (fun _ _ h => .inl h) (fun b o h => by
      rcases h with h | h
      · exact .inl h
      · exact hI b o h)
    exact ⟨_, .deep (hd.mono fun b o h => ⟨.inr h, rfl⟩), pm.trans p1, r1⟩

theorem R.nil [Nu] {I : Nat → Nat → Prop} {w : World} (μ : Nat → Nat × Nat) (hI : ∀ b o, I b o → ∃ u, w.cell? ⟨b, o, none⟩ = some u) : R ⟨μ, I⟩ [] w where
  arr := fun id A hA => by simp at hA
  map := fun id es k hk => by simp at hk
  siter := fun id x hs => by simp at hs
  inj := fun i j hi hj he => by obtain ⟨o, ho, _⟩ := hi; simp at ho
  imm := fun b o hi => ⟨hI b o hi, fun id ha => by obtain ⟨o, ho, _⟩ := ha; simp at ho⟩

theorem callAlone_ok [Nu] {E : Env} {call : CallF} (hreg : RegOk E.P E.gl (E.reg call)) {f : FuncId} {fn : Func} {c : Code} (hf : E.P.funcs[f]? = some fn) (hb : fn.body = some c)
    (hlow : ∀ i, i ≤ 4294967296 → E.gl.get i = .lit undef)
    {args args' : List AV} {ids : List Nat} {h h' : Heap} {r : AV} (hsn : snaps h args = some (args', ids)) (hc : callAlone E call fn c args' ids h = some (r, h'))
    {g : Gh} {w : World} {vs : Array Value} (hr : R g h w) (hgl : GlobV E.gl g h w) (hl : args.length = vs.size)
    (ha : ∀ (i : Nat) (c : AV) (v : Value), args[i]? = some c → vs[i]? = some v → V g h w c v) :
    Calls E.P f vs w fun e w' => ∃ v g', e = .returned v ∧ V g' h' w' r v ∧ Post g h w g' h' w' ∧ R g' h' w' := by
  unfold callAlone at hc
  split at hc
  · rename_i r0 hc0 hbody
    split at hc
    · rename_i r' ids' hsr
      obtain ⟨sl, sd⟩ := snaps_deep hr hsn (fun x hx => hx)
      have hres : r = r' ∧ h' = if flat r' ∨ ids = [] then h else mark ids h := by
        split at hc
        · rename_i hh; cases hc; exact ⟨rfl, by rw [if_pos hh]⟩
        · rename_i hh; cases hc; exact ⟨rfl, by rw [if_neg hh]⟩
      obtain ⟨rfl, rfl⟩ := hres
      have R0 : R ⟨g.μ, (g.plus h ids).I⟩ [] w := R.nil _ fun b o hi => plus_cell hr ids hi
      refine (body_ok hreg hf hb hlow hbody R0 (hgl.alone _ fun b o hi => .inl hi) (by omega) fun i c v hci hv => ?_).mono ?_
      · refine .deep (sd i c v hci fun c0 h0 => ha i c0 v h0 hv)
      · rintro e w' ⟨v, gc, rfl, hv, hp, hR⟩
        have hd := snapR_deep hR hsr hv
        obtain ⟨g', k1, k2, k3⟩ := finish_alone hr ids hd hp.size (fun b hb => hp.frame b hb (fun id ha => by obtain ⟨o, ho, _⟩ := ha; simp at ho)) hp.os hp.tape hp.output (fun b o hi => by
          have hcell := plus_cell hR ids' hi
          have hnew : ∀ {j}, alive hc0 j → (gc.μ j).1 = b → w.heap.size ≤ b := by
            intro j hj he
            rcases hp.own j hj with h1 | ⟨k, hk, _⟩
            · omega
            · obtain ⟨o, ho, _⟩ := hk; simp at ho
          rcases hi with hi | ⟨id, A, _, h2, h3, _⟩
          · rcases hp.immNew b o hi with h1 | h1 | ⟨k, hk, _⟩
            · exact .inl h1
            · exact .inr ⟨h1, hcell⟩
            · obtain ⟨o, ho, _⟩ := hk; simp at ho
          · exact .inr ⟨hnew (alive_arr h2) h3.symm, hcell⟩)
        exact ⟨v, g', rfl, k1, k2, k3⟩
    · cases hc
  · cases hc

end Go.Am
