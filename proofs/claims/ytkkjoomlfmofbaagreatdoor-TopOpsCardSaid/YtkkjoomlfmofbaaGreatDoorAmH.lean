import Derived.Test.YtkkjoomlfmofbaaGreatDoorAmG
set_option linter.unusedSimpArgs false
set_option linter.unusedVariables false
set_option linter.unusedSectionVars false
/-! Calls within the caller's memory; all calls. -/
namespace Go.Am

variable {P : Program} {T : Tr}

theorem take_get {h : Heap} {n id : Nat} (hid : id < n) : (h.take n)[id]? = h[id]? := by rw [List.getElem?_take, if_pos hid]

theorem take_get' {h : Heap} {n id : Nat} {o : AObj} (ho : (h.take n)[id]? = some o) : id < n ∧ h[id]? = some o := by
  rw [List.getElem?_take] at ho
  split at ho
  · exact ⟨by assumption, ho⟩
  · cases ho

theorem V.take [Nu] {g : Gh} {h : Heap} {w : World} {n : Nat} (hn : n ≤ h.length) {a : AV} {v : Value} (hb : belowCell n a = true) (hv : V g h w a v) : V g (h.take n) w a v := by
  have hlen : (h.take n).length = n := by simp; omega
  have sub : ∀ (id : Nat) (o : AObj), (h.take n)[id]? = some o → h[id]? = some o := fun id o ho => (take_get' ho).2
  cases hv with
  | deep hd => exact .deep hd
  | agg hl hh => simp [belowCell, freeCell] at hb
  | tup hl hh => simp [belowCell, freeCell] at hb
  | fn hx hy h1 h2 =>
    simp only [belowCell, Bool.and_eq_true] at hb
    have one : ∀ {c : AV} {u : Value}, (match c with | .ptr id _ _ => decide (id < n) | v => freeCell v) = true → V g h w c u → V g (h.take n) w c u := by
      intro c u hc hv
      cases c with
      | ptr id i off =>
        simp only [decide_eq_true_eq] at hc
        obtain ⟨b, o, rfl, _, hA, hS⟩ := hv.ptr_inv
        exact .ptr (by omega) (fun A ha => hA A (sub _ _ ha)) (fun h0 x hs => hS h0 x (sub _ _ hs))
      | _ => exact .deep (free_deep hc hv)
    exact .fn hx hy (fun i c v hc hv => one (all_get hb.1 hc) (h1 i c v hc hv)) (fun i c v hc hv => one (all_get hb.2 hc) (h2 i c v hc hv))
  | iface hh => exact .deep (free_deep (by simpa [belowCell] using hb) (.iface hh))
  | sl hid hc hf hR hA =>
    simp only [belowCell, decide_eq_true_eq] at hb
    exact .sl (by omega) hc hf (fun h0 A ha => hR h0 A (sub _ _ ha)) fun A ha => hA A (sub _ _ ha)
  | ptr hid hA hS =>
    simp only [belowCell, decide_eq_true_eq] at hb
    exact .ptr (by omega) (fun A ha => hA A (sub _ _ ha)) (fun h0 x hs => hS h0 x (sub _ _ hs))
  | map hid hM =>
    simp only [belowCell, decide_eq_true_eq] at hb
    exact .map (by omega) fun es k hk => hM es k (sub _ _ hk)

theorem R.take [Nu] {g : Gh} {h : Heap} {w : World} {n : Nat} (r : R g h w) (hn : n ≤ h.length) (hb : (h.take n).all (belowObj n) = true) : R g (h.take n) w := by
  have sub : ∀ (id : Nat) (o : AObj), (h.take n)[id]? = some o → h[id]? = some o := fun id o ho => (take_get' ho).2
  have al : ∀ id, alive (h.take n) id → alive h id := fun id ⟨o, ho, hd⟩ => ⟨o, sub id o ho, hd⟩
  refine ⟨fun id A hA => ?_, fun id es k hk => ?_, fun id x hs => ?_, fun i j hi hj he => r.inj i j (al i hi) (al j hj) he, fun b o hi => ⟨(r.imm b o hi).1, fun id ha he => ?_⟩⟩
  · obtain ⟨h1, h2, h3, h4, h5⟩ := r.arr id A (sub _ _ hA)
    refine ⟨h1, h2, h3, h4, fun i e j x he hx => ?_⟩
    obtain ⟨u, hu, hv⟩ := h5 i e j x he hx
    have hob := all_get hb hA
    simp only [belowObj] at hob
    have hel := all_get hob he
    refine ⟨u, hu, hv.take hn ?_⟩
    cases e with
    | agg cs => exact all_get hel hx
    | _ =>
      cases j with
      | zero => simp [cellsOf] at hx; subst hx; exact hel
      | succ j => simp [cellsOf] at hx
  · obtain ⟨es', h1, h2, h3⟩ := (r.map id es k (sub _ _ hk)).it
    refine ⟨es', h1, h2, fun i x hx => ?_⟩
    obtain ⟨e', a, b, c, d⟩ := h3 i x hx
    have hob := all_get hb hk
    simp only [belowObj] at hob
    have hel := all_get hob hx
    refine ⟨e', a, b, c, ?_⟩
    cases hx2 : x.2.1 with
    | agg cs =>
      rw [hx2] at d hel
      obtain ⟨vs, e1, hl, hh⟩ := d.agg_inv
      rw [e1]
      exact .agg hl fun i c u hc hu => (hh i c u hc hu).take hn (all_get hel hc)
    | _ => rw [hx2] at d hel; exact d.take hn hel
  · obtain ⟨ob, q1, q2⟩ := r.siter id x (sub _ _ hs)
    refine ⟨ob, q1, ?_⟩
    have hob := all_get hb hs
    cases q2 with
    | str => exact .str
    | none => exact .none
    | ent hv => exact .ent (hv.take hn (by simpa only [belowObj, belowCell] using hob))
  · obtain ⟨A, a1, a2, a3⟩ := (r.imm b o hi).2 id (al id ha) he
    exact ⟨A, by rw [take_get (by have := ha.lt; simp at this; omega)]; exact a1, a2, a3⟩

theorem callWithin_ok [Nu] {E : Env} {call : CallF} (hreg : RegOk E.P E.gl (E.reg call)) {f : FuncId} {fn : Func} {c : Code} (hf : E.P.funcs[f]? = some fn) (hb : fn.body = some c)
    (hlow : ∀ i, i ≤ 4294967296 → E.gl.get i = .lit undef)
    {args : List AV} {h h' : Heap} {r : AV} (hc : callWithin E call fn c args h = some (r, h'))
    {g : Gh} {w : World} {vs : Array Value} (hr : R g h w) (hgl : GlobV E.gl g h w) (hl : args.length = vs.size)
    (ha : ∀ (i : Nat) (c : AV) (v : Value), args[i]? = some c → vs[i]? = some v → V g h w c v) :
    Calls E.P f vs w fun e w' => ∃ v g', e = .returned v ∧ V g' h' w' r v ∧ Post g h w g' h' w' ∧ R g' h' w' := by
  unfold callWithin at hc
  split at hc
  · rename_i r0 h1 hbody
    have base := body_ok hreg hf hb hlow hbody hr hgl hl ha
    split at hc
    · rename_i r' ids hsn
      simp only at hc
      split at hc
      · rename_i hbel
        cases hc
        refine base.mono ?_
        rintro e w' ⟨v, g', rfl, hv, hp, hR⟩
        have hd := snapR_deep hR hsn hv
        obtain ⟨pm, rm⟩ := mark_ok hR ids
        have hle : h.length ≤ (mark ids h1).length := by rw [mark_length]; exact hp.ext.len
        have rt := rm.take hle hbel
        have pt := hp.trans pm
        have sub : ∀ (id : Nat) (o : AObj), ((mark ids h1).take h.length)[id]? = some o → (mark ids h1)[id]? = some o := fun id o ho => (take_get' ho).2
        have al : ∀ id, alive ((mark ids h1).take h.length) id → alive (mark ids h1) id := fun id ⟨o, ho, hd⟩ => ⟨o, sub id o ho, hd⟩
        refine ⟨v, g'.plus h1 ids, rfl, .deep hd, ⟨⟨pt.ext.imm, by simp; omega, fun id A' hid hA' => pt.ext.keepA id A' hid (sub _ _ hA'), fun id es k hid hk => pt.ext.keepM id es k hid (sub _ _ hk), fun id x hid hk => pt.ext.keepS id x hid (sub _ _ hk)⟩,
          pt.size, pt.frame, fun id ha => pt.own id (al id ha), pt.immNew, pt.os, pt.tape, pt.output⟩, rt⟩
      · cases hc; exact base
    · cases hc; exact base
  · cases hc

structure EnvOk [Nu] (E : Env) : Prop where
  names : NamesOk E.P
  reg : ∀ call, CallOk E.P E.gl call → RegOk E.P E.gl (E.reg call)
  prim : ∀ f p, E.prim f = some p → PrimOk E.P E.gl f p
  low : ∀ i, i ≤ 4294967296 → E.gl.get i = .lit undef

theorem acall_ok [Nu] {E : Env} (ok : EnvOk E) : ∀ n, CallOk E.P E.gl (acall E n)
  | 0, f, args, h, r, h', hc => by simp [acall] at hc
  | n + 1, f, args, h, r, h', hc => by
    intro g w vs hr hgl hl ha
    have hreg := ok.reg _ (acall_ok ok n)
    simp only [acall] at hc
    split at hc
    · rename_i p hp
      split at hc
      · rename_i args' ids hsn
        split at hc
        · rename_i r0 hr0
          obtain ⟨sl, sd⟩ := snaps_deep hr hsn (fun x hx => hx)
          have hpr := ok.prim f p hp args' r0 hr0 (g.plus h ids).I w vs (hgl.alone _ fun b o hi => .inl hi) (by omega) (fun i c v hci hv => sd i c v hci fun c0 h0 => ha i c0 v h0 hv) (fun b o hi => plus_cell hr ids hi)
          refine hpr.mono ?_
          rintro e w' ⟨v, I', rfl, hd, hsz, hb, o1, o2, o3, hI⟩
          obtain ⟨g', k1, k2, k3⟩ := finish_alone hr ids hd hsz hb o1 o2 o3 hI
          by_cases hf : flat r0 = true
          · rw [if_pos hf] at hc
            cases hc
            rw [if_pos (.inl hf)] at k1 k2 k3
            exact ⟨v, g', rfl, k1, k2, k3⟩
          · rw [if_neg hf] at hc
            cases hc
            by_cases hid : ids = []
            · rw [if_pos (.inr hid)] at k1 k2 k3
              subst hid
              exact ⟨v, g', rfl, k1, k2, k3⟩
            · rw [if_neg (by simp [hf, hid])] at k1 k2 k3
              exact ⟨v, g', rfl, k1, k2, k3⟩
        · cases hc
      · cases hc
    · split at hc
      · cases hc
      · rename_i fn hfn
        split at hc
        · cases hc
        · rename_i c hbody
          split at hc
          · exact body_ok hreg hfn hbody ok.low hc hr hgl hl ha
          · exact callWithin_ok hreg hfn hbody ok.low hc hr hgl hl ha
          · split at hc
            · rename_i args' ids hsn
              exact callAlone_ok hreg hfn hbody ok.low hsn hc hr hgl hl ha
            · exact callWithin_ok hreg hfn hbody ok.low hc hr hgl hl ha

end Go.Am
