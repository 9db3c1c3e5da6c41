import Derived.Test.YtkkjoomlfmofbaaGreatDoorAmD
import Derived.Scope
set_option linter.unusedSectionVars false
/-! Regions without a draw, code. -/
namespace Go.Am
set_option linter.unusedSimpArgs false
set_option linter.unusedVariables false

variable {P : Program} {T : Tr}

/-- No function with a body bears the one name that a call looks at. -/
def NamesOk (P : Program) : Prop := ∀ (f : Nat) (fn : Func), P.funcs[f]? = some fn → fn.body.isSome = true → (fn.name == "runtime.NumGoroutine") = false

def CallOk [Nu] (P : Program) (T : Tr) (call : CallF) : Prop :=
  ∀ f args h r h', call f args h = some (r, h') → ∀ g w (vs : Array Value), R g h w → GlobV T g h w → args.length = vs.size →
    (∀ (i : Nat) (c : AV) (v : Value), args[i]? = some c → vs[i]? = some v → V g h w c v) →
    Calls P f vs w fun e w' => ∃ v g', e = .returned v ∧ V g' h' w' r v ∧ Post g h w g' h' w' ∧ R g' h' w'

structure RelSt [Nu] (T : Tr) (g : Gh) (w : World) (a : Act) (st : St) : Prop where
  r : R g st.h w
  f : Fits T g w a st
  d : a.defers = []

theorem RelSt.put [Nu] {g g' : Gh} {w w' : World} {a : Act} {st : St} (s : RelSt T g w a st) {h' : Heap} (d : Option Tmp) {v : AV} {u : Value} (p : Post g st.h w g' h' w') (r : R g' h' w') (hv : V g' h' w' v u) :
    RelSt T g' w' (a.put d u) ((⟨st.n, st.s, h'⟩ : St).put v d) := by
  have f := (s.f.ext p).put d (st := ⟨st.n, st.s, h'⟩) hv
  refine ⟨?_, f, ?_⟩
  · cases d <;> simp only [St.put] <;> first | exact r | (split <;> exact r)
  · cases d <;> exact s.d

theorem put_heap (st : St) (v : AV) (d : Option Tmp) : (st.put v d).h = st.h := by
  cases d <;> simp only [St.put]; split <;> rfl

theorem wanted_ok [Nu] {g : Gh} {w : World} {a : Act} {st : St} {ops : Array Oper} {o : Oper} {b : Bool} (f : Fits T g w a st) (hw : wantedA ops st o = some b) : Region.wanted o (yielded ops a.tmps) = b := by
  unfold wantedA at hw
  unfold Region.wanted
  split at hw
  · cases hw; simp [*]
  · rename_i j want hg
    simp only [hg]
    cases hy : yieldedA ops st j with
    | none => rw [hy] at hw; cases hw
    | some q =>
      rw [hy] at hw
      cases hw
      have : yielded ops a.tmps j = q := by
        unfold yieldedA at hy
        unfold yielded
        rw [Array.getElem?_toList] at hy
        cases hd : (ops[j]?).bind (·.dst) with
        | none => rw [hd] at hy; cases hy; rfl
        | some d =>
          rw [hd] at hy
          simp only [Option.bind_some] at hy ⊢
          split at hy
          · rename_i hn
            cases hy
            have hn : @LE.le Nat _ st.n d := hn
            rw [f.1] at hn
            rw [Array.getElem?_eq_none hn]
          · rename_i hn
            have hn : ¬ @LE.le Nat _ st.n d := hn
            rw [f.1] at hn
            have hlt : @LT.lt Nat _ d a.tmps.size := by omega
            have hv := f.2.2.1 d
            rw [tmp_get _ (by have := f.2.1; omega)] at hv
            rw [Array.getElem?_eq_getElem hlt]
            have e : a.tmps.getD d undef = a.tmps[d] := by simp [Array.getD, hlt]
            rw [e] at hv
            generalize a.tmps[d] = u at hv
            split at hy
            · rename_i b hb
              cases hy
              rw [hb] at hv
              rw [hv.lit_inv]
            · cases hy
            · rename_i hb hj
              cases hy
              generalize st.s.get d = x at *
              cases hv with
              | deep hd =>
                cases hd with
                | lit hh => cases u <;> first | rfl | (rename_i b; exact absurd rfl (hb b))
                | junk => exact absurd rfl hj
                | _ => rfl
              | _ => rfl
      rw [this]

theorem litCall_run [Nu] {g : Gh} {h : Heap} {w : World} {args : List AV} {vs : Array Value} {f : FuncId} {v : AV} (hl : args.length = vs.size)
    (ha : ∀ (i : Nat) (c : AV) (v : Value), args[i]? = some c → vs[i]? = some v → V g h w c v) (hc : litCall P args f = some v) :
    ∃ u, (callFunc f vs).run P w = .ok (.value u) w ∧ V g h w v u := by
  unfold litCall at hc
  split at hc
  · rename_i us hm
    obtain ⟨h1, h2⟩ := mapM_get hm
    have e : us.toArray = vs := by
      apply Array.ext_getElem?
      intro i
      rw [List.getElem?_toArray]
      rcases Nat.lt_or_ge i args.length with hi | hi
      · obtain ⟨y, hy, hc⟩ := h2 i _ (List.getElem?_eq_getElem hi)
        have hu : vs[i]? = some vs[i] := Array.getElem?_eq_getElem (by omega)
        rw [hy, hu, toLit_eq (ha i _ _ (List.getElem?_eq_getElem hi) hu) hc]
      · rw [List.getElem?_eq_none (by omega), Array.getElem?_eq_none (by omega)]
    rw [e] at hc
    split at hc
    · rename_i u hp
      cases hc
      exact ⟨u, Sem.peval_run P _ _ hp w, ofVal_ok u⟩
    · cases hc
  · cases hc

theorem value_ex {ρ : Operand → Value} {dst : Option Tmp} {f : Operand} {args : Array Operand} {ats : Array TypeId} {ty : TypeId} {pos : String} {after : Array Edge} {guard : Option (Nat × Bool)} {k : FuncId} {x y : Array Value}
    (hf : ρ f = .func (.func k) x y) :
    execOp ρ ⟨dst, .call ⟨.value f, args, ats⟩, ty, pos, after, guard⟩ = callFunc k (x ++ args.map ρ ++ y) := by
  simp only [execOp, resolve, hf, Deferred.ofValue, pure_bind, invoke]

theorem invoke_ex {ρ : Operand → Value} {dst : Option Tmp} {x : Operand} {m : String} {args : Array Operand} {ats : Array TypeId} {ty : TypeId} {pos : String} {after : Array Edge} {guard : Option (Nat × Bool)} :
    execOp ρ ⟨dst, .call ⟨.invoke x m, args, ats⟩, ty, pos, after, guard⟩ = callMethod (ρ x) m (args.map ρ) := by
  have e : ∀ (v : Value) (l : Array Value), (#[v] ++ l).extract 1 (#[v] ++ l).size = l := fun v l => by
    apply Array.ext'
    simp
  have e0 : ∀ (v : Value) (l : Array Value), (#[v] ++ l)[0]? = some v := fun v l => by
    rw [Array.getElem?_append_left (by simp)]
    rfl
  show (do let d ← (pure { target := .fn (.method m) #[], args := #[ρ x] ++ args.map ρ } : Sem Deferred); invoke d.target d.args) = _
  rw [pure_bind]
  simp only [invoke, e0, e]

theorem callMethod_run {t : TypeId} {v0 u : Value} {m : String} {f : FuncId} {args : Array Value} {w : World} (hm : ∀ n, (Go.method (n + 1) t v0 m).run P w = .ok (f, u) w) :
    (callMethod (.iface t v0) m args).run P w = (callFunc f (#[u] ++ args)).run P w := by
  have hd : P.types.size + Made.depth = (P.types.size + 99) + 1 := rfl
  simp only [callMethod, Sem.run_bind, run_program, Result.andThen_ok]
  rw [hd, hm]
  rfl

theorem step_ok [Nu] (hn : NamesOk P) {call : CallF} (hcall : CallOk P T call) {ops : Array Oper} {o : Oper} {st st' : St} (hs : step P call ops o st = some st')
    {g : Gh} {w : World} {a : Act} (rel : RelSt T g w a st) {K : Act → World → Prop} {Q : Exit → Act → World → Prop}
    (hk : ∀ g' w' a', Post g st.h w g' st'.h w' → RelSt T g' w' a' st' → K a' w') :
    if Region.wanted o (yielded ops a.tmps) then o.wp P a w K Q else K (a.put o.dst undef) w := by
  unfold step at hs
  split at hs
  · rename_i hw
    rw [wanted_ok rel.f hw]
    simp only [if_true]
    have hE : ∀ x, V g st.h w (ev st.s x) (a.eval x) := fun x => ev_ok rel.f x
    split at hs
    · rename_i v h' hc
      cases hs
      have fin : ∀ {u : Value} {g' : Gh} {w' : World}, Post g st.h w g' h' w' → R g' h' w' → V g' h' w' v u → K (a.put o.dst u) w' := by
        intro u g' w' p r hv
        refine hk g' w' _ ?_ (rel.put o.dst p r hv)
        rw [put_heap]; exact p
      unfold Oper.wp
      have plain : plainOp P (ev st.s) st.h o = some (v, h') → o.upon P a K Q ((execOp a.eval o).run P w) := by
        intro hp
        obtain ⟨nx, u, w', g', h1, h2, h3, h4, h5⟩ := plainOp_ok rel.r hE hp
        rw [h1]
        rcases h2 with rfl | ⟨rfl, rfl⟩
        · exact fin h4 h5 h3
        · exact fin h4 h5 h3
      unfold callOp at hc
      obtain ⟨dst, op, ty, pos, after, guard⟩ := o
      split at hc
      · rename_i f args ats hop
        simp only at hop
        subst hop
        split at hc
        · rename_i k first cap hf
          have hfv := hE f
          rw [hf] at hfv
          have : ∃ x y, a.eval f = .func (.func k) x y ∧ first.length = x.size ∧ cap.length = y.size ∧
              (∀ (i : Nat) (c : AV) (v : Value), first[i]? = some c → x[i]? = some v → V g st.h w c v) ∧ (∀ (i : Nat) (c : AV) (v : Value), cap[i]? = some c → y[i]? = some v → V g st.h w c v) := by
            generalize a.eval f = z at hfv
            cases hfv with
            | deep hd => cases hd with
              | fn hx hy h1 h2 => exact ⟨_, _, rfl, hx, hy, fun i c v hc hv => .deep (h1 i c v hc hv), fun i c v hc hv => .deep (h2 i c v hc hv)⟩
            | fn hx hy h1 h2 => exact ⟨_, _, rfl, hx, hy, h1, h2⟩
          obtain ⟨x, y, e1, hx, hy, h1, h2⟩ := this
          rw [value_ex e1]
          have hlen : (first ++ args.toList.map (ev st.s) ++ cap).length = (x ++ args.map a.eval ++ y).size := by simp [hx, hy]
          have hrel : ∀ (i : Nat) (c : AV) (v : Value), (first ++ args.toList.map (ev st.s) ++ cap)[i]? = some c → (x ++ args.map a.eval ++ y)[i]? = some v → V g st.h w c v := by
            intro i c v hc hv
            by_cases i1 : i < first.length
            · rw [List.append_assoc, List.getElem?_append_left i1] at hc
              rw [Array.append_assoc, Array.getElem?_append_left (by omega)] at hv
              exact h1 i c v hc hv
            · by_cases i2 : i < first.length + args.size
              · rw [List.append_assoc, List.getElem?_append_right (by omega), List.getElem?_append_left (by simp; omega)] at hc
                rw [Array.append_assoc, Array.getElem?_append_right (by omega), Array.getElem?_append_left (by simp; omega)] at hv
                rw [← hx] at hv
                simp only [List.getElem?_map, Array.getElem?_toList, Array.getElem?_map] at hc hv
                cases hq : args[i - first.length]? with
                | none => rw [hq] at hc; cases hc
                | some q => rw [hq] at hc hv; cases hc; cases hv; exact hE q
              · rw [List.getElem?_append_right (by simp; omega)] at hc
                rw [Array.getElem?_append_right (by simp; omega)] at hv
                simp only [List.length_append, List.length_map, Array.length_toList] at hc
                simp only [Array.size_append, Array.size_map, ← hx] at hv
                exact h2 _ c v hc hv
          split at hc
          · rename_i c hbody
            have hcf : (callFunc k (x ++ args.map a.eval ++ y)).run P w = .ok (.enter k (x ++ args.map a.eval ++ y)) w := by
              cases hfn : P.funcs[k]? with
              | none => rw [hfn] at hbody; cases hbody
              | some fn =>
                rw [hfn] at hbody
                simp only [Option.bind_some] at hbody
                have hnm := hn k fn hfn (by rw [hbody]; rfl)
                simp only [callFunc, Sem.run_bind, run_program, Result.andThen_ok, hfn, hnm, hbody]
                rfl
            rw [hcf]
            refine (hcall _ _ _ _ _ hc g w _ rel.r rel.f.2.2.2.2 hlen hrel).mono ?_
            rintro e w' ⟨v', g', rfl, hv', hp', hr'⟩
            exact fin hp' hr' hv'
          · split at hc
            · rename_i v' hl
              cases hc
              obtain ⟨u, h3, h4⟩ := litCall_run hlen hrel hl
              rw [h3]
              exact fin (Post.refl _ _ _) rel.r h4
            · cases hc
        · cases hc
      · rename_i x m args ats hop
        simp only at hop
        subst hop
        split at hc
        · rename_i k y hmeth
          obtain ⟨t, v0, u, e1, hrun, hu⟩ := methA_run (P := P) rel.r (hE x) hmeth
          rw [invoke_ex, e1, callMethod_run hrun]
          have hlen : (y :: args.toList.map (ev st.s)).length = (#[u] ++ args.map a.eval).size := by simp; omega
          have hrel : ∀ (i : Nat) (c : AV) (v : Value), (y :: args.toList.map (ev st.s))[i]? = some c → (#[u] ++ args.map a.eval)[i]? = some v → V g st.h w c v := by
            intro i c v hc hv
            cases i with
            | zero =>
              rw [Array.getElem?_append_left (by simp)] at hv
              simp at hc hv
              subst hc; subst hv; exact hu
            | succ i =>
              rw [List.getElem?_cons_succ] at hc
              rw [Array.getElem?_append_right (by simp)] at hv
              simp only [List.size_toArray, List.length_cons, List.length_nil, Nat.zero_add, Nat.add_sub_cancel, List.getElem?_map, Array.getElem?_toList, Array.getElem?_map] at hc hv
              cases hq : args[i]? with
              | none => rw [hq] at hc; cases hc
              | some q => rw [hq] at hc hv; cases hc; cases hv; exact hE q
          split at hc
          · rename_i c hbody
            have hcf : (callFunc k (#[u] ++ args.map a.eval)).run P w = .ok (.enter k (#[u] ++ args.map a.eval)) w := by
              cases hfn : P.funcs[k]? with
              | none => rw [hfn] at hbody; cases hbody
              | some fn =>
                rw [hfn] at hbody
                simp only [Option.bind_some] at hbody
                have hnm := hn k fn hfn (by rw [hbody]; rfl)
                simp only [callFunc, Sem.run_bind, run_program, Result.andThen_ok, hfn, hnm, hbody]
                rfl
            rw [hcf]
            refine (hcall _ _ _ _ _ hc g w _ rel.r rel.f.2.2.2.2 hlen hrel).mono ?_
            rintro e w' ⟨v', g', rfl, hv', hp', hr'⟩
            exact fin hp' hr' hv'
          · cases hc
        · cases hc
      · exact plain hc
    · cases hs
  · rename_i hw
    rw [wanted_ok rel.f hw]
    simp only [Bool.false_eq_true, if_false]
    cases hs
    refine hk g w _ ?_ ?_
    · rw [put_heap]; exact Post.refl _ _ _
    · exact rel.put o.dst (Post.refl _ _ _) rel.r (.deep (.lit rfl))
  · cases hs

def conv : AExit → Exit
  | .normal => .normal
  | .exit id => .exit id
  | .goto l => .goto l
  | .ret => .ret

/-- What stands behind a piece of code. -/
def After [Nu] (T : Tr) (g : Gh) (h : Heap) (w : World) (x : AExit) (st' : St) : Exit → Act → World → Prop :=
  fun e a' w' => e = conv x ∧ ∃ g', Post g h w g' st'.h w' ∧ RelSt T g' w' a' st'

theorem After.trans [Nu] {g g1 : Gh} {h h1 : Heap} {w w1 : World} (p : Post g h w g1 h1 w1) {x : AExit} {st' : St} {e : Exit} {a' : Act} {w' : World} (q : After T g1 h1 w1 x st' e a' w') : After T g h w x st' e a' w' := by
  obtain ⟨h1, g', h2, h3⟩ := q
  exact ⟨h1, g', p.trans h2, h3⟩

theorem steps_ok [Nu] (hn : NamesOk P) {call : CallF} (hcall : CallOk P T call) {ops : Array Oper} : ∀ {l : List Oper} {st st' : St}, steps P call ops l st = some st' → ∀ {g : Gh} {w : World} {a : Act}, RelSt T g w a st →
    ∀ {Q : Exit → Act → World → Prop}, (∀ g' w' a', Post g st.h w g' st'.h w' → RelSt T g' w' a' st' → Q .normal a' w') → wpList P ops Q l a w
  | [], st, st', hs, g, w, a, rel, Q, hq => by
    simp only [steps, Option.some.injEq] at hs
    subst hs
    exact hq g w a (Post.refl _ _ _) rel
  | o :: l, st, st', hs, g, w, a, rel, Q, hq => by
    simp only [steps] at hs
    split at hs
    · rename_i st1 h1
      exact wpList_step fun K hK => step_ok hn hcall h1 rel fun g' w' a' p' rel' => hK _ _ (steps_ok hn hcall hs rel' fun g2 w2 a2 p2 r2 => hq g2 w2 a2 (p'.trans p2) r2)
    · cases hs

def RegOk [Nu] (P : Program) (T : Tr) (reg : Array Oper → Bool → St → Option St) : Prop :=
  ∀ ops draw st st', reg ops draw st = some st' → ∀ id g w a, RelSt T g w a st → (Code.region id ops draw).wp P (After T g st.h w .normal st') a w

end Go.Am
