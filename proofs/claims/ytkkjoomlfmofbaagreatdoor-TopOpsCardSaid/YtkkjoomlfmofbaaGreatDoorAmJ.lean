import Derived.Test.YtkkjoomlfmofbaaGreatDoorAmI
set_option linter.unusedSectionVars false
/-! Regions that draw: the run in the order of the text, with what memory may look like at each operation. -/
namespace Go.Am
set_option linter.unusedSimpArgs false
set_option linter.unusedVariables false

variable {P : Program} {T : Tr}

/-- What an operation sees of a frame. -/
def lim (ns : List Nat) (s : Tr) : Operand → AV
  | .tmp t => if ns.any (Nat.beq t) then s.tmp t else .junk
  | x => ev s x

theorem lim_congr {ns : List Nat} {s s' : Tr} (h : ∀ t ∈ ns, s.get t = s'.get t) (hh : ∀ t, 4294967296 < t → s.get t = s'.get t) : lim ns s = lim ns s' := by
  funext x
  cases x with
  | tmp t =>
    simp only [lim]
    split
    · rename_i ha
      obtain ⟨u, hu, he⟩ := List.any_eq_true.1 ha
      rw [Nat.eq_of_beq_eq_true he]
      by_cases hle : u ≤ 4294967296
      · rw [tmp_get _ hle, tmp_get _ hle]; exact h u hu
      · rw [tmp_high _ hle, tmp_high _ hle]
    · rfl
  | «global» k =>
    simp only [lim, ev]
    rw [hh _ (by omega)]
  | _ => rfl

theorem lim_ok [Nu] {g : Gh} {w : World} {a : Act} {st : St} (f : Fits T g w a st) (ns : List Nat) (x : Operand) : V g st.h w (lim ns st.s x) (a.eval x) := by
  cases x with
  | tmp t =>
    simp only [lim]
    split
    · exact ev_ok f (.tmp t)
    · exact .deep .junk
  | const v => exact ev_ok f (.const v)
  | «global» k => exact ev_ok f (.global k)
  | func k => exact ev_ok f (.func k)

theorem wantedA_congr {ops : Array Oper} {n : Nat} {s s' : Tr} {h h' : Heap} {o : Oper} (hs : ∀ t ∈ o.looksAt ops, s.get t = s'.get t) : wantedA ops ⟨n, s, h⟩ o = wantedA ops ⟨n, s', h'⟩ o := by
  unfold wantedA
  cases hg : o.guard with
  | none => rfl
  | some p =>
    obtain ⟨j, want⟩ := p
    simp only
    congr 1
    unfold yieldedA
    cases hd : (ops.toList[j]?).bind (·.dst) with
    | none => rfl
    | some d =>
      simp only
      have : s.get d = s'.get d := by
        apply hs
        rw [Array.getElem?_toList] at hd
        simp [Oper.looksAt, hg, hd]
      rw [this]

theorem callOp_wp [Nu] (hn : NamesOk P) {call : CallF} (hcall : CallOk P T call) {o : Oper} {e : Operand → AV} {h h' : Heap} {v : AV} (hc : callOp P call e h o = some (v, h'))
    {g : Gh} {w : World} {a : Act} (r : R g h w) (hgl : GlobV T g h w) (hE : ∀ x, V g h w (e x) (a.eval x)) {K : Act → World → Prop} {Q : Exit → Act → World → Prop}
    (fin : ∀ {u : Value} {g' : Gh} {w' : World}, Post g h w g' h' w' → R g' h' w' → V g' h' w' v u → K (a.put o.dst u) w') : o.wp P a w K Q := by
  unfold Oper.wp
  have plain : plainOp P e h o = some (v, h') → o.upon P a K Q ((execOp a.eval o).run P w) := by
    intro hp
    obtain ⟨nx, u, w', g', h1, h2, h3, h4, h5⟩ := plainOp_ok r hE hp
    rw [h1]
    rcases h2 with rfl | ⟨rfl, rfl⟩
    · exact fin h4 h5 h3
    · exact fin h4 h5 h3
  unfold callOp at hc
  obtain ⟨dst, op, ty, pos, after, guard⟩ := o
  split at hc
  · rename_i f args ats hop
    simp only at hop
    subst hop
    split at hc
    · rename_i k first cap hf
      have hfv := hE f
      rw [hf] at hfv
      have : ∃ x y, a.eval f = .func (.func k) x y ∧ first.length = x.size ∧ cap.length = y.size ∧
          (∀ (i : Nat) (c : AV) (v : Value), first[i]? = some c → x[i]? = some v → V g h w c v) ∧ (∀ (i : Nat) (c : AV) (v : Value), cap[i]? = some c → y[i]? = some v → V g h w c v) := by
        generalize a.eval f = z at hfv
        cases hfv with
        | deep hd => cases hd with
          | fn hx hy h1 h2 => exact ⟨_, _, rfl, hx, hy, fun i c v hc hv => .deep (h1 i c v hc hv), fun i c v hc hv => .deep (h2 i c v hc hv)⟩
        | fn hx hy h1 h2 => exact ⟨_, _, rfl, hx, hy, h1, h2⟩
      obtain ⟨x, y, e1, hx, hy, h1, h2⟩ := this
      rw [value_ex e1]
      have hlen : (first ++ args.toList.map e ++ cap).length = (x ++ args.map a.eval ++ y).size := by simp [hx, hy]
      have hrel : ∀ (i : Nat) (c : AV) (v : Value), (first ++ args.toList.map e ++ cap)[i]? = some c → (x ++ args.map a.eval ++ y)[i]? = some v → V g h w c v := by
        intro i c v hc hv
        by_cases i1 : i < first.length
        · rw [List.append_assoc, List.getElem?_append_left i1] at hc
          rw [Array.append_assoc, Array.getElem?_append_left (by omega)] at hv
          exact h1 i c v hc hv
        · by_cases i2 : i < first.length + args.size
          · rw [List.append_assoc, List.getElem?_append_right (by omega), List.getElem?_append_left (by simp; omega)] at hc
            rw [Array.append_assoc, Array.getElem?_append_right (by omega), Array.getElem?_append_left (by simp; omega)] at hv
            rw [← hx] at hv
            simp only [List.getElem?_map, Array.getElem?_toList, Array.getElem?_map] at hc hv
            cases hq : args[i - first.length]? with
            | none => rw [hq] at hc; cases hc
            | some q => rw [hq] at hc hv; cases hc; cases hv; exact hE q
          · rw [List.getElem?_append_right (by simp; omega)] at hc
            rw [Array.getElem?_append_right (by simp; omega)] at hv
            simp only [List.length_append, List.length_map, Array.length_toList] at hc
            simp only [Array.size_append, Array.size_map, ← hx] at hv
            exact h2 _ c v hc hv
      split at hc
      · rename_i c hbody
        have hcf : (callFunc k (x ++ args.map a.eval ++ y)).run P w = .ok (.enter k (x ++ args.map a.eval ++ y)) w := by
          cases hfn : P.funcs[k]? with
          | none => rw [hfn] at hbody; cases hbody
          | some fn =>
            rw [hfn] at hbody
            simp only [Option.bind_some] at hbody
            have hnm := hn k fn hfn (by rw [hbody]; rfl)
            simp only [callFunc, Sem.run_bind, run_program, Result.andThen_ok, hfn, hnm, hbody]
            rfl
        rw [hcf]
        refine (hcall _ _ _ _ _ hc g w _ r hgl hlen hrel).mono ?_
        rintro e w' ⟨v', g', rfl, hv', hp', hr'⟩
        exact fin hp' hr' hv'
      · split at hc
        · rename_i v' hl
          cases hc
          obtain ⟨u, h3, h4⟩ := litCall_run hlen hrel hl
          rw [h3]
          exact fin (Post.refl _ _ _) r h4
        · cases hc
    · cases hc
  · rename_i x m args ats hop
    simp only at hop
    subst hop
    split at hc
    · rename_i k y hmeth
      obtain ⟨t, v0, u, e1, hrun, hu⟩ := methA_run (P := P) r (hE x) hmeth
      rw [invoke_ex, e1, callMethod_run hrun]
      have hlen : (y :: args.toList.map e).length = (#[u] ++ args.map a.eval).size := by simp; omega
      have hrel : ∀ (i : Nat) (c : AV) (v : Value), (y :: args.toList.map e)[i]? = some c → (#[u] ++ args.map a.eval)[i]? = some v → V g h w c v := by
        intro i c v hc hv
        cases i with
        | zero =>
          rw [Array.getElem?_append_left (by simp)] at hv
          simp at hc hv
          subst hc; subst hv; exact hu
        | succ i =>
          rw [List.getElem?_cons_succ] at hc
          rw [Array.getElem?_append_right (by simp)] at hv
          simp only [List.size_toArray, List.length_cons, List.length_nil, Nat.zero_add, Nat.add_sub_cancel, List.getElem?_map, Array.getElem?_toList, Array.getElem?_map] at hc hv
          cases hq : args[i]? with
          | none => rw [hq] at hc; cases hc
          | some q => rw [hq] at hc hv; cases hc; cases hv; exact hE q
      split at hc
      · rename_i c hbody
        have hcf : (callFunc k (#[u] ++ args.map a.eval)).run P w = .ok (.enter k (#[u] ++ args.map a.eval)) w := by
          cases hfn : P.funcs[k]? with
          | none => rw [hfn] at hbody; cases hbody
          | some fn =>
            rw [hfn] at hbody
            simp only [Option.bind_some] at hbody
            have hnm := hn k fn hfn (by rw [hbody]; rfl)
            simp only [callFunc, Sem.run_bind, run_program, Result.andThen_ok, hfn, hnm, hbody]
            rfl
        rw [hcf]
        refine (hcall _ _ _ _ _ hc g w _ r hgl hlen hrel).mono ?_
        rintro e w' ⟨v', g', rfl, hv', hp', hr'⟩
        exact fin hp' hr' hv'
      · cases hc
    · cases hc
  · exact plain hc

/-! ### What the text says of the orders -/

structure Sr where
  i : Nat
  o : Oper
  c : Nat
  ls : List Nat
  deriving Inhabited

def cAt : List Sr → Nat → Nat
  | [], _ => 0
  | r :: rs, j => bif Nat.beq r.i j then r.c else cAt rs j

def cNew (rs : List Sr) : List Edge → Nat
  | [] => 0
  | e :: l => bif Region.binds .any e then Nat.lor (Nat.lor (2 ^ e.on) (cAt rs e.on)) (cNew rs l) else cNew rs l

def hit (d : Option Tmp) (l : List Nat) : Bool :=
  match d with
  | some d => l.any (Nat.beq d)
  | none => false

def sameDst : Option Tmp → Option Tmp → Bool
  | some a, some b => Nat.beq a b
  | _, _ => false

def clash (r : Sr) (o : Oper) (ls : List Nat) : Bool := hit r.o.dst ls || (hit o.dst r.ls || sameDst r.o.dst o.dst)

def stat (ops : Array Oper) : List Oper → List Sr → Option (List Sr)
  | [], rs => some rs
  | o :: l, rs =>
    if (rs.all fun r => !clash r o (o.looksAt ops) || (cNew rs o.after.toList).testBit r.i) && (o.after.toList.all fun e => !Region.binds .any e || Nat.blt e.on rs.length) then
      stat ops l (⟨rs.length, o, cNew rs o.after.toList, o.looksAt ops⟩ :: rs)
    else none

/-- What holds of such a list. -/
inductive SOk (ops : Array Oper) : List Sr → Prop
  | nil : SOk ops []
  | cons {r : Sr} {rs : List Sr} : SOk ops rs → r.i = rs.length → ops[r.i]? = some r.o → r.ls = r.o.looksAt ops →
      (∀ j, r.c.testBit j = true → ∃ e ∈ r.o.after, Region.binds .any e = true ∧ (e.on = j ∨ ∃ r' ∈ rs, r'.i = e.on ∧ r'.c.testBit j = true)) →
      (∀ r' ∈ rs, clash r' r.o r.ls = true → r.c.testBit r'.i = true) →
      (∀ e ∈ r.o.after, Region.binds .any e = true → e.on < r.i) → SOk ops (r :: rs)

theorem cAt_spec : ∀ (rs : List Sr) (j k : Nat), (cAt rs j).testBit k = true → ∃ r ∈ rs, r.i = j ∧ r.c.testBit k = true
  | [], j, k, h => by simp [cAt] at h
  | r :: rs, j, k, h => by
    simp only [cAt] at h
    cases hb : Nat.beq r.i j with
    | true => rw [hb] at h; exact ⟨r, List.mem_cons_self, Nat.eq_of_beq_eq_true hb, h⟩
    | false =>
      rw [hb] at h
      obtain ⟨r', h1, h2⟩ := cAt_spec rs j k h
      exact ⟨r', List.mem_cons_of_mem _ h1, h2⟩

theorem cNew_spec (rs : List Sr) : ∀ (l : List Edge) (j : Nat), (cNew rs l).testBit j = true → ∃ e ∈ l, Region.binds .any e = true ∧ (e.on = j ∨ ∃ r' ∈ rs, r'.i = e.on ∧ r'.c.testBit j = true)
  | [], j, h => by simp [cNew] at h
  | e :: l, j, h => by
    simp only [cNew] at h
    cases hb : Region.binds .any e with
    | false =>
      rw [hb] at h
      obtain ⟨e', h1, h2⟩ := cNew_spec rs l j h
      exact ⟨e', List.mem_cons_of_mem _ h1, h2⟩
    | true =>
      rw [hb] at h
      have h : (((2 ^ e.on) ||| (cAt rs e.on)) ||| (cNew rs l)).testBit j = true := h
      rw [Nat.testBit_or, Nat.testBit_or, Bool.or_eq_true, Bool.or_eq_true, Nat.testBit_two_pow] at h
      rcases h with (h | h) | h
      · exact ⟨e, List.mem_cons_self, hb, .inl (of_decide_eq_true h)⟩
      · exact ⟨e, List.mem_cons_self, hb, .inr (cAt_spec rs _ _ h)⟩
      · obtain ⟨e', h1, h2⟩ := cNew_spec rs l j h
        exact ⟨e', List.mem_cons_of_mem _ h1, h2⟩

theorem stat_ok (ops : Array Oper) : ∀ (l : List Oper) (rs out : List Sr), stat ops l rs = some out → SOk ops rs → rs.map (·.o) = (ops.toList.take rs.length).reverse → l = ops.toList.drop rs.length →
    SOk ops out ∧ out.length = ops.size
  | [], rs, out, h, h1, h2, h3 => by
    simp only [stat, Option.some.injEq] at h
    subst h
    refine ⟨h1, ?_⟩
    have e1 := congrArg List.length h2
    have e2 := congrArg List.length h3
    simp at e1 e2
    omega
  | o :: l, rs, out, h, h1, h2, h3 => by
    simp only [stat] at h
    split at h
    · rename_i hc
      rw [Bool.and_eq_true] at hc
      have ho : ops[rs.length]? = some o := by
        rw [← Array.getElem?_toList]
        have := congrArg (·[0]?) h3
        simp at this
        rw [Array.getElem?_toList]
        exact this.symm
      refine stat_ok ops l _ out h (.cons h1 rfl ho rfl ?_ ?_ ?_) ?_ ?_
      · intro j hj
        obtain ⟨e, he, h⟩ := cNew_spec rs _ j hj
        exact ⟨e, Array.mem_toList_iff.1 he, h⟩
      · intro r' hr' hcl
        have := List.all_eq_true.1 hc.1 r' hr'
        simp only [Bool.or_eq_true, Bool.not_eq_true'] at this
        rcases this with h | h
        · simp only at hcl; rw [hcl] at h; cases h
        · exact h
      · intro e he hb
        have := List.all_eq_true.1 hc.2 e (Array.mem_toList_iff.2 he)
        simp only [hb, Bool.not_true, Bool.false_or] at this
        exact Nat.le_of_ble_eq_true this
      · simp only [List.map_cons, List.length_cons, h2]
        rw [List.take_add_one]
        rw [Array.getElem?_toList, ho]
        simp
      · simp only [List.length_cons]
        rw [← List.drop_drop, ← h3]
        rfl
    · cases h

end Go.Am
