import Derived.Test.YtkkjoomlfmofbaaGreatDoorAmS2
set_option linter.unusedSectionVars false
/-! Regions in continuation form. -/
namespace Go.Am
set_option linter.unusedSimpArgs false
set_option linter.unusedVariables false

variable {P : Program} {T : Tr}

def putK (n : Nat) (s : Tr) (v : AV) : Option Tmp → Tr
  | some d => bif Nat.blt d n then Tr.set 64 s d v else s
  | none => s

theorem putK_eq (n : Nat) (s : Tr) (h : Heap) (v : AV) (d : Option Tmp) : St.put ⟨n, s, h⟩ v d = ⟨n, putK n s v d, h⟩ := by
  cases d with
  | none => rfl
  | some d => simp only [St.put, putK]; cases hd : Nat.blt d n <;> simp

theorem putT_putK (n : Nat) (s : Tr) (v : AV) (d : Option Tmp) : putT n s v d = putK n s v d := by
  unfold putT; rw [putK_eq]

/-- Where the value of an operation is read by a guard, its two ways are gone each by itself. -/
def guardDst (ops : Array Oper) (o : Oper) : Bool :=
  match o.dst with
  | none => false
  | some d => ops.toList.any fun o' => match o'.guard with
    | some (j, _) => match (ops.toList[j]?).bind (·.dst) with
      | some d' => Nat.beq d d'
      | none => false
    | none => false

def guardK (ops : Array Oper) (n : Nat) (s : Tr) (o : Oper) (go skip : Res) : Res :=
  match o.guard with
  | none => go
  | some (j, want) => match (ops.toList[j]?).bind (·.dst) with
    | none => skip
    | some d => bif Nat.ble n d then skip else bif Nat.ble d 4294967296 then (match s.rd d with
      | .lit (.bool b) => bif b == want then go else skip
      | .lit _ => skip
      | _ => none) else none

theorem guardK_ok {ops : Array Oper} {n : Nat} {s : Tr} {o : Oper} {go skip : Res} {r : AV × Heap} (h : guardK ops n s o go skip = some r) (hp : Heap) :
    (wantedA ops ⟨n, s, hp⟩ o = some true ∧ go = some r) ∨ (wantedA ops ⟨n, s, hp⟩ o = some false ∧ skip = some r) := by
  unfold guardK at h
  unfold wantedA
  split at h
  · rename_i hg; simp only [hg]; exact .inl ⟨trivial, h⟩
  · rename_i j want hg
    simp only [hg]
    unfold yieldedA
    split at h
    · rename_i hd; simp only [hd]; exact .inr ⟨by simp, h⟩
    · rename_i d hd
      simp only [hd]
      cases hn : Nat.ble n d with
      | true =>
        rw [hn] at h
        rw [if_pos (Nat.le_of_ble_eq_true hn)]
        exact .inr ⟨by simp, h⟩
      | false =>
        rw [hn] at h
        have hn' : ¬ n ≤ d := fun hle => by rw [Nat.ble_eq_true_of_le hle] at hn; cases hn
        rw [if_neg hn']
        cases hle : Nat.ble d 4294967296 with
        | false => rw [hle] at h; cases h
        | true =>
          rw [hle] at h
          rw [Tr.rd_get s (by have := Nat.le_of_ble_eq_true hle; omega)] at h
          simp only [cond_false, cond_true] at h
          split at h
          · rename_i b hb
            simp only [hb]
            cases hbw : b == want with
            | true => rw [hbw] at h; have := eq_of_beq hbw; subst this; exact .inl ⟨by simp, h⟩
            | false => rw [hbw] at h; exact .inr ⟨by cases b <;> cases want <;> simp at hbw ⊢, h⟩
          · rename_i v hnb hv
            simp only [hv]
            refine .inr ⟨?_, h⟩
            cases v <;> first | rfl | (exact absurd rfl (hnb _))
          · cases h

def landK (ops : Array Oper) (n : Nat) (s : Tr) (o : Oper) (v : AV) (h : Heap) (k : Kt) : Res :=
  bif guardDst ops o then split v (fun v => k (putK n s v o.dst) h) else k (putK n s v o.dst) h

theorem landK_ok {ops : Array Oper} {n : Nat} {s : Tr} {o : Oper} {v : AV} {h : Heap} {k : Kt} {r : AV × Heap} (hk : landK ops n s o v h k = some r) : k (putK n s v o.dst) h = some r := by
  unfold landK at hk
  cases hg : guardDst ops o with
  | true => rw [hg] at hk; simp only [cond_true] at hk; exact split_some hk
  | false => rw [hg] at hk; exact hk

def stepsK (P : Program) (call : CallF) (n : Nat) (ops : Array Oper) : List Oper → Kt → Kt
  | [], k => k
  | o :: l, k => fun s h => guardK ops n s o
      (opK P call (evK s) h o fun v h' => landK ops n s o v h' (stepsK P call n ops l k))
      (stepsK P call n ops l k (putK n s (.lit undef) o.dst) h)

theorem evK_func (s : Tr) (g : FuncId) : evK s (.func g) = .fn (.func g) [] [] := rfl

theorem stepsK_ok {call : CallF} {n : Nat} {ops : Array Oper} : ∀ {l : List Oper} {k : Kt} {s : Tr} {h : Heap} {r : AV × Heap}, stepsK P call n ops l k s h = some r →
    ∃ s' h', steps P call ops l ⟨n, s, h⟩ = some ⟨n, s', h'⟩ ∧ k s' h' = some r
  | [], k, s, h, r, hk => ⟨s, h, rfl, hk⟩
  | o :: l, k, s, h, r, hk => by
    simp only [stepsK] at hk
    rcases guardK_ok hk h with ⟨hw, hk⟩ | ⟨hw, hk⟩
    · obtain ⟨v, h1, hc, hk⟩ := opK_ok (evK_func s) hk
      have hk := landK_ok hk
      obtain ⟨s', h', h2, h3⟩ := stepsK_ok hk
      refine ⟨s', h', ?_, h3⟩
      rw [evK_eq] at hc
      simp only [steps, step, hw, hc, putK_eq]
      exact h2
    · obtain ⟨s', h', h2, h3⟩ := stepsK_ok hk
      refine ⟨s', h', ?_, h3⟩
      simp only [steps, step, hw, putK_eq]
      exact h2

/-! ### Regions that draw their order -/

def limK (ns : List Nat) (s : Tr) : Operand → AV
  | .tmp t => bif ns.any (Nat.beq t) then evK s (.tmp t) else .junk
  | x => evK s x

theorem limK_eq (ns : List Nat) (s : Tr) : limK ns s = lim ns s := by
  funext x
  cases x with
  | tmp t =>
    simp only [limK, lim, evK_eq]
    cases ns.any (Nat.beq t) <;> rfl
  | _ => simp only [limK, lim, evK_eq]

def allG {α : Type} (f : α → α → Bool) : List α → List α → Bool
  | [], [] => true
  | x :: xs, y :: ys => f x y && allG f xs ys
  | _, _ => false

theorem allG_eq {α : Type} {f : α → α → Bool} (hf : ∀ a b, f a b = true → a = b) : ∀ {x y : List α}, allG f x y = true → x = y
  | [], [], _ => rfl
  | [], _ :: _, h => by cases h
  | _ :: _, [], h => by cases h
  | a :: x, b :: y, h => by
    simp only [allG, Bool.and_eq_true] at h
    rw [hf _ _ h.1, allG_eq hf h.2]

def sameO : AObj → AObj → Bool
  | .arr A, .arr B => Nat.beq A.sz B.sz && (A.row == B.row && (A.shared == B.shared && all2 (same 64) A.elems B.elems))
  | .map es c, .map es' c' => Nat.beq c c' && allG (fun x y => vsame x.1 y.1 && (same 64 x.2.1 y.2.1 && Nat.beq x.2.2 y.2.2)) es es'
  | .siter (.str s p), .siter (.str s' p') => (s.data.toList == s'.data.toList) && Nat.beq p p'
  | .siter .none, .siter .none => true
  | .siter (.ent a b c d), .siter (.ent a' b' c' d') => Nat.beq a a' && (Nat.beq b b' && (allG Nat.beq c c' && Nat.beq d d'))
  | .dead, .dead => true
  | _, _ => false

theorem sameO_eq (a b : AObj) (h : sameO a b = true) : a = b := by
  cases a with
  | arr A =>
    cases b <;> simp only [sameO] at h <;> first | (cases h; done) | skip
    rename_i B
    obtain ⟨s1, r1, h1, e1⟩ := A
    obtain ⟨s2, r2, h2, e2⟩ := B
    simp only [Bool.and_eq_true] at h
    obtain ⟨a1, a2, a3, a4⟩ := h
    rw [Nat.eq_of_beq_eq_true a1, eq_of_beq a2, eq_of_beq a3, all2_eq (same_eq 64) a4]
  | map es c =>
    cases b <;> simp only [sameO] at h <;> first | (cases h; done) | skip
    simp only [Bool.and_eq_true] at h
    rw [Nat.eq_of_beq_eq_true h.1, allG_eq (fun x y hxy => by
      obtain ⟨x1, x2, x3⟩ := x
      obtain ⟨y1, y2, y3⟩ := y
      simp only [Bool.and_eq_true] at hxy
      rw [vsame_eq hxy.1, same_eq _ _ _ hxy.2.1, Nat.eq_of_beq_eq_true hxy.2.2]) h.2]
  | siter x =>
    cases x with
    | str s p =>
      cases b with
      | siter y =>
        cases y with
        | str s' p' =>
          simp only [sameO, Bool.and_eq_true] at h
          have e : s = s' := by
            apply ByteArray.ext
            exact Array.ext' (eq_of_beq h.1)
          rw [e, Nat.eq_of_beq_eq_true h.2]
        | _ => simp [sameO] at h
      | _ => simp [sameO] at h
    | none =>
      cases b with
      | siter y => cases y <;> first | rfl | (simp [sameO] at h)
      | _ => simp [sameO] at h
    | ent =>
      cases b with
      | siter y =>
        cases y with
        | ent =>
          simp only [sameO, Bool.and_eq_true] at h
          rw [Nat.eq_of_beq_eq_true h.1, Nat.eq_of_beq_eq_true h.2.1, allG_eq (fun a b hab => Nat.eq_of_beq_eq_true hab) h.2.2.1, Nat.eq_of_beq_eq_true h.2.2.2]
        | _ => simp [sameO] at h
      | _ => simp [sameO] at h
  | dead => cases b <;> simp only [sameO] at h <;> first | rfl | cases h

open Classical in
/-- Two values that must be the same: what the kernel can see is seen at once. -/
noncomputable def eqK (a b : AV) (k : Res) : Res := bif same 64 a b then k else if a = b then k else none
open Classical in
noncomputable def eqH (a b : Heap) (k : Res) : Res := bif allG sameO a b then k else if a = b then k else none

theorem eqK_some {a b : AV} {k : Res} {r : AV × Heap} (h : eqK a b k = some r) : a = b ∧ k = some r := by
  unfold eqK at h
  cases hs : same 64 a b with
  | true => rw [hs] at h; exact ⟨same_eq _ _ _ hs, h⟩
  | false =>
    rw [hs] at h
    simp only [cond_false] at h
    split at h
    · exact ⟨by assumption, h⟩
    · cases h
theorem eqH_some {a b : Heap} {k : Res} {r : AV × Heap} (h : eqH a b k = some r) : a = b ∧ k = some r := by
  unfold eqH at h
  cases hs : allG sameO a b with
  | true => rw [hs] at h; exact ⟨allG_eq sameO_eq hs, h⟩
  | false =>
    rw [hs] at h
    simp only [cond_false] at h
    split at h
    · exact ⟨by assumption, h⟩
    · cases h
theorem eqK_self (a : AV) (k : Res) : eqK a a k = k := by
  unfold eqK
  cases same 64 a a with
  | true => rfl
  | false => exact if_pos rfl
theorem eqH_self (a : Heap) (k : Res) : eqH a a k = k := by
  unfold eqH
  cases allG sameO a a with
  | true => rfl
  | false => exact if_pos rfl

/-- What changes memory, by its form. -/
def isPtrT (P : Program) (t : TypeId) : Bool :=
  match P.underlying t with
  | some (.pointer _) => true
  | _ => false

def isRefT (P : Program) (t : TypeId) : Bool :=
  match P.underlying t with
  | some (.slice _) | some (.pointer _) | some (.map _ _) => true
  | _ => false

def refCell : AV → Bool
  | .lit (.slice none _ _) | .lit (.pointer none) | .lit .nilFunc | .lit (.map none) => true
  | _ => false

def isEff (P : Program) (o : Oper) : Bool :=
  match o.op with
  | .buildSlice t _ _ => match elemKind P t with
    | some (_, z, _) => (cellsOf z).any refCell
    | none => false
  | .alloc _ | .box .. | .store .. | .makeSlice .. | .makeMap .. | .mapUpdate .. | .insert .. | .range .. | .next .. | .mapEntry .. | .entryStore .. => true
  | .call { callee := .builtin .append, .. } | .call { callee := .builtin .copy, .. } | .call { callee := .builtin .clear, .. } => true
  | .call { callee := .value (.func g), .. } => match P.funcs[g]? with
    | some f => f.params.toList.any (isPtrT P) || f.resultTypes.toList.any (isRefT P)
    | none => false
  | .call { callee := .value (.tmp _), .. } => match P.underlying o.type with
    | some (.tuple ts) => ts.isEmpty
    | _ => false
  | .call { callee := .invoke .., .. } => true
  | _ => false

noncomputable def agreeK (P : Program) (call : CallF) (e : Operand → AV) (o : Oper) (v : AV) : List En → Res → Res
  | [], k => k
  | y :: l, k => opK P call e y.H o fun u hu => eqK u v (eqH hu y.H (agreeK P call e o v l k))

noncomputable def effK (P : Program) (call : CallF) (e : Operand → AV) (r : Sr) (v : AV) : List En → List En → (List En → Res) → Res
  | [], N, k => k N.reverse
  | y :: l, N, k => opK P call e y.H r.o fun u hu => eqK u v (effK P call e r v l (behind r y hu :: N) k)

noncomputable def againK (P : Program) (call : CallF) (q : Rc) : List En → Res → Res
  | [], k => k
  | z :: N, k => bif app q.need q.s.i z then
      opK P call (limK q.s.ls q.e) z.H q.s.o fun u hu => eqK u q.v (eqH hu z.H (againK P call q N k))
    else againK P call q N k

def isEffK : Kd → Bool
  | .eff => true
  | _ => false

def findEn (S D : Nat) : List En → Option En
  | [] => none
  | y :: l => bif Nat.beq y.S S && Nat.beq y.D D then some y else findEn S D l

/-- An effect that may also come behind the new one. -/
noncomputable def swapK (P : Program) (call : CallF) (M : List En) (q : Rc) : List En → Res → Res
  | [], k => k
  | z :: N, k => bif app q.need q.s.i z then
      match findEn (Nat.lor z.S (2 ^ q.s.i)) (Nat.lor z.D q.s.c) M with
      | some y => opK P call (limK q.s.ls q.e) z.H q.s.o fun u hu => eqK u q.v (eqH hu y.H (swapK P call M q N k))
      | none => none
    else swapK P call M q N k

noncomputable def againsK (P : Program) (call : CallF) (N : List En) : List Rc → Res → Res
  | [], k => k
  | q :: l, k => bif !q.want || heapFree P q.s.o then againsK P call N l k
    else bif isEffK q.k then swapK P call N q N (againsK P call N l k)
    else againK P call q N (againsK P call N l k)

noncomputable def dstepK (P : Program) (call : CallF) (n : Nat) (ops : Array Oper) (d : Dr) (r : Sr) (k : Dr → Res) : Res :=
  guardK ops n d.s r.o
    (match d.tbl.filter (app (Nat.land r.c d.effs) r.i) with
      | [] => none
      | x :: l => opK P call (limK r.ls d.s) x.H r.o fun v h' =>
        bif isEff P r.o then effK P call (limK r.ls d.s) r v l [behind r x h'] fun N => againsK P call N d.rs (k (d.loudly n r v N))
        else
          let land : Res := bif guardDst ops r.o then split v (fun v => k (d.quietly n r true v .quiet)) else k (d.quietly n r true v .quiet)
          bif heapFree P r.o then land else eqH h' x.H (agreeK P call (limK r.ls d.s) r.o v l land))
    (k (d.quietly n r false (.lit undef) .quiet))

noncomputable def drawsK (P : Program) (call : CallF) (n : Nat) (ops : Array Oper) (kn : Kt) : List Sr → Dr → Res
  | [], d => match d.tbl.filter fun x => Nat.beq x.S d.effs with
    | [x] => kn d.s x.H
    | _ => none
  | r :: l, d => dstepK P call n ops d r fun d' => drawsK P call n ops kn l d'

noncomputable def drawK (P : Program) (call : CallF) (n : Nat) (ops : Array Oper) (kn : Kt) (s : Tr) (h : Heap) : Res :=
  match stat ops ops.toList [] with
  | none => none
  | some rs => drawsK P call n ops kn rs.reverse ⟨s, 0, [], [⟨0, 0, h⟩]⟩

theorem limK_func (ns : List Nat) (s : Tr) (g : FuncId) : limK ns s (.func g) = .fn (.func g) [] [] := rfl

theorem agreeK_ok {call : CallF} {ns : List Nat} {s : Tr} {o : Oper} {v : AV} {r : AV × Heap} : ∀ {l : List En} {k : Res}, agreeK P call (limK ns s) o v l k = some r →
    (∀ y ∈ l, callOp P call (lim ns s) y.H o = some (v, y.H)) ∧ k = some r
  | [], k, h => ⟨fun y hy => (by cases hy), h⟩
  | y :: l, k, h => by
    simp only [agreeK] at h
    obtain ⟨u, hu, h1, h2⟩ := opK_ok (limK_func ns s) h
    obtain ⟨rfl, h3⟩ := eqK_some h2
    obtain ⟨rfl, h4⟩ := eqH_some h3
    obtain ⟨h5, h6⟩ := agreeK_ok h4
    rw [limK_eq] at h1
    exact ⟨fun z hz => (List.mem_cons.1 hz).elim (fun e => e ▸ h1) (h5 z), h6⟩

theorem effK_ok {call : CallF} {ns : List Nat} {s : Tr} {q : Sr} {v : AV} {r : AV × Heap} : ∀ {l N : List En} {k : List En → Res}, effK P call (limK ns s) q v l N k = some r →
    ∃ M, k M = some r ∧ (∀ z ∈ N, z ∈ M) ∧ (∀ y ∈ l, ∃ h', callOp P call (lim ns s) y.H q.o = some (v, h') ∧ behind q y h' ∈ M) ∧ (∀ z ∈ M, z ∈ N ∨ ∃ y ∈ l, ∃ h', z = behind q y h')
  | [], N, k, h => ⟨N.reverse, h, fun z hz => List.mem_reverse.2 hz, fun y hy => (by cases hy), fun z hz => .inl (List.mem_reverse.1 hz)⟩
  | y :: l, N, k, h => by
    simp only [effK] at h
    obtain ⟨u, hu, h1, h2⟩ := opK_ok (limK_func ns s) h
    obtain ⟨rfl, h3⟩ := eqK_some h2
    obtain ⟨M, h4, h5, h6, h7⟩ := effK_ok h3
    rw [limK_eq] at h1
    refine ⟨M, h4, fun z hz => h5 z (List.mem_cons_of_mem _ hz), fun z hz => ?_, fun z hz => ?_⟩
    · rcases List.mem_cons.1 hz with rfl | hz
      · exact ⟨hu, h1, h5 _ List.mem_cons_self⟩
      · exact h6 z hz
    · rcases h7 z hz with h | ⟨w, hw, h', e⟩
      · rcases List.mem_cons.1 h with rfl | h
        · exact .inr ⟨y, List.mem_cons_self, hu, rfl⟩
        · exact .inl h
      · exact .inr ⟨w, List.mem_cons_of_mem _ hw, h', e⟩

theorem againK_ok {call : CallF} {q : Rc} {r : AV × Heap} : ∀ {N : List En} {k : Res}, againK P call q N k = some r →
    (∀ z ∈ N, app q.need q.s.i z = true → callOp P call (lim q.s.ls q.e) z.H q.s.o = some (q.v, z.H)) ∧ k = some r
  | [], k, h => ⟨fun y hy => (by cases hy), h⟩
  | z :: N, k, h => by
    simp only [againK] at h
    cases ha : app q.need q.s.i z with
    | false =>
      rw [ha] at h
      obtain ⟨h1, h2⟩ := againK_ok (k := k) h
      refine ⟨fun y hy hya => ?_, h2⟩
      rcases List.mem_cons.1 hy with rfl | hy
      · rw [ha] at hya; cases hya
      · exact h1 y hy hya
    | true =>
      rw [ha] at h
      simp only [cond_true] at h
      obtain ⟨u, hu, h1, h2⟩ := opK_ok (limK_func _ _) h
      obtain ⟨rfl, h3⟩ := eqK_some h2
      obtain ⟨rfl, h4⟩ := eqH_some h3
      obtain ⟨h5, h6⟩ := againK_ok (k := k) h4
      rw [limK_eq] at h1
      refine ⟨fun y hy hya => ?_, h6⟩
      rcases List.mem_cons.1 hy with rfl | hy
      · exact h1
      · exact h5 y hy hya

theorem callOp_free (call : CallF) (e : Operand → AV) {o : Oper} (hf : heapFree P o = true) {h h' : Heap} {v : AV} (hc : callOp P call e h o = some (v, h')) : h' = h ∧ ∀ x, callOp P call e x o = some (v, x) := by
  have hp : ∀ x, callOp P call e x o = plainOp P e x o := by
    intro x
    obtain ⟨dst, op, ty, pos, after, guard⟩ := o
    cases op <;> first | rfl | (rename_i c; obtain ⟨callee, args, ats⟩ := c; cases callee <;> first | rfl | (simp [heapFree] at hf))
  obtain ⟨y, hy⟩ := plain_free (P := P) e hf
  rw [hp, hy] at hc
  cases y with
  | none => cases hc
  | some y =>
    cases hc
    exact ⟨rfl, fun x => by rw [hp, hy]; rfl⟩

/-- What is kept along: an operation whose answer does not hang on memory answers so in each. -/
def FreeOf (P : Program) (call : CallF) (rs : List Rc) : Prop := ∀ q ∈ rs, q.want = true → heapFree P q.s.o = true → q.k ≠ .eff ∧ ∀ x, callOp P call (lim q.s.ls q.e) x q.s.o = some (q.v, x)

theorem findEn_some {S D : Nat} : ∀ {l : List En} {y : En}, findEn S D l = some y → y ∈ l ∧ y.S = S ∧ y.D = D
  | [], y, h => by cases h
  | x :: l, y, h => by
    simp only [findEn] at h
    cases hb : Nat.beq x.S S && Nat.beq x.D D with
    | true =>
      rw [hb] at h
      cases h
      rw [Bool.and_eq_true] at hb
      exact ⟨List.mem_cons_self, Nat.eq_of_beq_eq_true hb.1, Nat.eq_of_beq_eq_true hb.2⟩
    | false =>
      rw [hb] at h
      obtain ⟨h1, h2⟩ := findEn_some h
      exact ⟨List.mem_cons_of_mem _ h1, h2⟩

theorem swapK_ok {call : CallF} {q : Rc} {M : List En} {r : AV × Heap} : ∀ {N : List En} {k : Res}, swapK P call M q N k = some r →
    (∀ z ∈ N, app q.need q.s.i z = true → ∃ H', callOp P call (lim q.s.ls q.e) z.H q.s.o = some (q.v, H') ∧ behind q.s z H' ∈ M) ∧ k = some r
  | [], k, h => ⟨fun y hy => (by cases hy), h⟩
  | z :: N, k, h => by
    simp only [swapK] at h
    cases ha : app q.need q.s.i z with
    | false =>
      rw [ha] at h
      obtain ⟨h1, h2⟩ := swapK_ok (k := k) h
      refine ⟨fun y hy hya => ?_, h2⟩
      rcases List.mem_cons.1 hy with rfl | hy
      · rw [ha] at hya; cases hya
      · exact h1 y hy hya
    | true =>
      rw [ha] at h
      simp only [cond_true] at h
      split at h
      · rename_i y hy
        obtain ⟨u, hu, h1, h2⟩ := opK_ok (limK_func _ _) h
        obtain ⟨rfl, h3⟩ := eqK_some h2
        obtain ⟨rfl, h4⟩ := eqH_some h3
        obtain ⟨h5, h6⟩ := swapK_ok (k := k) h4
        rw [limK_eq] at h1
        obtain ⟨f1, f2, f3⟩ := findEn_some hy
        refine ⟨fun y' hy' hya => ?_, h6⟩
        rcases List.mem_cons.1 hy' with rfl | hy'
        · refine ⟨_, h1, ?_⟩
          have : behind q.s y' y.H = y := by
            obtain ⟨a, b, c⟩ := y
            simp only at f2 f3
            simp only [behind, f2, f3]
          rw [this]; exact f1
        · exact h5 y' hy' hya
      · cases h

theorem againsK_ok {call : CallF} {N : List En} {r : AV × Heap} : ∀ {l : List Rc} {k : Res}, FreeOf P call l → againsK P call N l k = some r →
    (∀ q ∈ l, q.want = true → ∀ z ∈ N, app q.need q.s.i z = true → ∃ H', callOp P call (lim q.s.ls q.e) z.H q.s.o = some (q.v, H') ∧ ((q.k ≠ .eff ∧ H' = z.H) ∨ (q.k = .eff ∧ behind q.s z H' ∈ N))) ∧ k = some r
  | [], k, _, h => ⟨fun q hq => (by cases hq), h⟩
  | q :: l, k, hf, h => by
    have hf' : FreeOf P call l := fun x hx => hf x (List.mem_cons_of_mem _ hx)
    simp only [againsK] at h
    cases hc : !q.want || heapFree P q.s.o with
    | true =>
      rw [hc] at h
      obtain ⟨h1, h2⟩ := againsK_ok (k := k) hf' h
      refine ⟨fun x hx hw z hz ha => ?_, h2⟩
      rcases List.mem_cons.1 hx with rfl | hx
      · rw [hw] at hc
        have := hf x List.mem_cons_self hw (by simpa using hc)
        exact ⟨_, this.2 _, .inl ⟨this.1, rfl⟩⟩
      · exact h1 x hx hw z hz ha
    | false =>
      rw [hc] at h
      simp only [cond_false] at h
      cases hk : isEffK q.k with
      | true =>
        rw [hk] at h
        simp only [cond_true] at h
        obtain ⟨h1, h2⟩ := swapK_ok h
        obtain ⟨h3, h4⟩ := againsK_ok (k := k) hf' h2
        refine ⟨fun x hx hw z hz ha => ?_, h4⟩
        rcases List.mem_cons.1 hx with rfl | hx
        · obtain ⟨H', g1, g2⟩ := h1 z hz ha
          refine ⟨H', g1, .inr ⟨?_, g2⟩⟩
          cases hkk : x.k <;> rw [hkk] at hk <;> first | rfl | cases hk
        · exact h3 x hx hw z hz ha
      | false =>
        rw [hk] at h
        obtain ⟨h1, h2⟩ := againK_ok h
        obtain ⟨h3, h4⟩ := againsK_ok (k := k) hf' h2
        refine ⟨fun x hx hw z hz ha => ?_, h4⟩
        rcases List.mem_cons.1 hx with rfl | hx
        · exact ⟨_, h1 z hz ha, .inl ⟨(fun e => by rw [e] at hk; cases hk), rfl⟩⟩
        · exact h3 x hx hw z hz ha

theorem DOk.loud {call : CallF} {ops : Array Oper} {n : Nat} {s0 : Tr} {d : Dr} (k : DOk P call ops n s0 d) (hn : n ≤ 4294967296) {r : Sr} {v : AV} {N : List En}
    (hw : wantedA ops ⟨n, d.s, []⟩ r.o = some true)
    (hN : ∀ y ∈ N, ∃ x ∈ d.tbl, ∃ h, y = behind r x h)
    (hre : ∀ q ∈ d.rs, q.want = true → ∀ z ∈ N, app q.need q.s.i z = true → ∃ H', callOp P call (lim q.s.ls q.e) z.H q.s.o = some (q.v, H') ∧ ((q.k ≠ .eff ∧ H' = z.H) ∨ (q.k = .eff ∧ behind q.s z H' ∈ N)))
    (hc : ∀ x ∈ d.tbl, app (Nat.land r.c d.effs) r.i x = true → ∃ H', callOp P call (lim r.ls d.s) x.H r.o = some (v, H') ∧ behind r x H' ∈ N) : DOk P call ops n s0 (d.loudly n r v N) where
  rok := .cons k.rok k.sl hw (fun h => by cases h) (fun j hj => by
    have hj : ((r.c &&& d.effs)).testBit j = true := hj
    rw [Nat.testBit_and, Bool.and_eq_true] at hj
    exact ⟨hj.1, k.ef j hj.2⟩)
  sl := fun t => by
    simp only [Dr.loudly]
    rw [putT_get hn]
    simp only [W, Bool.and_true]
    rw [k.sl]
  ef := fun j hj => by
    have hj : (d.effs ||| 2 ^ r.i).testBit j = true := hj
    rw [Nat.testBit_or, Bool.or_eq_true, Nat.testBit_two_pow] at hj
    rcases hj with hj | hj
    · obtain ⟨q, h1, h2⟩ := k.ef j hj
      exact ⟨q, List.mem_cons_of_mem _ h1, h2⟩
    · exact ⟨_, List.mem_cons_self, of_decide_eq_true hj, rfl⟩
  sub := fun x hx j hj => by
    show (d.effs ||| 2 ^ r.i).testBit j = true
    rw [Nat.testBit_or, Bool.or_eq_true, Nat.testBit_two_pow]
    rcases List.mem_append.1 hx with hx | hx
    · exact .inl (k.sub x hx j hj)
    · obtain ⟨x', hx', h, rfl⟩ := hN x hx
      rcases behind_S.1 hj with hj | hj
      · exact .inl (k.sub x' hx' j hj)
      · exact .inr (by simpa using hj)
  cl := fun q hq hqw x hx ha => by
    rcases List.mem_append.1 hx with hx | hx
    · rcases List.mem_cons.1 hq with rfl | hq
      · obtain ⟨H', h1, h2⟩ := hc x hx ha
        exact ⟨H', h1, .inr ⟨rfl, List.mem_append_right _ h2⟩⟩
      · obtain ⟨H', h1, h2⟩ := k.cl q hq hqw x hx ha
        exact ⟨H', h1, h2.imp id fun h => ⟨h.1, List.mem_append_left _ h.2⟩⟩
    · rcases List.mem_cons.1 hq with rfl | hq
      · obtain ⟨x', hx', h, rfl⟩ := hN x hx
        have : (behind r x' h).S.testBit r.i = true := behind_S.2 (.inr rfl)
        simp [app, this] at ha
      · obtain ⟨H', h1, h2⟩ := hre q hq hqw x hx ha
        exact ⟨H', h1, h2.imp id fun h => ⟨h.1, List.mem_append_right _ h.2⟩⟩

theorem dstepK_ok {call : CallF} {ops : Array Oper} {n : Nat} {s0 : Tr} (hn : n ≤ 4294967296) {d : Dr} {r : Sr} {k : Dr → Res} {res : AV × Heap} (hk : DOk P call ops n s0 d) (hf : FreeOf P call d.rs) (h : dstepK P call n ops d r k = some res) :
    ∃ d', k d' = some res ∧ DOk P call ops n s0 d' ∧ FreeOf P call d'.rs ∧ d'.rs.map (·.s) = r :: d.rs.map (·.s) ∧ ∀ x ∈ d.tbl, x ∈ d'.tbl := by
  unfold dstepK at h
  rcases guardK_ok h [] with ⟨hw, h⟩ | ⟨hw, h⟩
  · split at h
    · cases h
    · rename_i x l hfil
      obtain ⟨v, h', h1, h2⟩ := opK_ok (limK_func _ _) h
      rw [limK_eq] at h1
      have mem : ∀ y, y ∈ d.tbl → app (Nat.land r.c d.effs) r.i y = true → y = x ∨ y ∈ l := fun y hy ha => by
        have : y ∈ d.tbl.filter (app (Nat.land r.c d.effs) r.i) := List.mem_filter.2 ⟨hy, ha⟩
        rw [hfil] at this
        exact List.mem_cons.1 this
      have inn : ∀ y, y = x ∨ y ∈ l → y ∈ d.tbl := fun y hy => by
        have : y ∈ d.tbl.filter (app (Nat.land r.c d.effs) r.i) := by rw [hfil]; exact List.mem_cons.2 hy
        exact (List.mem_filter.1 this).1
      have quiet : (∀ y ∈ d.tbl, app (Nat.land r.c d.effs) r.i y = true → callOp P call (lim r.ls d.s) y.H r.o = some (v, y.H)) →
          (heapFree P r.o = true → ∀ x, callOp P call (lim r.ls d.s) x r.o = some (v, x)) →
          (bif guardDst ops r.o then split v (fun v => k (d.quietly n r true v .quiet)) else k (d.quietly n r true v .quiet)) = some res →
          ∃ d', k d' = some res ∧ DOk P call ops n s0 d' ∧ FreeOf P call d'.rs ∧ d'.rs.map (·.s) = r :: d.rs.map (·.s) ∧ ∀ x ∈ d.tbl, x ∈ d'.tbl := by
        intro hq hfr hl
        have hl : k (d.quietly n r true v .quiet) = some res := by
          cases hg : guardDst ops r.o with
          | true => rw [hg] at hl; simp only [cond_true] at hl; exact split_some hl
          | false => rw [hg] at hl; exact hl
        refine ⟨_, hl, hk.quietly hn (by simp) hw (fun h => by cases h) (fun _ => hq), ?_, rfl, fun y hy => hy⟩
        intro q hq hqw hqf
        rcases List.mem_cons.1 hq with rfl | hq
        · exact ⟨by simp, hfr hqf⟩
        · exact hf q hq hqw hqf
      cases he : isEff P r.o with
      | true =>
        rw [he] at h2
        simp only [cond_true] at h2
        obtain ⟨N, g1, g2, g3, g4⟩ := effK_ok h2
        obtain ⟨g5, g6⟩ := againsK_ok hf g1
        refine ⟨_, g6, hk.loud hn hw (fun y hy => ?_) g5 (fun y hy ha => ?_), ?_, rfl, fun y hy => List.mem_append_left _ hy⟩
        · rcases g4 y hy with hy | ⟨z, hz, h3, rfl⟩
          · rw [List.mem_singleton] at hy
            exact ⟨x, inn x (.inl rfl), h', hy⟩
          · exact ⟨z, inn z (.inr hz), h3, rfl⟩
        · rcases mem y hy ha with rfl | hy
          · exact ⟨h', h1, g2 _ (List.mem_singleton.2 rfl)⟩
          · exact g3 y hy
        · intro q hq hqw hqf
          rcases List.mem_cons.1 hq with rfl | hq
          · exfalso
            revert he hqf
            obtain ⟨dst, op, ty, pos, after, guard⟩ := r.o
            cases op <;> simp [isEff, heapFree]
            rename_i c
            obtain ⟨callee, args, ats⟩ := c
            cases callee with
            | builtin b => cases b <;> simp
            | _ => simp
          · exact hf q hq hqw hqf
      | false =>
        rw [he] at h2
        simp only [cond_false] at h2
        cases hfr : heapFree P r.o with
        | true =>
          rw [hfr] at h2
          obtain ⟨e1, e2⟩ := callOp_free call _ hfr h1
          exact quiet (fun y _ _ => e2 y.H) (fun _ => e2) h2
        | false =>
          rw [hfr] at h2
          simp only [cond_false] at h2
          obtain ⟨rfl, h3⟩ := eqH_some h2
          obtain ⟨h4, h5⟩ := agreeK_ok h3
          refine quiet (fun y hy ha => ?_) (fun e => absurd e (by rw [hfr]; simp)) h5
          rcases mem y hy ha with rfl | hy
          · exact h1
          · exact h4 y hy
  · refine ⟨_, h, hk.quietly hn (by simp) hw (fun _ => rfl) (fun h => by cases h), ?_, rfl, fun y hy => hy⟩
    intro q hq hqw hqf
    rcases List.mem_cons.1 hq with rfl | hq
    · cases hqw
    · exact hf q hq hqw hqf

theorem drawsK_ok {call : CallF} {ops : Array Oper} {n : Nat} {s0 : Tr} (hn : n ≤ 4294967296) {kn : Kt} {res : AV × Heap} : ∀ {l : List Sr} {d : Dr}, DOk P call ops n s0 d → FreeOf P call d.rs → drawsK P call n ops kn l d = some res →
    ∃ d' x, d'.tbl.filter (fun x => Nat.beq x.S d'.effs) = [x] ∧ kn d'.s x.H = some res ∧ DOk P call ops n s0 d' ∧ d'.rs.map (·.s) = l.reverse ++ d.rs.map (·.s) ∧ ∀ x ∈ d.tbl, x ∈ d'.tbl
  | [], d, hk, hf, h => by
    simp only [drawsK] at h
    split at h
    · rename_i x hx
      exact ⟨d, x, hx, h, hk, rfl, fun x hx => hx⟩
    · cases h
  | r :: l, d, hk, hf, h => by
    simp only [drawsK] at h
    obtain ⟨d1, h1, h2, h3, h4, h5⟩ := dstepK_ok hn hk hf h
    obtain ⟨d', x, g1, g2, g3, g4, g5⟩ := drawsK_ok hn h2 h3 h1
    exact ⟨d', x, g1, g2, g3, by rw [g4, h4]; simp, fun y hy => g5 y (h5 y hy)⟩

end Go.Am
