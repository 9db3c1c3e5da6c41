import Derived.Test.YtkkjoomlfmofbaaGreatDoorAmJ
set_option linter.unusedSimpArgs false
set_option linter.unusedVariables false
set_option linter.unusedSectionVars false
/-! Regions that draw: the run. -/
namespace Go.Am

variable {P : Program} {T : Tr}

inductive Kd where
  | free | quiet | eff

structure Rc where
  s : Sr
  need : Nat
  e : Tr
  want : Bool
  v : AV
  k : Kd

structure En where
  S : Nat
  D : Nat
  H : Heap

structure Dr where
  s : Tr
  effs : Nat
  rs : List Rc
  tbl : List En

def app (need i : Nat) (x : En) : Bool := !(x.S.testBit i) && (Nat.beq (Nat.land need x.S) need && !(x.D.testBit i))

def behind (r : Sr) (x : En) (h : Heap) : En := ⟨Nat.lor x.S (2 ^ r.i), Nat.lor x.D r.c, h⟩

def quietAll (P : Program) (e : Operand → AV) (o : Oper) (v : AV) : List En → Bool
  | [] => true
  | x :: l => (match quietVal P e x.H o with
    | some u => same 64 u v
    | none => false) && quietAll P e o v l

def effAll (P : Program) (call : CallF) (e : Operand → AV) (r : Sr) (v : AV) : List En → Option (List En)
  | [] => some []
  | x :: l => match callOp P call e x.H r.o with
    | some (u, h) => bif same 64 u v then (effAll P call e r v l).map (behind r x h :: ·) else none
    | none => none

def obSame : AObj → AObj → Bool
  | .arr a, .arr b => Nat.beq a.sz b.sz && (a.row == b.row && (a.shared == b.shared && all2 (same 64) a.elems b.elems))
  | .dead, .dead => true
  | _, _ => false

def heapSame : Heap → Heap → Bool
  | [], [] => true
  | a :: x, b :: y => obSame a b && heapSame x y
  | _, _ => false

def recheck (P : Program) (call : CallF) (N : List En) (r : Rc) : List En → Bool
  | [] => true
  | x :: l => (!r.want || (!app r.need r.s.i x || (match r.k with
    | .free => true
    | .quiet => match quietVal P (lim r.s.ls r.e) x.H r.s.o with
      | some u => same 64 u r.v
      | none => false
    | .eff => match callOp P call (lim r.s.ls r.e) x.H r.s.o with
      | some (u, h) => same 64 u r.v && N.any fun y => Nat.beq y.S (behind r.s x h).S && (Nat.beq y.D (behind r.s x h).D && heapSame y.H h)
      | none => false))) && recheck P call N r l

def putT (n : Nat) (s : Tr) (v : AV) (d : Option Tmp) : Tr := (St.put ⟨n, s, []⟩ v d).s

def Dr.quietly (d : Dr) (n : Nat) (r : Sr) (want : Bool) (v : AV) (k : Kd) : Dr :=
  ⟨putT n d.s v r.o.dst, d.effs, ⟨r, Nat.land r.c d.effs, d.s, want, v, k⟩ :: d.rs, d.tbl⟩

def Dr.loudly (d : Dr) (n : Nat) (r : Sr) (v : AV) (N : List En) : Dr :=
  ⟨putT n d.s v r.o.dst, Nat.lor d.effs (2 ^ r.i), ⟨r, Nat.land r.c d.effs, d.s, true, v, .eff⟩ :: d.rs, d.tbl ++ N⟩

def Dr.louder (P : Program) (call : CallF) (n : Nat) (d : Dr) (r : Sr) (v : AV) (N : List En) : Option Dr :=
  if d.rs.all fun q => recheck P call N q N then some (d.loudly n r v N) else none

def dstep (P : Program) (call : CallF) (ops : Array Oper) (n : Nat) (d : Dr) (r : Sr) : Option Dr :=
  match wantedA ops ⟨n, d.s, []⟩ r.o with
  | none => none
  | some false => some (d.quietly n r false (.lit undef) .free)
  | some true =>
    match (if noHeap r.o then quietVal P (lim r.ls d.s) [] r.o else none) with
    | some v => some (d.quietly n r true v .free)
    | none => match d.tbl.filter (app (Nat.land r.c d.effs) r.i) with
      | [] => none
      | x :: l => match quietVal P (lim r.ls d.s) x.H r.o with
        | some v => if quietAll P (lim r.ls d.s) r.o v l then some (d.quietly n r true v .quiet) else none
        | none => match callOp P call (lim r.ls d.s) x.H r.o with
          | some (v, h) => match effAll P call (lim r.ls d.s) r v l with
            | some N => Dr.louder P call n d r v (behind r x h :: N)
            | none => none
          | none => none

def dsteps (P : Program) (call : CallF) (ops : Array Oper) (n : Nat) : List Sr → Dr → Option Dr
  | [], d => some d
  | r :: l, d => match dstep P call ops n d r with
    | some d' => dsteps P call ops n l d'
    | none => none

def adraw (P : Program) (call : CallF) (ops : Array Oper) (st : St) : Option St :=
  match stat ops ops.toList [] with
  | none => none
  | some rs => match dsteps P call ops st.n rs.reverse ⟨st.s, 0, [], [⟨0, 0, st.h⟩]⟩ with
    | none => none
    | some d => match d.tbl.filter fun x => Nat.beq x.S d.effs with
      | [x] => some ⟨st.n, d.s, x.H⟩
      | _ => none

/-- How a region is run. -/
def regA (P : Program) (call : CallF) (ops : Array Oper) (draw : Bool) (st : St) : Option St :=
  bif draw then adraw P call ops st else steps P call ops ops.toList st

/-! ### Equal memory -/

theorem obSame_eq {a b : AObj} (h : obSame a b = true) : a = b := by
  cases a with
  | arr a => cases b with
    | arr b =>
      simp only [obSame, Bool.and_eq_true] at h
      obtain ⟨h1, h2, h3, h4⟩ := h
      obtain ⟨a1, a2, a3, a4⟩ := a
      obtain ⟨b1, b2, b3, b4⟩ := b
      simp only at h1 h2 h3 h4
      rw [Nat.eq_of_beq_eq_true h1, eq_of_beq h2, eq_of_beq h3, all2_eq (same_eq 64) h4]
    | _ => simp [obSame] at h
  | dead => cases b with
    | dead => rfl
    | _ => simp [obSame] at h
  | _ => simp [obSame] at h

theorem heapSame_eq : ∀ {x y : Heap}, heapSame x y = true → x = y
  | [], [], _ => rfl
  | a :: x, b :: y, h => by
    simp only [heapSame, Bool.and_eq_true] at h
    rw [obSame_eq h.1, heapSame_eq h.2]
  | [], b :: y, h => by simp [heapSame] at h
  | a :: x, [], h => by simp [heapSame] at h

/-! ### Slots -/

def wr (n : Nat) (d : Option Tmp) (t : Nat) : Bool :=
  match d with
  | some d => Nat.blt d n && Nat.beq d t
  | none => false

theorem putT_get {n : Nat} (hn : n ≤ 4294967296) (s : Tr) (v : AV) (d : Option Tmp) (t : Nat) : (putT n s v d).get t = if wr n d t then v else s.get t := by
  cases d with
  | none => rfl
  | some d =>
    by_cases hd : @LT.lt Nat _ d n
    · have hw : wr n (some d) t = Nat.beq d t := by simp only [wr]; rw [bltT hd]; rfl
      have hp : putT n s v (some d) = Tr.set 64 s d v := by simp only [putT, St.put]; rw [if_pos (bltT hd)]
      rw [hw, hp, Tr.set_get 64 s d v t (by omega)]
      by_cases h : t = d
      · subst h; simp
      · have : Nat.beq d t = false := beqF (Ne.symm h)
        simp [this, h]
    · have hw : wr n (some d) t = false := by simp only [wr]; rw [bltF hd]; rfl
      have hp : putT n s v (some d) = s := by simp only [putT, St.put]; rw [if_neg (by rw [bltF hd]; simp)]
      rw [hw, hp]; simp

theorem put_eq (n : Nat) (s : Tr) (h : Heap) (v : AV) (d : Option Tmp) : St.put ⟨n, s, h⟩ v d = ⟨n, putT n s v d, h⟩ := by
  cases d with
  | none => rfl
  | some d => simp only [putT, St.put]; split <;> rfl

def W (n : Nat) (s0 : Tr) (X : Nat → Bool) : List Rc → Nat → AV
  | [], t => s0.get t
  | r :: rs, t => if (wr n r.s.o.dst t && X r.s.i) = true then r.v else W n s0 X rs t

theorem W_agree {n : Nat} {s0 : Tr} {X Y : Nat → Bool} {t : Nat} : ∀ {rs : List Rc}, (∀ r ∈ rs, wr n r.s.o.dst t = true → X r.s.i = Y r.s.i) → W n s0 X rs t = W n s0 Y rs t
  | [], _ => rfl
  | r :: rs, h => by
    simp only [W]
    rw [W_agree (rs := rs) fun q hq => h q (List.mem_cons_of_mem _ hq)]
    cases hw : wr n r.s.o.dst t with
    | false => simp
    | true => rw [h r List.mem_cons_self hw]

theorem W_skip {n : Nat} {s0 : Tr} {X : Nat → Bool} {t : Nat} {b : List Rc} : ∀ {a : List Rc}, (∀ r ∈ a, wr n r.s.o.dst t = true → X r.s.i = false) → W n s0 X (a ++ b) t = W n s0 X b t
  | [], _ => rfl
  | r :: a, h => by
    simp only [List.cons_append, W]
    rw [W_skip (a := a) fun q hq => h q (List.mem_cons_of_mem _ hq)]
    cases hw : wr n r.s.o.dst t with
    | false => simp
    | true => rw [h r List.mem_cons_self hw]; simp

/-! ### What holds of the records -/

inductive ROk (ops : Array Oper) (n : Nat) (s0 : Tr) : List Rc → Prop
  | nil : ROk ops n s0 []
  | cons {r : Rc} {rs : List Rc} : ROk ops n s0 rs → (∀ t, r.e.get t = W n s0 (fun _ => true) rs t) → wantedA ops ⟨n, r.e, []⟩ r.s.o = some r.want →
      (r.want = false → r.v = .lit undef ∧ r.k ≠ .eff) → (∀ j, r.need.testBit j = true → r.s.c.testBit j = true ∧ ∃ q ∈ rs, q.s.i = j ∧ q.k = .eff) → ROk ops n s0 (r :: rs)

structure DOk (P : Program) (call : CallF) (ops : Array Oper) (n : Nat) (s0 : Tr) (d : Dr) : Prop where
  rok : ROk ops n s0 d.rs
  sl : ∀ t, d.s.get t = W n s0 (fun _ => true) d.rs t
  ef : ∀ j, d.effs.testBit j = true → ∃ r ∈ d.rs, r.s.i = j ∧ r.k = .eff
  sub : ∀ x ∈ d.tbl, ∀ j, x.S.testBit j = true → d.effs.testBit j = true
  cl : ∀ r ∈ d.rs, r.want = true → ∀ x ∈ d.tbl, app r.need r.s.i x = true → ∃ H', callOp P call (lim r.s.ls r.e) x.H r.s.o = some (r.v, H') ∧
    ((r.k ≠ .eff ∧ H' = x.H) ∨ (r.k = .eff ∧ behind r.s x H' ∈ d.tbl))

theorem DOk.quietly {call : CallF} {ops : Array Oper} {n : Nat} {s0 : Tr} {d : Dr} (k : DOk P call ops n s0 d) (hn : n ≤ 4294967296) {r : Sr} {want : Bool} {v : AV} {kd : Kd} (hk : kd ≠ .eff)
    (hw : wantedA ops ⟨n, d.s, []⟩ r.o = some want) (hv : want = false → v = .lit undef)
    (hc : want = true → ∀ x ∈ d.tbl, app (Nat.land r.c d.effs) r.i x = true → callOp P call (lim r.ls d.s) x.H r.o = some (v, x.H)) : DOk P call ops n s0 (d.quietly n r want v kd) where
  rok := .cons k.rok k.sl hw (fun h => ⟨hv h, hk⟩) (fun j hj => by
    have hj : ((r.c &&& d.effs)).testBit j = true := hj
    rw [Nat.testBit_and, Bool.and_eq_true] at hj
    exact ⟨hj.1, k.ef j hj.2⟩)
  sl := fun t => by
    simp only [Dr.quietly]
    rw [putT_get hn]
    simp only [W, Bool.and_true]
    rw [k.sl]
  ef := fun j hj => by
    obtain ⟨q, h1, h2⟩ := k.ef j hj
    exact ⟨q, List.mem_cons_of_mem _ h1, h2⟩
  sub := k.sub
  cl := fun q hq hqw x hx ha => by
    rcases List.mem_cons.1 hq with rfl | hq
    · exact ⟨x.H, hc hqw x hx ha, .inl ⟨hk, rfl⟩⟩
    · exact k.cl q hq hqw x hx ha

theorem recheck_spec {call : CallF} {N : List En} {r : Rc} : ∀ {l : List En}, recheck P call N r l = true → r.want = true → ∀ x ∈ l, app r.need r.s.i x = true →
    (r.k = .free) ∨ (r.k = .quiet ∧ quietVal P (lim r.s.ls r.e) x.H r.s.o = some r.v) ∨ (r.k = .eff ∧ ∃ h, callOp P call (lim r.s.ls r.e) x.H r.s.o = some (r.v, h) ∧ behind r.s x h ∈ N)
  | [], _, _, x, hx, _ => by cases hx
  | y :: l, h, hw, x, hx, ha => by
    simp only [recheck, Bool.and_eq_true] at h
    rcases List.mem_cons.1 hx with rfl | hx
    · have h1 := h.1
      rw [hw, ha] at h1
      simp only [Bool.not_true, Bool.false_or] at h1
      cases hk : r.k with
      | free => exact .inl rfl
      | quiet =>
        rw [hk] at h1
        simp only at h1
        split at h1
        · rename_i u hu
          rw [same_eq _ _ _ h1] at hu
          exact .inr (.inl ⟨rfl, hu⟩)
        · cases h1
      | eff =>
        rw [hk] at h1
        simp only at h1
        split at h1
        · rename_i u hh hu
          rw [Bool.and_eq_true] at h1
          rw [same_eq _ _ _ h1.1] at hu
          obtain ⟨y, hy, he⟩ := List.any_eq_true.1 h1.2
          simp only [Bool.and_eq_true] at he
          have : y = behind r.s x hh := by
            obtain ⟨y1, y2, y3⟩ := y
            simp only at he
            rw [Nat.eq_of_beq_eq_true he.1, Nat.eq_of_beq_eq_true he.2.1, heapSame_eq he.2.2]
            rfl
          exact .inr (.inr ⟨rfl, hh, hu, this ▸ hy⟩)
        · cases h1
    · exact recheck_spec h.2 hw x hx ha

theorem behind_S {r : Sr} {x : En} {h : Heap} {j : Nat} : (behind r x h).S.testBit j = true ↔ x.S.testBit j = true ∨ r.i = j := by
  show (x.S ||| 2 ^ r.i).testBit j = true ↔ _
  rw [Nat.testBit_or, Bool.or_eq_true, Nat.testBit_two_pow]
  simp

theorem behind_D {r : Sr} {x : En} {h : Heap} {j : Nat} : (behind r x h).D.testBit j = true ↔ x.D.testBit j = true ∨ r.c.testBit j = true := by
  show (x.D ||| r.c).testBit j = true ↔ _
  rw [Nat.testBit_or, Bool.or_eq_true]

theorem DOk.loudly {call : CallF} {ops : Array Oper} {n : Nat} {s0 : Tr} {d : Dr} (k : DOk P call ops n s0 d) (hn : n ≤ 4294967296) {r : Sr} {v : AV} {N : List En}
    (free : ∀ q ∈ d.rs, q.k = .free → q.want = true → ∀ x, callOp P call (lim q.s.ls q.e) x q.s.o = some (q.v, x))
    (hw : wantedA ops ⟨n, d.s, []⟩ r.o = some true)
    (hN : ∀ y ∈ N, ∃ x ∈ d.tbl, ∃ h, y = behind r x h)
    (hre : ∀ q ∈ d.rs, recheck P call N q N = true)
    (hc : ∀ x ∈ d.tbl, app (Nat.land r.c d.effs) r.i x = true → ∃ H', callOp P call (lim r.ls d.s) x.H r.o = some (v, H') ∧ behind r x H' ∈ N) : DOk P call ops n s0 (d.loudly n r v N) where
  rok := .cons k.rok k.sl hw (fun h => by cases h) (fun j hj => by
    have hj : ((r.c &&& d.effs)).testBit j = true := hj
    rw [Nat.testBit_and, Bool.and_eq_true] at hj
    exact ⟨hj.1, k.ef j hj.2⟩)
  sl := fun t => by
    simp only [Dr.loudly]
    rw [putT_get hn]
    simp only [W, Bool.and_true]
    rw [k.sl]
  ef := fun j hj => by
    have hj : (d.effs ||| 2 ^ r.i).testBit j = true := hj
    rw [Nat.testBit_or, Bool.or_eq_true, Nat.testBit_two_pow] at hj
    rcases hj with hj | hj
    · obtain ⟨q, h1, h2⟩ := k.ef j hj
      exact ⟨q, List.mem_cons_of_mem _ h1, h2⟩
    · exact ⟨_, List.mem_cons_self, of_decide_eq_true hj, rfl⟩
  sub := fun x hx j hj => by
    show (d.effs ||| 2 ^ r.i).testBit j = true
    rw [Nat.testBit_or, Bool.or_eq_true, Nat.testBit_two_pow]
    rcases List.mem_append.1 hx with hx | hx
    · exact .inl (k.sub x hx j hj)
    · obtain ⟨x', hx', h, rfl⟩ := hN x hx
      rcases behind_S.1 hj with hj | hj
      · exact .inl (k.sub x' hx' j hj)
      · exact .inr (by simpa using hj)
  cl := fun q hq hqw x hx ha => by
    rcases List.mem_append.1 hx with hx | hx
    · rcases List.mem_cons.1 hq with rfl | hq
      · obtain ⟨H', h1, h2⟩ := hc x hx ha
        exact ⟨H', h1, .inr ⟨rfl, List.mem_append_right _ h2⟩⟩
      · obtain ⟨H', h1, h2⟩ := k.cl q hq hqw x hx ha
        exact ⟨H', h1, h2.imp id fun h => ⟨h.1, List.mem_append_left _ h.2⟩⟩
    · rcases List.mem_cons.1 hq with rfl | hq
      · obtain ⟨x', hx', h, rfl⟩ := hN x hx
        have : (behind r x' h).S.testBit r.i = true := behind_S.2 (.inr rfl)
        simp [app, this] at ha
      · rcases recheck_spec (hre q hq) hqw x hx ha with h | ⟨h, h2⟩ | ⟨h, hh, h1, h2⟩
        · exact ⟨x.H, free q hq h hqw x.H, .inl ⟨by rw [h]; exact Kd.noConfusion, rfl⟩⟩
        · exact ⟨x.H, quiet_call h2 call, .inl ⟨by rw [h]; exact Kd.noConfusion, rfl⟩⟩
        · exact ⟨hh, h1, .inr ⟨h, List.mem_append_right _ h2⟩⟩

def FreeOk (P : Program) (call : CallF) (rs : List Rc) : Prop := ∀ q ∈ rs, q.k = .free → q.want = true → ∀ x, callOp P call (lim q.s.ls q.e) x q.s.o = some (q.v, x)

theorem effAll_spec {call : CallF} {e : Operand → AV} {r : Sr} {v : AV} : ∀ {l N : List En}, effAll P call e r v l = some N →
    (∀ y ∈ N, ∃ x ∈ l, ∃ h, y = behind r x h) ∧ ∀ x ∈ l, ∃ H', callOp P call e x.H r.o = some (v, H') ∧ behind r x H' ∈ N
  | [], N, h => by
    simp only [effAll, Option.some.injEq] at h
    subst h
    exact ⟨fun y hy => (by cases hy), fun x hx => (by cases hx)⟩
  | x :: l, N, h => by
    simp only [effAll] at h
    split at h
    · rename_i u hh hc
      cases hs : same 64 u v with
      | false => rw [hs] at h; cases h
      | true =>
        rw [hs] at h
        simp only [cond_true] at h
        cases hr : effAll P call e r v l with
        | none => rw [hr] at h; cases h
        | some N' =>
          rw [hr] at h
          cases h
          obtain ⟨h1, h2⟩ := effAll_spec hr
          refine ⟨fun y hy => ?_, fun y hy => ?_⟩
          · rcases List.mem_cons.1 hy with rfl | hy
            · exact ⟨x, List.mem_cons_self, hh, rfl⟩
            · obtain ⟨x', a, b⟩ := h1 y hy
              exact ⟨x', List.mem_cons_of_mem _ a, b⟩
          · rcases List.mem_cons.1 hy with rfl | hy
            · exact ⟨hh, by rw [hc, same_eq _ _ _ hs], List.mem_cons_self⟩
            · obtain ⟨H', a, b⟩ := h2 y hy
              exact ⟨H', a, List.mem_cons_of_mem _ b⟩
    · cases h

theorem quietAll_spec {e : Operand → AV} {o : Oper} {v : AV} : ∀ {l : List En}, quietAll P e o v l = true → ∀ x ∈ l, quietVal P e x.H o = some v
  | [], _, x, hx => by cases hx
  | y :: l, h, x, hx => by
    simp only [quietAll, Bool.and_eq_true] at h
    rcases List.mem_cons.1 hx with rfl | hx
    · have h1 := h.1
      split at h1
      · rename_i u hu; rw [hu, same_eq _ _ _ h1]
      · cases h1
    · exact quietAll_spec h.2 x hx

theorem dstep_ok {call : CallF} {ops : Array Oper} {n : Nat} {s0 : Tr} (hn : n ≤ 4294967296) {d d' : Dr} {r : Sr} (h : dstep P call ops n d r = some d') (k : DOk P call ops n s0 d) (hf : FreeOk P call d.rs) :
    DOk P call ops n s0 d' ∧ FreeOk P call d'.rs ∧ d'.rs.map (·.s) = r :: d.rs.map (·.s) ∧ ∀ x ∈ d.tbl, x ∈ d'.tbl := by
  unfold dstep at h
  split at h
  · cases h
  · rename_i hw
    cases h
    refine ⟨k.quietly hn Kd.noConfusion hw (fun _ => rfl) (fun h => by cases h), ?_, rfl, fun x hx => hx⟩
    intro q hq hk hqw
    rcases List.mem_cons.1 hq with rfl | hq
    · cases hqw
    · exact hf q hq hk hqw
  · rename_i hw
    split at h
    · rename_i v hv
      cases h
      split at hv
      · rename_i hno
        have hall : ∀ x, callOp P call (lim r.ls d.s) x r.o = some (v, x) := fun x => quiet_call (by rw [quiet_noHeap hno (h := x) []]; exact hv) call
        refine ⟨k.quietly hn Kd.noConfusion hw (fun h => by cases h) (fun _ x _ _ => hall x.H), ?_, rfl, fun x hx => hx⟩
        intro q hq hk hqw
        rcases List.mem_cons.1 hq with rfl | hq
        · exact hall
        · exact hf q hq hk hqw
      · cases hv
    · split at h
      · cases h
      · rename_i x l hx
        have mem : ∀ y, y ∈ x :: l ↔ y ∈ d.tbl ∧ app (Nat.land r.c d.effs) r.i y = true := fun y => by rw [← hx, List.mem_filter]
        split at h
        · rename_i v hv
          split at h
          · rename_i hq
            cases h
            refine ⟨k.quietly hn Kd.noConfusion hw (fun h => by cases h) (fun _ y hy ha => ?_), ?_, rfl, fun x hx => hx⟩
            · rcases List.mem_cons.1 ((mem y).2 ⟨hy, ha⟩) with rfl | hy
              · exact quiet_call hv call
              · exact quiet_call (quietAll_spec hq y hy) call
            · intro q hq hk hqw
              rcases List.mem_cons.1 hq with rfl | hq
              · cases hk
              · exact hf q hq hk hqw
          · cases h
        · split at h
          · rename_i v hh hc
            split at h
            · rename_i N he
              unfold Dr.louder at h
              split at h
              · rename_i hre
                cases h
                obtain ⟨h1, h2⟩ := effAll_spec he
                refine ⟨k.loudly hn hf hw ?_ (fun q hq => List.all_eq_true.1 hre q hq) ?_, ?_, rfl, fun x hx => List.mem_append_left _ hx⟩
                · intro y hy
                  rcases List.mem_cons.1 hy with rfl | hy
                  · exact ⟨x, ((mem x).1 List.mem_cons_self).1, hh, rfl⟩
                  · obtain ⟨x', a, b⟩ := h1 y hy
                    exact ⟨x', ((mem x').1 (List.mem_cons_of_mem _ a)).1, b⟩
                · intro y hy ha
                  rcases List.mem_cons.1 ((mem y).2 ⟨hy, ha⟩) with rfl | hy
                  · exact ⟨hh, hc, List.mem_cons_self⟩
                  · obtain ⟨H', a, b⟩ := h2 y hy
                    exact ⟨H', a, List.mem_cons_of_mem _ b⟩
                · intro q hq hk hqw
                  rcases List.mem_cons.1 hq with rfl | hq
                  · cases hk
                  · exact hf q hq hk hqw
              · cases h
            · cases h
          · cases h

theorem dsteps_ok {call : CallF} {ops : Array Oper} {n : Nat} {s0 : Tr} (hn : n ≤ 4294967296) : ∀ {l : List Sr} {d d' : Dr}, dsteps P call ops n l d = some d' → DOk P call ops n s0 d → FreeOk P call d.rs →
    DOk P call ops n s0 d' ∧ d'.rs.map (·.s) = l.reverse ++ d.rs.map (·.s) ∧ ∀ x ∈ d.tbl, x ∈ d'.tbl
  | [], d, d', h, k, hf => by
    simp only [dsteps, Option.some.injEq] at h
    subst h
    exact ⟨k, rfl, fun x hx => hx⟩
  | r :: l, d, d', h, k, hf => by
    simp only [dsteps] at h
    split at h
    · rename_i d1 h1
      obtain ⟨k1, f1, m1, t1⟩ := dstep_ok hn h1 k hf
      obtain ⟨k2, m2, t2⟩ := dsteps_ok hn h k1 f1
      exact ⟨k2, by rw [m2, m1]; simp, fun x hx => t2 x (t1 x hx)⟩
    · cases h

end Go.Am
