import Derived.Test.YtcajleckiegffaaLx5
import Derived.Test.YtcajleckiegffaaGTree2
namespace Go.Proofs.Ytcajleckiegffaa
set_option linter.unusedSimpArgs false
set_option linter.unusedVariables false
open Go.Am
set_option maxRecDepth 100000

/-! ### Trees, and how they lie in values -/

inductive T where
  | mk (kind place : Nat) (text : List UInt8) (kids : List T)

mutual
inductive TreeV : AV → T → Prop
  | mk {k p : Nat} {t : List UInt8} {kv : AV} {ks : List T} : KidsV kv ks → TreeV (.agg [.lit (.int .i64 k), .lit (.int .i64 p), .lit (.string ⟨⟨t⟩⟩), kv]) (.mk k p t ks)
inductive KidsV : AV → List T → Prop
  | nil : KidsV (.lit (.slice none 0 0)) []
  | isl {f : Bool} {l : List AV} {ks : List T} : ListV l ks → KidsV (.isl 4 f l) ks
inductive ListV : List AV → List T → Prop
  | nil : ListV [] []
  | cons {v : AV} {t : T} {l : List AV} {ts : List T} : TreeV v t → ListV l ts → ListV (v :: l) (t :: ts)
end

theorem KidsV.free {kv : AV} {ks : List T} (h : KidsV kv ks) : freeCell kv = true ∧ okCell kv = true := by
  cases h <;> exact ⟨rfl, rfl⟩

theorem TreeV.cells {v : AV} {t : T} (h : TreeV v t) : free1 v = true ∧ (cellsOf v).length = 4 ∧ (cellsOf v).all okCell = true ∧ reElem (cellsOf v) = v := by
  cases h with
  | mk hk =>
    obtain ⟨h1, h2⟩ := hk.free
    refine ⟨?_, rfl, ?_, rfl⟩
    · simp [free1, freeCell] at h1 ⊢; exact h1
    · simp [cellsOf, okCell, cellOk] at h2 ⊢; exact h2

theorem snapCell_free {h : Heap} {v : AV} (hf : freeCell v = true) : snapCell h v = some (v, []) := by
  cases v <;> first | (simp [freeCell] at hf; done) | (simp only [snapCell]; rw [if_pos hf])

theorem TreeV.snap {v : AV} {t : T} (h : TreeV v t) (hp : Heap) : snap1 hp v = some (v, []) := by
  cases h with
  | mk hk =>
    simp only [snap1, snapCells, snapCell_free hk.free.1, snapCell_free (v := .lit _) rfl, Option.map_some, List.append_nil]

theorem ListV.free {l : List AV} {ts : List T} (h : ListV l ts) : l.all free1 = true := by
  induction l generalizing ts with
  | nil => rfl
  | cons v l ih =>
    cases h with
    | cons h1 h2 => rw [List.all_cons, h1.cells.1, ih h2]; rfl

theorem ListV.length {l : List AV} {ts : List T} (h : ListV l ts) : l.length = ts.length := by
  induction l generalizing ts with
  | nil => cases h; rfl
  | cons v l ih =>
    cases h with
    | cons h1 h2 => simp [ih h2]

theorem ListV.append {l l' : List AV} {ts ts' : List T} (h : ListV l ts) (h' : ListV l' ts') : ListV (l ++ l') (ts ++ ts') := by
  induction l generalizing ts with
  | nil => cases h; exact h'
  | cons v l ih =>
    cases h with
    | cons h1 h2 => exact .cons h1 (ih h2)

theorem ListV.get {l : List AV} {ts : List T} (h : ListV l ts) {i : Nat} {t : T} (ht : ts[i]? = some t) : ∃ v, l[i]? = some v ∧ TreeV v t := by
  induction l generalizing ts i with
  | nil => cases h; simp at ht
  | cons v l ih =>
    cases h with
    | cons h1 h2 =>
      cases i with
      | zero => simp at ht; subst ht; exact ⟨v, rfl, h1⟩
      | succ i => simpa using ih h2 (by simpa using ht)

/-! ### What tree.Parse answers -/

structure ParseR where
  tree : T
  err : Nat
  pos : Nat

def noTree : T := .mk 0 0 [] []

def addKid (st : List (Nat × List T)) (t : T) : List (Nat × List T) :=
  match st.getLast? with
  | some (p, ks) => st.dropLast ++ [(p, ks ++ [t])]
  | none => st

def parseM (len : Nat) : List Tok → List (Nat × List T) → List T → ParseR
  | [], st, whole => if 0 < st.length then ⟨noTree, 10, len⟩ else ⟨whole.headD noTree, 0, 0⟩
  | x :: r, st, whole =>
    if x.kind = 1 ∧ 40 ≤ st.length then ⟨noTree, 14, x.place⟩
    else if x.kind = 2 ∧ st.length = 0 then ⟨noTree, 12, x.place⟩
    else if 0 < whole.length then ⟨noTree, 11, x.place⟩
    else if x.kind = 1 then parseM len r (st ++ [(x.place, [])]) whole
    else if x.kind = 2 then
      match st.getLast? with
      | some (p, ks) => if st.dropLast.length = 0 then parseM len r st.dropLast (whole ++ [.mk 1 p [] ks]) else parseM len r (addKid st.dropLast (.mk 1 p [] ks)) whole
      | none => ⟨noTree, 12, x.place⟩
    else if st.length = 0 then parseM len r st (whole ++ [.mk x.kind x.place x.text []]) else parseM len r (addKid st (.mk x.kind x.place x.text [])) whole

/-! ### The open trees in memory -/

/-- The kids of an open tree: none yet, or a row of its own. -/
def KidsH (h : Heap) (kv : AV) (ks : List T) (o : Option Nat) : Prop := ∃ es, OwnS h kv 4 es o ∧ ListV es ks

def openCell (p : Nat) (kv : AV) : AV := .agg [.lit (.int .i64 1), .lit (.int .i64 p), .lit (.string ⟨⟨[]⟩⟩), kv]

/-- The rows of the stack, the places of their kids told. -/
inductive RowsH (h : Heap) : List AV → List (Nat × List T) → List (Option Nat) → Prop
  | nil : RowsH h [] [] []
  | snoc {cs : List AV} {st : List (Nat × List T)} {os : List (Option Nat)} {p : Nat} {kv : AV} {ks : List T} {o : Option Nat} : RowsH h cs st os → KidsH h kv ks o → RowsH h (cs ++ [openCell p kv]) (st ++ [(p, ks)]) (os ++ [o])

theorem RowsH.length {h : Heap} {cs : List AV} {st : List (Nat × List T)} {os : List (Option Nat)} (r : RowsH h cs st os) : cs.length = st.length ∧ os.length = st.length := by
  induction r with
  | nil => exact ⟨rfl, rfl⟩
  | snoc _ _ ih => simp [ih.1, ih.2]

theorem OwnS.mono {h h' : Heap} {v : AV} {sz : Nat} {es : List AV} {o : Option Nat} (k : OwnS h v sz es o) (hh : ∀ id, o = some id → h'[id]? = h[id]?) : OwnS h' v sz es o := by
  cases o with
  | none => exact k
  | some id => exact ⟨k.1, by rw [hh id rfl]; exact k.2⟩

theorem KidsH.mono {h h' : Heap} {kv : AV} {ks : List T} {o : Option Nat} (k : KidsH h kv ks o) (hh : ∀ id, o = some id → h'[id]? = h[id]?) : KidsH h' kv ks o := by
  obtain ⟨es, h1, h2⟩ := k
  exact ⟨es, OwnS.mono h1 hh, h2⟩

theorem RowsH.mono {h h' : Heap} {cs : List AV} {st : List (Nat × List T)} {os : List (Option Nat)} (r : RowsH h cs st os) (hh : ∀ id, some id ∈ os → h'[id]? = h[id]?) : RowsH h' cs st os := by
  induction r with
  | nil => exact .nil
  | snoc r k ih => exact .snoc (ih fun id hid => hh id (List.mem_append_left _ hid)) (k.mono fun id e => hh id (by subst e; simp))

theorem RowsH.lt {h : Heap} {cs : List AV} {st : List (Nat × List T)} {os : List (Option Nat)} (r : RowsH h cs st os) : ∀ id, some id ∈ os → id < h.length := by
  induction r with
  | nil => intro id h; cases h
  | snoc r k ih =>
    intro id hid
    rcases List.mem_append.1 hid with h1 | h1
    · exact ih id h1
    · rw [List.mem_singleton] at h1
      subst h1
      obtain ⟨es, h2, _⟩ := k
      exact OwnS.lt h2

/-- The stack of open trees. -/
def OpenS (h : Heap) (v : AV) (st : List (Nat × List T)) (os : List (Option Nat)) : Option Nat → Prop
  | none => v = .lit (.slice none 0 0) ∧ st = [] ∧ os = []
  | some id => ∃ cs junk, v = .sl id 0 cs.length false ∧ h[id]? = some (.arr ⟨4, true, false, cs ++ junk⟩) ∧ RowsH h cs st os

theorem OpenS.len {h : Heap} {v : AV} {st : List (Nat × List T)} {os : List (Option Nat)} {o : Option Nat} (w : OpenS h v st os o) : lenS v = some (.lit (.int .i64 st.length)) := by
  cases o with
  | none => obtain ⟨rfl, rfl, _⟩ := w; rfl
  | some id =>
    obtain ⟨cs, junk, rfl, _, hr⟩ := w
    rw [← hr.length.1]; rfl

/-- All that the loop holds. -/
structure PInv (h : Heap) (b : Nat) (v8 v9 : AV) (st : List (Nat × List T)) (whole : List T) (o8 o9 : Option Nat) (os : List (Option Nat)) (i : Nat) : Prop where
  box : h[b]? = some (.arr ⟨4, false, false, [.agg [.lit (.int .i64 0), .lit (.int .i64 0), .lit (.string ⟨⟨[]⟩⟩), .lit (.slice none 0 0)]]⟩)
  stack : OpenS h v8 st os o8
  wh : ∃ ws, OwnS h v9 4 ws o9 ∧ ListV ws whole
  n1 : ∀ id, o8 = some id → id ≠ b ∧ o9 ≠ some id ∧ some id ∉ os
  n2 : ∀ id, o9 = some id → id ≠ b ∧ some id ∉ os
  n3 : some b ∉ os
  n4 : os.Pairwise (fun a b => ∀ id, a = some id → b ≠ some id)
  s1 : st.length ≤ i
  s2 : ∀ x ∈ st, x.2.length ≤ i
  s3 : whole.length ≤ i

theorem OpenS.mono {h h' : Heap} {v : AV} {st : List (Nat × List T)} {os : List (Option Nat)} {o : Option Nat} (w : OpenS h v st os o) (hh : ∀ id, o = some id ∨ some id ∈ os → h'[id]? = h[id]?) : OpenS h' v st os o := by
  cases o with
  | none => exact w
  | some id =>
    obtain ⟨cs, junk, h1, h2, h3⟩ := w
    exact ⟨cs, junk, h1, by rw [hh id (.inl rfl)]; exact h2, h3.mono fun j hj => hh j (.inr hj)⟩

theorem OpenS.lt {h : Heap} {v : AV} {st : List (Nat × List T)} {os : List (Option Nat)} {o : Option Nat} (w : OpenS h v st os o) : ∀ id, o = some id ∨ some id ∈ os → id < h.length := by
  cases o with
  | none =>
    obtain ⟨_, _, rfl⟩ := w
    intro id hid
    rcases hid with h | h <;> cases h
  | some j =>
    obtain ⟨cs, junk, _, h2, h3⟩ := w
    intro id hid
    rcases hid with h | h
    · cases h; exact (List.getElem?_eq_some_iff.1 h2).1
    · exact h3.lt id h

/-- The places of memory that the loop holds. -/
def Held (b : Nat) (o8 o9 : Option Nat) (os : List (Option Nat)) (id : Nat) : Prop := id = b ∨ o8 = some id ∨ o9 = some id ∨ some id ∈ os

theorem PInv.lt {h : Heap} {b : Nat} {v8 v9 : AV} {st : List (Nat × List T)} {whole : List T} {o8 o9 : Option Nat} {os : List (Option Nat)} {i : Nat} (p : PInv h b v8 v9 st whole o8 o9 os i) {id : Nat} (hid : Held b o8 o9 os id) : id < h.length := by
  rcases hid with rfl | h1 | h1 | h1
  · exact (List.getElem?_eq_some_iff.1 p.box).1
  · exact p.stack.lt id (.inl h1)
  · obtain ⟨ws, hw, _⟩ := p.wh
    subst h1
    exact OwnS.lt hw
  · exact p.stack.lt id (.inr h1)

theorem PInv.mono {h h' : Heap} {b : Nat} {v8 v9 : AV} {st : List (Nat × List T)} {whole : List T} {o8 o9 : Option Nat} {os : List (Option Nat)} {i j : Nat} (p : PInv h b v8 v9 st whole o8 o9 os i) (hij : i ≤ j) (hh : ∀ id, Held b o8 o9 os id → h'[id]? = h[id]?) : PInv h' b v8 v9 st whole o8 o9 os j where
  box := by rw [hh b (.inl rfl)]; exact p.box
  stack := p.stack.mono fun id hid => hh id (by rcases hid with h | h; exact .inr (.inl h); exact .inr (.inr (.inr h)))
  wh := by
    obtain ⟨ws, h1, h2⟩ := p.wh
    exact ⟨ws, OwnS.mono h1 fun id e => hh id (.inr (.inr (.inl e))), h2⟩
  n1 := p.n1
  n2 := p.n2
  n3 := p.n3
  n4 := p.n4
  s1 := Nat.le_trans p.s1 hij
  s2 := fun x hx => Nat.le_trans (p.s2 x hx) hij
  s3 := Nat.le_trans p.s3 hij

/-- More memory behind changes nothing of it. -/
theorem PInv.more {h : Heap} {b : Nat} {v8 v9 : AV} {st : List (Nat × List T)} {whole : List T} {o8 o9 : Option Nat} {os : List (Option Nat)} {i : Nat} (p : PInv h b v8 v9 st whole o8 o9 os i) (x : List AObj) : PInv (h ++ x) b v8 v9 st whole o8 o9 os i :=
  p.mono (Nat.le_refl _) fun id hid => List.getElem?_append_left (p.lt hid)

def zeroT4 : AV := .agg [.lit (.int .i64 0), .lit (.int .i64 0), .lit (.string ⟨⟨[]⟩⟩), .lit (.slice none 0 0)]

theorem kill_get {h : Heap} {o : Option Nat} {id : Nat} (hne : o ≠ some id) (hl : id < h.length) (y : List AObj) : (kill h o ++ y)[id]? = h[id]? := by
  rw [List.getElem?_append_left (by rw [kill_length]; exact hl)]
  cases o with
  | none => rfl
  | some j => simp only [kill]; rw [List.getElem?_set_ne (fun e => hne (by rw [e]))]

/-- A new open tree on the stack. -/
theorem PInv.push {h : Heap} {b : Nat} {v8 v9 : AV} {st : List (Nat × List T)} {whole : List T} {o8 o9 : Option Nat} {os : List (Option Nat)} {i : Nat} (p : PInv h b v8 v9 st whole o8 o9 os i) (hi : i ≤ 1000000) (pl : Nat) :
    ∃ v8' h', appendX 4 56 v8 (.isl 4 true [openCell pl (.lit (.slice none 0 0))]) h = some (v8', h') ∧ PInv h' b v8' v9 (st ++ [(pl, [])]) whole (some h.length) o9 (os ++ [none]) (i + 1) := by
  have hs1 := p.s1
  have fr : ∀ (y : List AObj) id, Held b o8 o9 os id → o8 ≠ some id → (kill h o8 ++ y)[id]? = h[id]? := fun y id hid hne => kill_get hne (p.lt hid) y
  have key : ∀ cs, RowsH h cs st os → PInv (kill h o8 ++ [.arr ⟨4, true, false, cs ++ [openCell pl (.lit (.slice none 0 0))]⟩]) b (.sl h.length 0 (st.length + 1) false) v9 (st ++ [(pl, [])]) whole (some h.length) o9 (os ++ [none]) (i + 1) := by
    intro cs hr
    have hne : ∀ id, some id ∈ os → o8 ≠ some id := fun id hid e => (p.n1 id e).2.2 hid
    refine ⟨?_, ?_, ?_, ?_, ?_, ?_, ?_, ?_, ?_, ?_⟩
    · rw [fr _ b (.inl rfl) (fun e => (p.n1 b e).1 rfl)]; exact p.box
    · refine ⟨cs ++ [openCell pl (.lit (.slice none 0 0))], [], by simp [hr.length.1], ?_, ?_⟩
      · rw [List.getElem?_append_right (by rw [kill_length]; exact Nat.le_refl _), kill_length]; simp
      · refine .snoc (hr.mono fun id hid => fr _ id (.inr (.inr (.inr hid))) (hne id hid)) ⟨[], ⟨rfl, rfl⟩, .nil⟩
    · obtain ⟨ws, h1, h2⟩ := p.wh
      exact ⟨ws, OwnS.mono h1 fun id e => fr _ id (.inr (.inr (.inl e))) (fun e2 => (p.n1 id e2).2.1 e), h2⟩
    · intro id e
      cases e
      refine ⟨fun e => ?_, fun e => ?_, fun e => ?_⟩
      · have := p.lt (.inl rfl : Held b o8 o9 os b); omega
      · have := p.lt (.inr (.inr (.inl e)) : Held b o8 o9 os h.length); omega
      · rcases List.mem_append.1 e with e | e
        · have := p.lt (.inr (.inr (.inr e)) : Held b o8 o9 os h.length); omega
        · simp at e
    · intro id e
      exact ⟨(p.n2 id e).1, fun e2 => by
        rcases List.mem_append.1 e2 with e2 | e2
        · exact (p.n2 id e).2 e2
        · simp at e2⟩
    · intro e
      rcases List.mem_append.1 e with e | e
      · exact p.n3 e
      · simp at e
    · rw [List.pairwise_append]
      refine ⟨p.n4, by simp, fun a ha c hc id e => ?_⟩
      rw [List.mem_singleton] at hc
      subst hc; simp
    · simp; omega
    · intro x hx
      rcases List.mem_append.1 hx with hx | hx
      · have := p.s2 x hx; omega
      · rw [List.mem_singleton] at hx; subst hx; simp
    · have := p.s3; omega
  have w := p.stack
  revert key w
  cases o8 with
  | none =>
    intro key w
    obtain ⟨rfl, rfl, rfl⟩ := w
    exact ⟨_, _, OwnS.append (o := none) ⟨rfl, rfl⟩ (by simp) (by simp), key [] .nil⟩
  | some id =>
    intro key w
    obtain ⟨cs, junk, rfl, h2, hr⟩ := w
    have hl := hr.length.1
    refine ⟨.sl h.length 0 (st.length + 1) false, _, ?_, key cs hr⟩
    unfold appendX
    rw [elems_isl]
    simp only [List.isEmpty_cons, Bool.false_eq_true, if_false, h2]
    rw [if_pos ⟨trivial, by simp, by simp [roomy]; omega⟩]
    simp [kill, hl]

end Go.Proofs.Ytcajleckiegffaa
