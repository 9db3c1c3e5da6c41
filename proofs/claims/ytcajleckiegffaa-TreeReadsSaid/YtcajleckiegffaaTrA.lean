import Derived.Test.YtcajleckiegffaaLxA
import Derived.Test.YtcajleckiegffaaGTree2
import Derived.Test.YtcajleckiegffaaAmN
import Derived.Test.YtcajleckiegffaaShelf
set_option linter.unusedSectionVars false
namespace Go.Proofs.Ytcajleckiegffaa
set_option linter.unusedSimpArgs false
set_option linter.unusedVariables false
open Go.Am
set_option maxRecDepth 100000

/-! ### Trees, and how they lie in values -/

inductive T where
  | mk (kind place : Nat) (text : List UInt8) (kids : List T)

mutual
inductive TreeV : AV → T → Prop
  | mk {k p : Nat} {t : List UInt8} {kv : AV} {ks : List T} : KidsV kv ks → TreeV (.agg [.lit (.int .i64 k), .lit (.int .i64 p), .lit (.string ⟨⟨t⟩⟩), kv]) (.mk k p t ks)
inductive KidsV : AV → List T → Prop
  | nil : KidsV (.lit (.slice none 0 0)) []
  | isl {f : Bool} {l : List AV} {ks : List T} : ListV l ks → KidsV (.isl 4 f l) ks
inductive ListV : List AV → List T → Prop
  | nil : ListV [] []
  | cons {v : AV} {t : T} {l : List AV} {ts : List T} : TreeV v t → ListV l ts → ListV (v :: l) (t :: ts)
end

theorem KidsV.free {kv : AV} {ks : List T} (h : KidsV kv ks) : freeCell kv = true ∧ okCell kv = true := by
  cases h <;> exact ⟨rfl, rfl⟩

theorem TreeV.cells {v : AV} {t : T} (h : TreeV v t) : free1 v = true ∧ (cellsOf v).length = 4 ∧ (cellsOf v).all okCell = true ∧ reElem (cellsOf v) = v := by
  cases h with
  | mk hk =>
    obtain ⟨h1, h2⟩ := hk.free
    refine ⟨?_, rfl, ?_, rfl⟩
    · simp [free1, freeCell] at h1 ⊢; exact h1
    · simp [cellsOf, okCell, cellOk] at h2 ⊢; exact h2

theorem snapCell_free {h : Heap} {v : AV} (hf : freeCell v = true) : snapCell h v = some (v, []) := by
  cases v <;> first | (simp [freeCell] at hf; done) | (simp only [snapCell]; rw [if_pos hf])

theorem TreeV.snap {v : AV} {t : T} (h : TreeV v t) (hp : Heap) : snap1 hp v = some (v, []) := by
  cases h with
  | mk hk =>
    simp only [snap1, snapCells, snapCell_free hk.free.1, snapCell_free (v := .lit _) rfl, Option.map_some, List.append_nil]

theorem ListV.free {l : List AV} {ts : List T} (h : ListV l ts) : l.all free1 = true := by
  induction l generalizing ts with
  | nil => rfl
  | cons v l ih =>
    cases h with
    | cons h1 h2 => rw [List.all_cons, h1.cells.1, ih h2]; rfl

theorem ListV.length {l : List AV} {ts : List T} (h : ListV l ts) : l.length = ts.length := by
  induction l generalizing ts with
  | nil => cases h; rfl
  | cons v l ih =>
    cases h with
    | cons h1 h2 => simp [ih h2]

theorem ListV.append {l l' : List AV} {ts ts' : List T} (h : ListV l ts) (h' : ListV l' ts') : ListV (l ++ l') (ts ++ ts') := by
  induction l generalizing ts with
  | nil => cases h; exact h'
  | cons v l ih =>
    cases h with
    | cons h1 h2 => exact .cons h1 (ih h2)

theorem ListV.get {l : List AV} {ts : List T} (h : ListV l ts) {i : Nat} {t : T} (ht : ts[i]? = some t) : ∃ v, l[i]? = some v ∧ TreeV v t := by
  induction l generalizing ts i with
  | nil => cases h; simp at ht
  | cons v l ih =>
    cases h with
    | cons h1 h2 =>
      cases i with
      | zero => simp at ht; subst ht; exact ⟨v, rfl, h1⟩
      | succ i => simpa using ih h2 (by simpa using ht)

/-! ### What tree.Parse answers -/

structure ParseR where
  tree : T
  err : Nat
  pos : Nat

def noTree : T := .mk 0 0 [] []

def addKid (st : List (Nat × List T)) (t : T) : List (Nat × List T) :=
  match st.getLast? with
  | some (p, ks) => st.dropLast ++ [(p, ks ++ [t])]
  | none => st

def parseM (len : Nat) : List Tok → List (Nat × List T) → List T → ParseR
  | [], st, whole => if 0 < st.length then ⟨noTree, 10, len⟩ else ⟨whole.headD noTree, 0, 0⟩
  | x :: r, st, whole =>
    if x.kind = 1 ∧ 40 ≤ st.length then ⟨noTree, 14, x.place⟩
    else if x.kind = 2 ∧ st.length = 0 then ⟨noTree, 12, x.place⟩
    else if 0 < whole.length then ⟨noTree, 11, x.place⟩
    else if x.kind = 1 then parseM len r (st ++ [(x.place, [])]) whole
    else if x.kind = 2 then
      match st.getLast? with
      | some (p, ks) => if st.dropLast.length = 0 then parseM len r st.dropLast (whole ++ [.mk 1 p [] ks]) else parseM len r (addKid st.dropLast (.mk 1 p [] ks)) whole
      | none => ⟨noTree, 12, x.place⟩
    else if st.length = 0 then parseM len r st (whole ++ [.mk x.kind x.place x.text []]) else parseM len r (addKid st (.mk x.kind x.place x.text [])) whole

/-! ### The open trees in memory -/

/-- The kids of an open tree: none yet, or a row of its own. -/
def KidsH (h : Heap) (kv : AV) (ks : List T) (o : Option Nat) : Prop := ∃ es, OwnS h kv 4 es o ∧ ListV es ks

def openCell (p : Nat) (kv : AV) : AV := .agg [.lit (.int .i64 1), .lit (.int .i64 p), .lit (.string ⟨⟨[]⟩⟩), kv]

/-- The rows of the stack, the places of their kids told. -/
inductive RowsH (h : Heap) : List AV → List (Nat × List T) → List (Option Nat) → Prop
  | nil : RowsH h [] [] []
  | snoc {cs : List AV} {st : List (Nat × List T)} {os : List (Option Nat)} {p : Nat} {kv : AV} {ks : List T} {o : Option Nat} : RowsH h cs st os → KidsH h kv ks o → RowsH h (cs ++ [openCell p kv]) (st ++ [(p, ks)]) (os ++ [o])

theorem RowsH.length {h : Heap} {cs : List AV} {st : List (Nat × List T)} {os : List (Option Nat)} (r : RowsH h cs st os) : cs.length = st.length ∧ os.length = st.length := by
  induction r with
  | nil => exact ⟨rfl, rfl⟩
  | snoc _ _ ih => simp [ih.1, ih.2]

theorem OwnS.mono {h h' : Heap} {v : AV} {sz : Nat} {es : List AV} {o : Option Nat} (k : OwnS h v sz es o) (hh : ∀ id, o = some id → h'[id]? = h[id]?) : OwnS h' v sz es o := by
  cases o with
  | none => exact k
  | some id => exact ⟨k.1, by rw [hh id rfl]; exact k.2⟩

theorem KidsH.mono {h h' : Heap} {kv : AV} {ks : List T} {o : Option Nat} (k : KidsH h kv ks o) (hh : ∀ id, o = some id → h'[id]? = h[id]?) : KidsH h' kv ks o := by
  obtain ⟨es, h1, h2⟩ := k
  exact ⟨es, OwnS.mono h1 hh, h2⟩

theorem RowsH.mono {h h' : Heap} {cs : List AV} {st : List (Nat × List T)} {os : List (Option Nat)} (r : RowsH h cs st os) (hh : ∀ id, some id ∈ os → h'[id]? = h[id]?) : RowsH h' cs st os := by
  induction r with
  | nil => exact .nil
  | snoc r k ih => exact .snoc (ih fun id hid => hh id (List.mem_append_left _ hid)) (k.mono fun id e => hh id (by subst e; simp))

theorem RowsH.lt {h : Heap} {cs : List AV} {st : List (Nat × List T)} {os : List (Option Nat)} (r : RowsH h cs st os) : ∀ id, some id ∈ os → id < h.length := by
  induction r with
  | nil => intro id h; cases h
  | snoc r k ih =>
    intro id hid
    rcases List.mem_append.1 hid with h1 | h1
    · exact ih id h1
    · rw [List.mem_singleton] at h1
      subst h1
      obtain ⟨es, h2, _⟩ := k
      exact OwnS.lt h2

/-- The stack of open trees. -/
def OpenS (h : Heap) (v : AV) (st : List (Nat × List T)) (os : List (Option Nat)) : Option Nat → Prop
  | none => v = .lit (.slice none 0 0) ∧ st = [] ∧ os = []
  | some id => ∃ cs junk, v = .sl id 0 cs.length false ∧ h[id]? = some (.arr ⟨4, true, false, cs ++ junk⟩) ∧ RowsH h cs st os

theorem OpenS.len {h : Heap} {v : AV} {st : List (Nat × List T)} {os : List (Option Nat)} {o : Option Nat} (w : OpenS h v st os o) : lenS v = some (.lit (.int .i64 st.length)) := by
  cases o with
  | none => obtain ⟨rfl, rfl, _⟩ := w; rfl
  | some id =>
    obtain ⟨cs, junk, rfl, _, hr⟩ := w
    rw [← hr.length.1]; rfl

/-- All that the loop holds. -/
structure PInv (h : Heap) (b : Nat) (v8 v9 : AV) (st : List (Nat × List T)) (whole : List T) (o8 o9 : Option Nat) (os : List (Option Nat)) (i : Nat) : Prop where
  box : h[b]? = some (.arr ⟨4, false, false, [.agg [.lit (.int .i64 0), .lit (.int .i64 0), .lit (.string ⟨⟨[]⟩⟩), .lit (.slice none 0 0)]]⟩)
  stack : OpenS h v8 st os o8
  wh : ∃ ws, OwnS h v9 4 ws o9 ∧ ListV ws whole
  n1 : ∀ id, o8 = some id → id ≠ b ∧ o9 ≠ some id ∧ some id ∉ os
  n2 : ∀ id, o9 = some id → id ≠ b ∧ some id ∉ os
  n3 : some b ∉ os
  n4 : os.Pairwise (fun a b => ∀ id, a = some id → b ≠ some id)
  s1 : st.length ≤ i
  s2 : ∀ x ∈ st, x.2.length ≤ i
  s3 : whole.length ≤ i

theorem OpenS.mono {h h' : Heap} {v : AV} {st : List (Nat × List T)} {os : List (Option Nat)} {o : Option Nat} (w : OpenS h v st os o) (hh : ∀ id, o = some id ∨ some id ∈ os → h'[id]? = h[id]?) : OpenS h' v st os o := by
  cases o with
  | none => exact w
  | some id =>
    obtain ⟨cs, junk, h1, h2, h3⟩ := w
    exact ⟨cs, junk, h1, by rw [hh id (.inl rfl)]; exact h2, h3.mono fun j hj => hh j (.inr hj)⟩

theorem OpenS.lt {h : Heap} {v : AV} {st : List (Nat × List T)} {os : List (Option Nat)} {o : Option Nat} (w : OpenS h v st os o) : ∀ id, o = some id ∨ some id ∈ os → id < h.length := by
  cases o with
  | none =>
    obtain ⟨_, _, rfl⟩ := w
    intro id hid
    rcases hid with h | h <;> cases h
  | some j =>
    obtain ⟨cs, junk, _, h2, h3⟩ := w
    intro id hid
    rcases hid with h | h
    · cases h; exact (List.getElem?_eq_some_iff.1 h2).1
    · exact h3.lt id h

/-- The places of memory that the loop holds. -/
def Held (b : Nat) (o8 o9 : Option Nat) (os : List (Option Nat)) (id : Nat) : Prop := id = b ∨ o8 = some id ∨ o9 = some id ∨ some id ∈ os

theorem PInv.lt {h : Heap} {b : Nat} {v8 v9 : AV} {st : List (Nat × List T)} {whole : List T} {o8 o9 : Option Nat} {os : List (Option Nat)} {i : Nat} (p : PInv h b v8 v9 st whole o8 o9 os i) {id : Nat} (hid : Held b o8 o9 os id) : id < h.length := by
  rcases hid with rfl | h1 | h1 | h1
  · exact (List.getElem?_eq_some_iff.1 p.box).1
  · exact p.stack.lt id (.inl h1)
  · obtain ⟨ws, hw, _⟩ := p.wh
    subst h1
    exact OwnS.lt hw
  · exact p.stack.lt id (.inr h1)

theorem PInv.mono {h h' : Heap} {b : Nat} {v8 v9 : AV} {st : List (Nat × List T)} {whole : List T} {o8 o9 : Option Nat} {os : List (Option Nat)} {i j : Nat} (p : PInv h b v8 v9 st whole o8 o9 os i) (hij : i ≤ j) (hh : ∀ id, Held b o8 o9 os id → h'[id]? = h[id]?) : PInv h' b v8 v9 st whole o8 o9 os j where
  box := by rw [hh b (.inl rfl)]; exact p.box
  stack := p.stack.mono fun id hid => hh id (by rcases hid with h | h; exact .inr (.inl h); exact .inr (.inr (.inr h)))
  wh := by
    obtain ⟨ws, h1, h2⟩ := p.wh
    exact ⟨ws, OwnS.mono h1 fun id e => hh id (.inr (.inr (.inl e))), h2⟩
  n1 := p.n1
  n2 := p.n2
  n3 := p.n3
  n4 := p.n4
  s1 := Nat.le_trans p.s1 hij
  s2 := fun x hx => Nat.le_trans (p.s2 x hx) hij
  s3 := Nat.le_trans p.s3 hij

/-- More memory behind changes nothing of it. -/
theorem PInv.more {h : Heap} {b : Nat} {v8 v9 : AV} {st : List (Nat × List T)} {whole : List T} {o8 o9 : Option Nat} {os : List (Option Nat)} {i : Nat} (p : PInv h b v8 v9 st whole o8 o9 os i) (x : List AObj) : PInv (h ++ x) b v8 v9 st whole o8 o9 os i :=
  p.mono (Nat.le_refl _) fun id hid => List.getElem?_append_left (p.lt hid)

def zeroT4 : AV := .agg [.lit (.int .i64 0), .lit (.int .i64 0), .lit (.string ⟨⟨[]⟩⟩), .lit (.slice none 0 0)]

theorem kill_get {h : Heap} {o : Option Nat} {id : Nat} (hne : o ≠ some id) (hl : id < h.length) (y : List AObj) : (kill h o ++ y)[id]? = h[id]? := by
  rw [List.getElem?_append_left (by rw [kill_length]; exact hl)]
  cases o with
  | none => rfl
  | some j => simp only [kill]; rw [List.getElem?_set_ne (fun e => hne (by rw [e]))]

/-- A new open tree on the stack. -/
theorem PInv.push {h : Heap} {b : Nat} {v8 v9 : AV} {st : List (Nat × List T)} {whole : List T} {o8 o9 : Option Nat} {os : List (Option Nat)} {i : Nat} (p : PInv h b v8 v9 st whole o8 o9 os i) (hi : i ≤ 1000000) (pl : Nat) :
    ∃ v8' h', appendX 4 56 v8 (.isl 4 true [openCell pl (.lit (.slice none 0 0))]) h = some (v8', h') ∧ PInv h' b v8' v9 (st ++ [(pl, [])]) whole (some h.length) o9 (os ++ [none]) (i + 1) := by
  have hs1 := p.s1
  have fr : ∀ (y : List AObj) id, Held b o8 o9 os id → o8 ≠ some id → (kill h o8 ++ y)[id]? = h[id]? := fun y id hid hne => kill_get hne (p.lt hid) y
  have key : ∀ cs, RowsH h cs st os → PInv (kill h o8 ++ [.arr ⟨4, true, false, cs ++ [openCell pl (.lit (.slice none 0 0))]⟩]) b (.sl h.length 0 (st.length + 1) false) v9 (st ++ [(pl, [])]) whole (some h.length) o9 (os ++ [none]) (i + 1) := by
    intro cs hr
    have hne : ∀ id, some id ∈ os → o8 ≠ some id := fun id hid e => (p.n1 id e).2.2 hid
    refine ⟨?_, ?_, ?_, ?_, ?_, ?_, ?_, ?_, ?_, ?_⟩
    · rw [fr _ b (.inl rfl) (fun e => (p.n1 b e).1 rfl)]; exact p.box
    · refine ⟨cs ++ [openCell pl (.lit (.slice none 0 0))], [], by simp [hr.length.1], ?_, ?_⟩
      · rw [List.getElem?_append_right (by rw [kill_length]; exact Nat.le_refl _), kill_length]; simp
      · refine .snoc (hr.mono fun id hid => fr _ id (.inr (.inr (.inr hid))) (hne id hid)) ⟨[], ⟨rfl, rfl⟩, .nil⟩
    · obtain ⟨ws, h1, h2⟩ := p.wh
      exact ⟨ws, OwnS.mono h1 fun id e => fr _ id (.inr (.inr (.inl e))) (fun e2 => (p.n1 id e2).2.1 e), h2⟩
    · intro id e
      cases e
      refine ⟨fun e => ?_, fun e => ?_, fun e => ?_⟩
      · have := p.lt (.inl rfl : Held b o8 o9 os b); omega
      · have := p.lt (.inr (.inr (.inl e)) : Held b o8 o9 os h.length); omega
      · rcases List.mem_append.1 e with e | e
        · have := p.lt (.inr (.inr (.inr e)) : Held b o8 o9 os h.length); omega
        · simp at e
    · intro id e
      exact ⟨(p.n2 id e).1, fun e2 => by
        rcases List.mem_append.1 e2 with e2 | e2
        · exact (p.n2 id e).2 e2
        · simp at e2⟩
    · intro e
      rcases List.mem_append.1 e with e | e
      · exact p.n3 e
      · simp at e
    · rw [List.pairwise_append]
      refine ⟨p.n4, by simp, fun a ha c hc id e => ?_⟩
      rw [List.mem_singleton] at hc
      subst hc; simp
    · simp; omega
    · intro x hx
      rcases List.mem_append.1 hx with hx | hx
      · have := p.s2 x hx; omega
      · rw [List.mem_singleton] at hx; subst hx; simp
    · have := p.s3; omega
  have w := p.stack
  revert key w
  cases o8 with
  | none =>
    intro key w
    obtain ⟨rfl, rfl, rfl⟩ := w
    exact ⟨_, _, OwnS.append (o := none) ⟨rfl, rfl⟩ (by simp) (by simp), key [] .nil⟩
  | some id =>
    intro key w
    obtain ⟨cs, junk, rfl, h2, hr⟩ := w
    have hl := hr.length.1
    refine ⟨.sl h.length 0 (st.length + 1) false, _, ?_, key cs hr⟩
    unfold appendX
    rw [elems_isl]
    simp only [List.isEmpty_cons, Bool.false_eq_true, if_false, h2]
    rw [if_pos ⟨trivial, by simp, by simp [roomy]; omega⟩]
    simp [kill, hl]

end Go.Proofs.Ytcajleckiegffaa

namespace Go.Proofs.Ytcajleckiegffaa
set_option linter.unusedSimpArgs false
set_option linter.unusedVariables false
open Go.Am
set_option maxRecDepth 100000

theorem RowsH.inv {h : Heap} {cs : List AV} {st st0 : List (Nat × List T)} {os : List (Option Nat)} {pl : Nat} {ks : List T} (r : RowsH h cs st os) (e : st = st0 ++ [(pl, ks)]) :
    ∃ cs0 os0 kv o, cs = cs0 ++ [openCell pl kv] ∧ os = os0 ++ [o] ∧ RowsH h cs0 st0 os0 ∧ KidsH h kv ks o := by
  cases r with
  | nil => cases st0 <;> cases e
  | @snoc cs0 st1 os0 p kv ks' o r k =>
    obtain ⟨h1, h2⟩ := List.append_inj' e rfl
    cases h2
    subst h1
    exact ⟨cs0, os0, kv, o, rfl, rfl, r, k⟩

/-- A tree that is whole: how it reads when it is put into a row; what of memory it takes along. -/
structure Done (h : Heap) (c : AV) (t : T) (ids : List Nat) : Prop where
  ex : ∃ v, snap1 h c = some (v, ids) ∧ TreeV v t
  len : (cellsOf c).length = 4
  ok : (cellsOf c).all okCell = true
  re : reElem (cellsOf c) = c

theorem mark_get {ids : List Nat} {i : Nat} (hi : i ∉ ids) : ∀ (h : Heap), (Am.mark ids h)[i]? = h[i]? := by
  induction ids with
  | nil => intro h; rfl
  | cons j ids ih =>
    intro h
    rw [List.mem_cons, not_or] at hi
    show (Am.mark ids (h.modify j share))[i]? = _
    rw [ih hi.2, List.getElem?_modify]
    have hne : ¬ j = i := fun e => hi.1 e.symm
    cases h[i]? <;> simp [hne]

theorem mark_len (ids : List Nat) : ∀ (h : Heap), (Am.mark ids h).length = h.length := by
  induction ids with
  | nil => intro h; rfl
  | cons j ids ih => intro h; show (Am.mark ids (h.modify j share)).length = _; rw [ih]; simp

theorem mark_set {ids : List Nat} {i : Nat} (hi : i ∉ ids) (x : AObj) : ∀ (h : Heap), Am.mark ids (h.set i x) = (Am.mark ids h).set i x := by
  induction ids with
  | nil => intro h; rfl
  | cons j ids ih =>
    intro h
    rw [List.mem_cons, not_or] at hi
    show Am.mark ids ((h.set i x).modify j share) = (Am.mark ids (h.modify j share)).set i x
    rw [← ih hi.2]
    congr 1
    apply List.ext_getElem?
    intro k
    have hne : ¬ j = i := fun e => hi.1 e.symm
    rw [List.getElem?_modify, List.getElem?_set, List.getElem?_set, List.getElem?_modify]
    by_cases h1 : i = k
    · subst h1
      simp only [if_true, List.length_modify, if_neg hne]
      split <;> rfl
    · rw [if_neg h1, if_neg h1]

theorem snapCell_agree {h H : Heap} {c v : AV} {ids : List Nat} (hs : snapCell h c = some (v, ids)) (hh : ∀ id ∈ ids, H[id]? = h[id]?) : snapCell H c = some (v, ids) := by
  cases c with
  | sl id off len full =>
    unfold snapCell at hs ⊢
    simp only at hs ⊢
    split at hs
    · rename_i A hA
      split at hs
      · rename_i h1
        split at hs
        · rename_i h2
          cases hs
          rw [hh id (by simp), hA]
          simp only
          rw [if_pos h1, if_pos h2]
        · cases hs
      · cases hs
    · cases hs
  | _ => exact hs

theorem snapCells_agree {h H : Heap} : ∀ {cs vs : List AV} {ids : List Nat}, snapCells h cs = some (vs, ids) → (∀ id ∈ ids, H[id]? = h[id]?) → snapCells H cs = some (vs, ids)
  | [], vs, ids, hs, _ => hs
  | c :: cs, vs, ids, hs, hh => by
    unfold snapCells at hs ⊢
    split at hs
    · rename_i c' i cs' j h1 h2
      cases hs
      rw [snapCell_agree h1 (fun id hid => hh id (List.mem_append_left _ hid)), snapCells_agree h2 (fun id hid => hh id (List.mem_append_right _ hid))]
    · cases hs

theorem snap1_agree {h H : Heap} {c v : AV} {ids : List Nat} (hs : snap1 h c = some (v, ids)) (hh : ∀ id ∈ ids, H[id]? = h[id]?) : snap1 H c = some (v, ids) := by
  cases c with
  | agg cs =>
    simp only [snap1] at hs ⊢
    cases h1 : snapCells h cs with
    | none => rw [h1] at hs; cases hs
    | some x =>
      obtain ⟨vs, j⟩ := x
      rw [h1] at hs
      cases hs
      rw [snapCells_agree h1 hh]; rfl
  | _ =>
    simp only [snap1] at hs ⊢
    exact snapCell_agree hs hh

theorem store_elem {h : Heap} {id i : Nat} {es : List AV} {c v : AV} {ids : List Nat} {e : AV} (hid : h[id]? = some (.arr ⟨4, true, false, es⟩)) (he : es[i]? = some e) (hl : (cellsOf e).length = 4)
    (hc : (cellsOf c).length = 4) (hs : snap1 h c = some (v, ids)) (hv : (cellsOf v).length = 4) (hok : (cellsOf v).all okCell = true) (hre : reElem (cellsOf v) = v) (hn : id ∉ ids) :
    storeX 4 (.ptr id i 0) c h = some (Am.mark ids (h.set id (.arr ⟨4, true, false, es.set i v⟩))) := by
  have key : (if 4 = (cellsOf v).length ∧ 0 + (cellsOf v).length ≤ (cellsOf e).length ∧ (cellsOf v).all okCell = true then
      some (h.set id (.arr { (⟨4, true, false, es⟩ : Arr) with elems := es.set i (reElem (overwrite (cellsOf e) 0 (cellsOf v))) })) else none) = some (h.set id (.arr ⟨4, true, false, es.set i v⟩)) := by
    rw [if_pos ⟨hv.symm, by omega, hok⟩, overwrite_all (by omega), hre]
  unfold storeX
  simp only [hid, Bool.false_eq_true, if_false, he, hc, hs, if_neg hn]
  rw [if_pos ⟨trivial, trivial⟩]
  show Option.map (Am.mark ids) (if 4 = (cellsOf v).length ∧ _ then _ else _) = _
  rw [key]
  rfl

theorem store_kids {h : Heap} {id i : Nat} {es : List AV} {pl : Nat} {kv u : AV} (hid : h[id]? = some (.arr ⟨4, true, false, es⟩)) (he : es[i]? = some (openCell pl kv)) (hu : cellsOf u = [u]) (hok : okCell u = true) :
    storeX 1 (.ptr id i 3) u h = some (h.set id (.arr ⟨4, true, false, es.set i (openCell pl u)⟩)) := by
  have h1 : (cellsOf u).length = 1 := by rw [hu]; rfl
  unfold storeX
  simp only [hid, Bool.false_eq_true, if_false, he]
  rw [if_neg (by rw [h1]; simp)]
  show (if 1 = (cellsOf u).length ∧ 3 + (cellsOf u).length ≤ (cellsOf (openCell pl kv)).length ∧ (cellsOf u).all okCell = true then
      some (h.set id (.arr { (⟨4, true, false, es⟩ : Arr) with elems := es.set i (reElem (overwrite (cellsOf (openCell pl kv)) 3 (cellsOf u))) })) else none) = _
  rw [hu, if_pos ⟨rfl, by simp [openCell, cellsOf], by simp [hok]⟩]
  rfl

theorem zero_slice (h : Heap) : bsliceX 4 zeroT4 1 [(0, zeroT4)] h = some (.isl 4 true [zeroT4], h) := bslice_one rfl rfl rfl

/-- A whole tree put under the top of the stack. -/
theorem PInv.addKid {h : Heap} {b : Nat} {v8 v9 : AV} {st0 : List (Nat × List T)} {pl : Nat} {ks : List T} {whole : List T} {o8 o9 : Option Nat} {os : List (Option Nat)} {i : Nat} (p : PInv h b v8 v9 (st0 ++ [(pl, ks)]) whole o8 o9 os i) (hi : i ≤ 1000000)
    {c : AV} {t : T} {ids : List Nat} (d : Done h c t ids) (hids : ∀ id ∈ ids, ¬ Held b o8 o9 os id ∧ id < h.length) {B : Nat} (hB : h[B]? = some (.arr ⟨4, false, false, [c]⟩)) (hBn : B ∉ ids)
    (call : CallF) (r1 : AV → AV → AV → AV → AV → AV → AV → Heap → Res) (t0 t2 t31 t32 : AV) (j : Nat) (hj : j ≤ 1000000) :
    ∃ h' os', S12_2 call r1 t0 t2 v8 v9 (.ptr B 0 0) t31 t32 (.lit (.int .i64 j)) h = r1 t0 t2 v8 v9 t31 t32 (.lit (.int .i64 (j + 1 : Nat))) h' ∧ PInv h' b v8 v9 (st0 ++ [(pl, ks ++ [t])]) whole o8 o9 os' (i + 1) := by
  have hw := p.stack
  have hs1 := p.s1
  simp only [List.length_append, List.length_singleton] at hs1
  cases o8 with
  | none =>
    obtain ⟨_, h1, _⟩ := hw
    simp at h1
  | some id8 =>
    obtain ⟨cs, junk, rfl, h2, hr⟩ := hw
    obtain ⟨cs0, os0, kv, o, rfl, rfl, hr0, es, hk, hlv⟩ := hr.inv rfl
    have hl0 := hr0.length.1
    obtain ⟨v, hsn, htv⟩ := d.ex
    obtain ⟨f1, f2, f3, f4⟩ := htv.cells
    have n1 := p.n1 id8 rfl
    have ho8 : o ≠ some id8 := fun e => n1.2.2 (by rw [e]; simp)
    have heslen : es.length ≤ i := by rw [hlv.length]; exact p.s2 (pl, ks) (by simp)
    have lt8 : id8 < h.length := p.lt (.inr (.inl rfl))
    have hnew : h.length ∉ ids := fun e => by have := (hids _ e).2; omega
    have h8ids : id8 ∉ ids := fun e => (hids _ e).1 (.inr (.inl rfl))
    -- the memory at each step
    have ha := hk.append (bytes := 56) (f := true) (ys := [zeroT4]) (by simp) (by simp; omega)
    obtain ⟨h4, e4⟩ : ∃ h4, h4 = kill h o ++ [.arr ⟨4, true, false, es ++ [zeroT4]⟩] := ⟨_, rfl⟩
    rw [← e4] at ha
    have g4 : h4[h.length]? = some (.arr ⟨4, true, false, es ++ [zeroT4]⟩) := by
      rw [e4, List.getElem?_append_right (by rw [kill_length]; exact Nat.le_refl _), kill_length]; simp
    have g48 : h4[id8]? = some (.arr ⟨4, true, false, cs0 ++ [openCell pl kv] ++ junk⟩) := by rw [e4, kill_get ho8 lt8]; exact h2
    have l4 : h4.length = h.length + 1 := by rw [e4]; simp [kill_length]
    have sn4 : ∀ H : Heap, (∀ id ∈ ids, H[id]? = h[id]?) → snap1 H c = some (v, ids) := fun H hH => snap1_agree hsn hH
    have hkids : ∀ id ∈ ids, o ≠ some id := fun id hid e => (hids id hid).1 (.inr (.inr (.inr (by rw [e]; simp))))
    have s4 : ∀ id ∈ ids, h4[id]? = h[id]? := fun id hid => by rw [e4, kill_get (hkids id hid) (hids id hid).2]
    have e5 := store_elem (e := zeroT4) (i := es.length) g4 (by simp) rfl d.len (sn4 h4 s4) f2 f3 f4 hnew
    have hset : (es ++ [zeroT4]).set es.length v = es ++ [v] := by simp
    rw [hset] at e5
    have gi : (cs0 ++ [openCell pl kv] ++ junk)[cs0.length]? = some (openCell pl kv) := by simp
    have e6 := store_kids (u := .sl h.length 0 (es.length + 1) false) g48 gi rfl rfl
    have hset8 : (cs0 ++ [openCell pl kv] ++ junk).set cs0.length (openCell pl (.sl h.length 0 (es.length + 1) false)) = cs0 ++ [openCell pl (.sl h.length 0 (es.length + 1) false)] ++ junk := by simp
    rw [hset8] at e6
    obtain ⟨h5, d5⟩ : ∃ h5, h5 = Am.mark ids (h4.set h.length (.arr ⟨4, true, false, es ++ [v]⟩)) := ⟨_, rfl⟩
    rw [← d5] at e5
    have ne8 : id8 ≠ h.length := by omega
    have g58 : h5[id8]? = some (.arr ⟨4, true, false, cs0 ++ [openCell pl kv] ++ junk⟩) := by
      rw [d5, mark_get h8ids, List.getElem?_set_ne (by omega)]; exact g48
    have e7 := store_kids (u := .sl h.length 0 (es.length + 1) false) g58 gi rfl rfl
    rw [hset8] at e7
    obtain ⟨h6, d6⟩ : ∃ h6, h6 = h4.set id8 (.arr ⟨4, true, false, cs0 ++ [openCell pl (.sl h.length 0 (es.length + 1) false)] ++ junk⟩) := ⟨_, rfl⟩
    rw [← d6] at e6
    obtain ⟨h7, d7⟩ : ∃ h7, h7 = h5.set id8 (.arr ⟨4, true, false, cs0 ++ [openCell pl (.sl h.length 0 (es.length + 1) false)] ++ junk⟩) := ⟨_, rfl⟩
    rw [← d7] at e7
    have g6 : h6[h.length]? = some (.arr ⟨4, true, false, es ++ [zeroT4]⟩) := by rw [d6, List.getElem?_set_ne (by omega)]; exact g4
    have s6 : ∀ id ∈ ids, h6[id]? = h[id]? := fun id hid => by
      have hn : id8 ≠ id := fun e => h8ids (by rw [e]; exact hid)
      rw [d6, List.getElem?_set_ne hn]; exact s4 id hid
    have e8 := store_elem (e := zeroT4) (i := es.length) g6 (by simp) rfl d.len (sn4 h6 s6) f2 f3 f4 hnew
    rw [hset] at e8
    have eq87 : Am.mark ids (h6.set h.length (.arr ⟨4, true, false, es ++ [v]⟩)) = h7 := by
      rw [d7, d5, d6, ← mark_set h8ids, List.set_comm _ _ (by omega)]
    rw [eq87] at e8
    have ix : ∀ H : Heap, H[id8]? = some (.arr ⟨4, true, false, cs0 ++ [openCell pl kv] ++ junk⟩) → indexAddrS 4 (.sl id8 0 (cs0 ++ [openCell pl kv]).length false) (.lit (.int .i64 ((cs0.length : Nat) : Int))) H = some (.ptr id8 cs0.length 0) := by
      intro H hH
      unfold indexAddrS intLit
      simp only [hH, Int.natCast_nonneg, if_true, Int.toNat_natCast]
      rw [if_pos ⟨trivial, by simp, by simp⟩, Nat.zero_add]
    have ix4 : ∀ H : Heap, ∀ e, H[h.length]? = some (.arr ⟨4, true, false, es ++ [e]⟩) → indexAddrS 4 (.sl h.length 0 (es.length + 1) false) (.lit (.int .i64 ((es.length : Nat) : Int))) H = some (.ptr h.length es.length 0) := by
      intro H e hH
      unfold indexAddrS intLit
      simp only [hH, Int.natCast_nonneg, if_true, Int.toNat_natCast]
      rw [if_pos ⟨trivial, by omega, by simp⟩, Nat.zero_add]
    have lk : loadX none (.ptr id8 cs0.length 3) h = some kv := by
      unfold loadX
      simp only [h2, gi]
      rfl
    have lc : loadX (some 4) (.ptr B 0 0) h = some c := by
      unfold loadX
      simp only [hB, List.getElem?_cons_zero]
      have : readX (some 4) (cellsOf c) 0 = some (.agg (cellsOf c)) := readX_all d.len.symm
      rw [this, ← reElem_agg (by rw [d.len]; decide), d.re]
    have hlen : lenS (.sl id8 0 (cs0 ++ [openCell pl kv]).length false) = some (.lit (.int .i64 (((cs0.length + 1 : Nat)) : Int))) := by simp only [lenS_sl, List.length_append, List.length_singleton]
    have hz := zero_slice h
    unfold zeroT4 at hz ha
    simp only [S12_2, hlen, opt_s, fb_eql, test_b, decide_eq_true_eq]
    rw [if_neg (by omega), fb_sub, opt_s, wrap64 (by omega) (by omega), show ((cs0.length + 1 : Nat) : Int) - 1 = ((cs0.length : Nat) : Int) by omega, ix h h2, opt_s]
    simp only [nilCheckX, opt_s, fa_ptr, Nat.zero_add, lk, eqH_s, lc, hk.len, hz, opt2_s, ha, ix4 h4 _ g4, List.length_singleton]
    rw [e5, optH_s, e6, optH_s, e7, optH_s, eqK_s, e8, optH_s, eqK_s, eqH_s, ix4 h6 _ g6, opt_s, eqK_s, fb_add, opt_s, wrap64 (by omega) (by omega)]
    refine ⟨h7, os0 ++ [some h.length], rfl, ?_⟩
    have fr : ∀ id, Held b (some id8) o9 (os0 ++ [o]) id → id ≠ id8 → o ≠ some id → h7[id]? = h[id]? := by
      intro id hid hn8 hno
      have hlt := p.lt hid
      rw [d7, List.getElem?_set_ne (fun e => hn8 e.symm), d5, mark_get (fun e => (hids id e).1 hid), List.getElem?_set_ne (by omega), e4, kill_get hno hlt]
    have l7 : h7.length = h.length + 1 := by rw [d7, List.length_set, d5, mark_len, List.length_set, l4]
    have pw := p.n4
    rw [List.pairwise_append] at pw
    have hnb : o ≠ some b := fun e => p.n3 (by rw [e]; simp)
    refine ⟨?_, ?_, ?_, ?_, ?_, ?_, ?_, ?_, ?_, ?_⟩
    · rw [fr b (.inl rfl) (fun e => n1.1 e.symm) hnb]; exact p.box
    · refine ⟨cs0 ++ [openCell pl (.sl h.length 0 (es.length + 1) false)], junk, by simp, ?_, ?_⟩
      · rw [d7, List.getElem?_set_self (by rw [d5, mark_len, List.length_set, l4]; omega)]
      · refine .snoc (hr0.mono fun id hid => ?_) ⟨es ++ [v], ⟨by simp, ?_⟩, hlv.append (.cons htv .nil)⟩
        · refine fr id (.inr (.inr (.inr (List.mem_append_left _ hid)))) (fun e => n1.2.2 (by rw [← e]; exact List.mem_append_left _ hid)) (fun e => pw.2.2 _ hid o (by simp) id rfl e)
        · rw [d7, List.getElem?_set_ne (by omega), d5, mark_get hnew, List.getElem?_set_self (by omega)]
    · obtain ⟨ws, w1, w2⟩ := p.wh
      exact ⟨ws, OwnS.mono w1 fun id e => fr id (.inr (.inr (.inl e))) (fun e2 => n1.2.1 (by rw [e, e2])) (fun e2 => (p.n2 id e).2 (by rw [e2]; simp)), w2⟩
    · intro id e
      cases e
      refine ⟨n1.1, n1.2.1, fun e => ?_⟩
      rcases List.mem_append.1 e with e | e
      · exact n1.2.2 (List.mem_append_left _ e)
      · simp at e; omega
    · intro id e
      refine ⟨(p.n2 id e).1, fun e2 => ?_⟩
      rcases List.mem_append.1 e2 with e2 | e2
      · exact (p.n2 id e).2 (List.mem_append_left _ e2)
      · have := p.lt (.inr (.inr (.inl e)) : Held b (some id8) o9 (os0 ++ [o]) id)
        simp at e2; omega
    · intro e
      rcases List.mem_append.1 e with e | e
      · exact p.n3 (List.mem_append_left _ e)
      · have := p.lt (.inl rfl : Held b (some id8) o9 (os0 ++ [o]) b)
        simp at e; omega
    · rw [List.pairwise_append]
      refine ⟨pw.1, by simp, fun a ha c hc id e e2 => ?_⟩
      rw [List.mem_singleton] at hc
      subst hc; subst e
      have := p.lt (.inr (.inr (.inr (List.mem_append_left _ ha))) : Held b (some id8) o9 (os0 ++ [o]) id)
      simp at e2; omega
    · simp; omega
    · intro x hx
      rcases List.mem_append.1 hx with hx | hx
      · have := p.s2 x (List.mem_append_left _ hx); omega
      · rw [List.mem_singleton] at hx
        subst hx
        have := p.s2 (pl, ks) (by simp)
        simp at this ⊢; omega
    · have := p.s3; omega

end Go.Proofs.Ytcajleckiegffaa

namespace Go.Proofs.Ytcajleckiegffaa
set_option linter.unusedSimpArgs false
set_option linter.unusedVariables false
open Go.Am
set_option maxRecDepth 100000

theorem bslice_mark {sz : Nat} {z t v : AV} {ids : List Nat} {h : Heap} (h1 : (cellsOf t).length = sz) (h2 : (cellsOf t).all okCell = true) (hf : snap1 h (reElem (cellsOf t)) = some (v, ids)) :
    bsliceX sz z 1 [(0, t)] h = some (.isl sz true [v], Am.mark ids h) := by
  unfold bsliceX
  have : setElems sz (List.replicate 1 (reElem (cellsOf z))) [(0, t)] = some [reElem (cellsOf t)] := by
    simp [setElems, h1, h2, List.replicate]
  rw [this]
  simp only [snaps, hf, List.append_nil]

theorem load_done {h : Heap} {B : Nat} {c : AV} (hl : (cellsOf c).length = 4) (hre : reElem (cellsOf c) = c) (hB : h[B]? = some (.arr ⟨4, false, false, [c]⟩)) : loadX (some 4) (.ptr B 0 0) h = some c := by
  unfold loadX
  simp only [hB, List.getElem?_cons_zero]
  have : readX (some 4) (cellsOf c) 0 = some (.agg (cellsOf c)) := readX_all hl.symm
  rw [this, ← reElem_agg (by rw [hl]; decide), hre]

/-- A whole tree where none is open. -/
theorem PInv.addWhole {h : Heap} {b : Nat} {v8 v9 : AV} {whole : List T} {o8 o9 : Option Nat} {os : List (Option Nat)} {i : Nat} (p : PInv h b v8 v9 [] whole o8 o9 os i) (hi : i ≤ 1000000)
    {c : AV} {t : T} {ids : List Nat} (d : Done h c t ids) (hids : ∀ id ∈ ids, ¬ Held b o8 o9 os id ∧ id < h.length) {B : Nat} (hB : h[B]? = some (.arr ⟨4, false, false, [c]⟩))
    (call : CallF) (r1 : AV → AV → AV → AV → AV → AV → AV → Heap → Res) (t0 t2 t31 t32 : AV) (j : Nat) (hj : j ≤ 1000000) :
    ∃ h' v9' o9', S12_2 call r1 t0 t2 v8 v9 (.ptr B 0 0) t31 t32 (.lit (.int .i64 j)) h = r1 t0 t2 v8 v9' t31 t32 (.lit (.int .i64 (j + 1 : Nat))) h' ∧ PInv h' b v8 v9' [] (whole ++ [t]) o8 o9' os (i + 1) := by
  obtain ⟨v, hsn, htv⟩ := d.ex
  obtain ⟨ws, w1, w2⟩ := p.wh
  have hwl : ws.length ≤ i := by rw [w2.length]; exact p.s3
  have hlen := p.stack.len
  have hz := bslice_mark (sz := 4) (z := zeroT4) (t := c) (v := v) (ids := ids) (h := h) d.len d.ok (by rw [d.re]; exact hsn)
  have hm : ∀ id, Held b o8 o9 os id → (Am.mark ids h)[id]? = h[id]? := fun id hid => mark_get (fun e => (hids id e).1 hid) h
  have pm := p.mono (Nat.le_refl _) hm
  have w1m : OwnS (Am.mark ids h) v9 4 ws o9 := OwnS.mono w1 fun id e => hm id (.inr (.inr (.inl e)))
  have ha := w1m.append (bytes := 56) (f := true) (ys := [v]) (by simp) (by simp; omega)
  have hos : os = [] := by
    have w := p.stack
    cases o8 with
    | none => exact w.2.2
    | some id =>
      obtain ⟨cs, junk, _, _, hr⟩ := w
      exact List.length_eq_zero_iff.1 hr.length.2
  subst hos
  unfold zeroT4 at hz
  simp only [S12_2, hlen, List.length_nil, opt_s, fb_eql, test_b, decide_eq_true_eq]
  rw [if_pos (by simp), load_done d.len d.re hB, opt_s, hz, opt2_s, ha, opt2_s, fb_add, opt_s, wrap64 (by omega) (by omega)]
  refine ⟨_, _, some (Am.mark ids h).length, rfl, ?_⟩
  have fr : ∀ (y : List AObj) id, Held b o8 o9 [] id → o9 ≠ some id → (kill (Am.mark ids h) o9 ++ y)[id]? = h[id]? := fun y id hid hne => by
    rw [kill_get hne (pm.lt hid), hm id hid]
  refine ⟨?_, ?_, ?_, ?_, ?_, by simp, .nil, by simp, by simp, ?_⟩
  · rw [fr _ b (.inl rfl) (fun e => (p.n2 b e).1 rfl)]; exact p.box
  · exact p.stack.mono fun id hid => by
      rcases hid with e | e
      · exact fr _ id (.inr (.inl e)) (p.n1 id e).2.1
      · cases e
  · exact ⟨ws ++ [v], by simpa using OwnS.appended (h := Am.mark ids h) (o := o9) (sz := 4) (es := ws ++ [v]), w2.append (.cons htv .nil)⟩
  · intro id e
    refine ⟨(p.n1 id e).1, fun e2 => ?_, by simp⟩
    have := pm.lt (.inr (.inl e) : Held b o8 o9 [] id)
    cases e2
    omega
  · intro id e
    cases e
    refine ⟨fun e2 => ?_, by simp⟩
    have := pm.lt (.inl rfl : Held b o8 o9 [] b)
    omega
  · have := p.s3; simp; omega

end Go.Proofs.Ytcajleckiegffaa

namespace Go.Proofs.Ytcajleckiegffaa
set_option linter.unusedSimpArgs false
set_option linter.unusedVariables false
open Go.Am
set_option maxRecDepth 100000

theorem load_at {H : Heap} {b n off : Nat} {r sh : Bool} {cs : List AV} (hb : H[b]? = some (.arr ⟨n, r, sh, [.agg cs]⟩)) : loadX none (.ptr b 0 off) H = cs[off]? := by
  unfold loadX
  simp only [hb, List.getElem?_cons_zero, cellsOf, readX]

theorem loadA_at {H : Heap} {b n m : Nat} {r sh : Bool} {cs : List AV} (hb : H[b]? = some (.arr ⟨n, r, sh, [.agg cs]⟩)) (hm : m = cs.length) : loadX (some m) (.ptr b 0 0) H = some (.agg cs) := by
  unfold loadX
  simp only [hb, List.getElem?_cons_zero]
  exact readX_all hm

theorem store_at {H : Heap} {b n : Nat} {cs ds : List AV} (hb : H[b]? = some (.arr ⟨n, false, false, [.agg cs]⟩)) (hn : n = cs.length) (hl : ds.length = cs.length) (h1 : n ≠ 1) (h2 : ds.all okCell = true) :
    storeX n (.ptr b 0 0) (.agg ds) H = some (H.set b (.arr ⟨n, false, false, [.agg ds]⟩)) := by
  have key : (if n = (cellsOf (.agg ds)).length ∧ 0 + (cellsOf (.agg ds)).length ≤ (cellsOf (.agg cs)).length ∧ (cellsOf (.agg ds)).all okCell = true then
      some (H.set b (.arr { (⟨n, false, false, [.agg cs]⟩ : Arr) with elems := [AV.agg cs].set 0 (reElem (overwrite (cellsOf (.agg cs)) 0 (cellsOf (.agg ds)))) })) else none) = some (H.set b (.arr ⟨n, false, false, [.agg ds]⟩)) := by
    rw [if_pos ⟨by simp only [cellsOf]; omega, by simp only [cellsOf]; omega, h2⟩]
    simp only [cellsOf]
    rw [overwrite_all hl, reElem_agg (by omega)]
    rfl
  unfold storeX
  simp only [hb, Bool.false_eq_true, false_and, if_false, List.getElem?_cons_zero]
  exact key

/-- The top of the stack taken off. -/
theorem PInv.pop {h : Heap} {b : Nat} {v8 v9 : AV} {st0 : List (Nat × List T)} {pl : Nat} {ks : List T} {whole : List T} {o8 o9 : Option Nat} {os : List (Option Nat)} {i : Nat} (p : PInv h b v8 v9 (st0 ++ [(pl, ks)]) whole o8 o9 os i) :
    ∃ a kv ids v8' os0, indexAddrS 4 v8 (.lit (.int .i64 ((st0.length : Nat) : Int))) h = some a ∧ loadX (some 4) a h = some (openCell pl kv) ∧
      (∀ H : Heap, (∀ id, Held b o8 o9 os id → H[id]? = h[id]?) → cutX 4 v8 none (some (.lit (.int .i64 ((st0.length : Nat) : Int)))) none H = some v8') ∧
      PInv h b v8' v9 st0 whole o8 o9 os0 i ∧ Done h (openCell pl kv) (.mk 1 pl [] ks) ids ∧ okCell kv = true ∧ (∀ id ∈ ids, ¬ Held b o8 o9 os0 id ∧ Held b o8 o9 os id) ∧ (∀ id, Held b o8 o9 os0 id → Held b o8 o9 os id) := by
  have hw := p.stack
  cases o8 with
  | none =>
    obtain ⟨_, h1, _⟩ := hw
    simp at h1
  | some id8 =>
    obtain ⟨cs, junk, rfl, h2, hr⟩ := hw
    obtain ⟨cs0, os0, kv, o, rfl, rfl, hr0, es, hk, hlv⟩ := hr.inv rfl
    have hl0 := hr0.length.1
    have n1 := p.n1 id8 rfl
    have pw := p.n4
    rw [List.pairwise_append] at pw
    have sub : ∀ id, Held b (some id8) o9 os0 id → Held b (some id8) o9 (os0 ++ [o]) id := fun id hid => by
      rcases hid with e | e | e | e
      · exact .inl e
      · exact .inr (.inl e)
      · exact .inr (.inr (.inl e))
      · exact .inr (.inr (.inr (List.mem_append_left _ e)))
    have gi : (cs0 ++ [openCell pl kv] ++ junk)[cs0.length]? = some (openCell pl kv) := by simp
    have hkk : ∃ v ids, snap1 h (openCell pl kv) = some (v, ids) ∧ TreeV v (.mk 1 pl [] ks) ∧ okCell kv = true ∧ ∀ id ∈ ids, o = some id := by
      cases o with
      | none =>
        obtain ⟨rfl, rfl⟩ := hk
        have : ks = [] := by cases hlv; rfl
        subst this
        exact ⟨_, [], rfl, .mk .nil, rfl, fun id h => by cases h⟩
      | some kid =>
        obtain ⟨rfl, hkid⟩ := hk
        refine ⟨.agg [.lit (.int .i64 1), .lit (.int .i64 pl), .lit (.string ⟨⟨[]⟩⟩), .isl 4 false es], [kid], ?_, .mk (.isl hlv), rfl, fun id h => by rw [List.mem_singleton] at h; rw [h]⟩
        have hsc : snapCell h (.sl kid 0 es.length false) = some (.isl 4 false es, [kid]) := by
          simp only [snapCell, hkid]
          rw [if_pos (by simp)]
          simp [hlv.free]
        simp only [openCell, snap1, snapCells, hsc, snapCell_free (v := .lit _) rfl, Option.map_some, List.nil_append, List.append_nil]
    obtain ⟨v, ids, s1, s2, s3, s4⟩ := hkk
    refine ⟨.ptr id8 cs0.length 0, kv, ids, .sl id8 0 cs0.length false, os0, ?_, ?_, ?_, ?_, ?_, s3, ?_, sub⟩
    · rw [← hl0]
      unfold indexAddrS intLit
      simp only [h2, Int.natCast_nonneg, if_true, Int.toNat_natCast]
      rw [if_pos ⟨trivial, by simp, by simp⟩, Nat.zero_add]
    · unfold loadX
      simp only [h2, gi]
      exact readX_all rfl
    · intro H hH
      have hH8 := hH id8 (.inr (.inl rfl))
      rw [← hl0]
      unfold cutX
      simp only [hH8, h2, bound, intLit, Int.natCast_nonneg, if_true, Int.toNat_natCast, Option.isSome_none, Bool.false_eq_true, false_and, if_false]
      rw [if_pos ⟨Nat.zero_le _, by simp, Nat.le_refl _⟩]
      simp
    · refine ⟨p.box, ⟨cs0, [openCell pl kv] ++ junk, rfl, by rw [h2]; simp, hr0⟩, p.wh, ?_, ?_, ?_, pw.1, ?_, ?_, p.s3⟩
      · intro id e
        exact ⟨(p.n1 id e).1, (p.n1 id e).2.1, fun e2 => (p.n1 id e).2.2 (List.mem_append_left _ e2)⟩
      · intro id e
        exact ⟨(p.n2 id e).1, fun e2 => (p.n2 id e).2 (List.mem_append_left _ e2)⟩
      · exact fun e => p.n3 (List.mem_append_left _ e)
      · have := p.s1; simp at this; omega
      · exact fun x hx => p.s2 x (List.mem_append_left _ hx)
    · refine ⟨⟨v, s1, s2⟩, rfl, ?_, rfl⟩
      simp [openCell, cellsOf, okCell, cellOk] at s3 ⊢
      exact s3
    · intro id hid
      have ho := s4 id hid
      subst ho
      refine ⟨fun hh => ?_, .inr (.inr (.inr (by simp)))⟩
      rcases hh with e | e | e | e
      · exact p.n3 (by rw [← e]; simp)
      · cases e; exact n1.2.2 (by simp)
      · exact (p.n2 id e).2 (by simp)
      · exact pw.2.2 _ e (some id) (by simp) id rfl rfl

end Go.Proofs.Ytcajleckiegffaa

namespace Go.Proofs.Ytcajleckiegffaa
set_option linter.unusedSimpArgs false
set_option linter.unusedVariables false
open Go.Am
set_option maxRecDepth 100000

theorem zeroV : TreeV zeroT4 noTree := .mk .nil

theorem err_chain {H : Heap} {b A : Nat} {x : Tok} (hb : H[b]? = some (.arr ⟨4, false, false, [zeroT4]⟩)) (hA : H[A]? = some (boxTok x)) (hne : b ≠ A) (code : Int) :
    (opt (buildX [.lit (.int .i64 0), .lit (.int .i64 0), .lit (.string ⟨⟨[]⟩⟩), .lit (.slice none 0 0)] [(0, 1), (1, 1), (2, 1), (3, 1)] []) fun t53 =>
      opt (fieldAddrX 1 (.ptr A 0 0)) fun t54 => opt (loadX none t54 H) fun t55 => eqH H H (optH (storeX 4 (.ptr b 0 0) t53 H) fun h1 =>
      opt (loadX none t54 h1) fun t55_1 => eqK t55_1 t55 (eqH h1 h1 (opt (loadX (some 4) (.ptr b 0 0) h1) fun res => some (.tup [res, .lit (.int .i64 code), t55], h1))))) =
    some (.tup [zeroT4, .lit (.int .i64 code), .lit (.int .i64 x.place)], H.set b (.arr ⟨4, false, false, [zeroT4]⟩)) := by
  have hlb : b < H.length := (List.getElem?_eq_some_iff.1 hb).1
  have e0 : buildX [.lit (.int .i64 0), .lit (.int .i64 0), .lit (.string ⟨⟨[]⟩⟩), .lit (.slice none 0 0)] [(0, 1), (1, 1), (2, 1), (3, 1)] [] = some zeroT4 := rfl
  have e1 : loadX none (.ptr A 0 1) H = some (.lit (.int .i64 x.place)) := load_at hA
  have e2 : storeX 4 (.ptr b 0 0) zeroT4 H = some (H.set b (.arr ⟨4, false, false, [zeroT4]⟩)) := store_at hb rfl rfl (by decide) rfl
  have e3 : loadX none (.ptr A 0 1) (H.set b (.arr ⟨4, false, false, [zeroT4]⟩)) = some (.lit (.int .i64 x.place)) := load_at (cs := [_, _, _]) (by rw [List.getElem?_set_ne hne]; exact hA)
  have e4 : loadX (some 4) (.ptr b 0 0) (H.set b (.arr ⟨4, false, false, [zeroT4]⟩)) = some zeroT4 := loadA_at (cs := [_, _, _, _]) (List.getElem?_set_self hlb) rfl
  rw [e0, opt_s, fa_ptr, opt_s, Nat.zero_add, e1, opt_s, eqH_s, e2, optH_s, e3, opt_s, eqK_s, eqH_s, e4, opt_s]

theorem parse_loop {call : CallF} {s : List UInt8} {toks : List Tok} {v31 : AV} (hv : SliceV v31 3 (toks.map tokAV)) (hl : toks.length ≤ 100000) (h0 : 0 < toks.length) {b : Nat} :
    ∀ (k j : Nat) (st : List (Nat × List T)) (whole : List T) (v8 v9 : AV) (o8 o9 : Option Nat) (os : List (Option Nat)) (h : Heap), PInv h b v8 v9 st whole o8 o9 os j → j ≤ toks.length → (st = [] → whole = [] → j = 0) → toks.length - j < k →
    ∃ v h', S12_1l call k (.lit (.string ⟨⟨s⟩⟩)) (.ptr b 0 0) v8 v9 v31 (.lit (.int .i64 toks.length)) (.lit (.int .i64 j)) h =
      some (.tup [v, .lit (.int .i64 (parseM s.length (toks.drop j) st whole).err), .lit (.int .i64 (parseM s.length (toks.drop j) st whole).pos)], h') ∧ TreeV v (parseM s.length (toks.drop j) st whole).tree := by
  intro k
  induction k with
  | zero => intro j st whole v8 v9 o8 o9 os h p hj _ hk; omega
  | succ k ih =>
    intro j st whole v8 v9 o8 o9 os h p hj hz hk
    show ∃ v h', S12_10b call (S12_1l call k) _ _ _ _ _ _ _ h = _ ∧ _
    simp only [S12_10b, fb_lss, opt_s, S12_9, test_b, decide_eq_true_eq]
    by_cases hlt : j < toks.length
    case neg =>
      rw [if_neg (by omega)]
      have hd : toks.drop j = [] := List.drop_eq_nil_of_le (by omega)
      rw [hd]
      simp only [S12_0, p.stack.len, opt_s, fb_gtr, test_b, decide_eq_true_eq, parseM]
      by_cases hst : 0 < st.length
      · rw [if_pos (by omega), if_pos hst]
        have e0 : buildX [.lit (.int .i64 0), .lit (.int .i64 0), .lit (.string ⟨⟨[]⟩⟩), .lit (.slice none 0 0)] [(0, 1), (1, 1), (2, 1), (3, 1)] [] = some zeroT4 := rfl
        have e2 : storeX 4 (.ptr b 0 0) zeroT4 h = some (h.set b (.arr ⟨4, false, false, [zeroT4]⟩)) := store_at p.box rfl rfl (by decide) rfl
        have e4 : loadX (some 4) (.ptr b 0 0) (h.set b (.arr ⟨4, false, false, [zeroT4]⟩)) = some zeroT4 := loadA_at (cs := [_, _, _, _]) (List.getElem?_set_self (List.getElem?_eq_some_iff.1 p.box).1) rfl
        rw [e0, opt_s, lenStr_s, opt_s, e2, optH_s, e4, opt_s]
        exact ⟨_, _, rfl, zeroV⟩
      · rw [if_neg (by omega), if_neg hst]
        have hst0 : st = [] := List.length_eq_zero_iff.1 (by omega)
        obtain ⟨ws, w1, w2⟩ := p.wh
        cases whole with
        | nil => have := hz hst0 rfl; omega
        | cons t r =>
          cases ws with
          | nil => cases w2
          | cons w ws =>
            cases w2 with
            | cons tv _ =>
              cases o9 with
              | none => obtain ⟨_, h1⟩ := w1; cases h1
              | some id9 =>
                obtain ⟨rfl, hid⟩ := w1
                have e1 : indexAddrS 4 (.sl id9 0 (w :: ws).length false) (.lit (.int .i64 0)) h = some (.ptr id9 0 0) := by
                  unfold indexAddrS intLit
                  simp only [hid, Int.le_refl, if_true, Int.toNat_zero]
                  rw [if_pos ⟨trivial, by simp, by simp⟩]
                obtain ⟨f1, f2, f3, f4⟩ := tv.cells
                have e2 : loadX (some 4) (.ptr id9 0 0) h = some w := by
                  unfold loadX
                  simp only [hid, List.getElem?_cons_zero]
                  have : readX (some 4) (cellsOf w) 0 = some (.agg (cellsOf w)) := readX_all f2.symm
                  rw [this, ← reElem_agg (by rw [f2]; decide), f4]
                cases tv with
                | @mk kk pp tt kv ks hkv =>
                  have e3 : storeX 4 (.ptr b 0 0) (.agg [.lit (.int .i64 kk), .lit (.int .i64 pp), .lit (.string ⟨⟨tt⟩⟩), kv]) h = some (h.set b (.arr ⟨4, false, false, [.agg [.lit (.int .i64 kk), .lit (.int .i64 pp), .lit (.string ⟨⟨tt⟩⟩), kv]]⟩)) := store_at p.box rfl rfl (by decide) f3
                  have e4 : loadX (some 4) (.ptr b 0 0) (h.set b (.arr ⟨4, false, false, [.agg [.lit (.int .i64 kk), .lit (.int .i64 pp), .lit (.string ⟨⟨tt⟩⟩), kv]]⟩)) = some (.agg [.lit (.int .i64 kk), .lit (.int .i64 pp), .lit (.string ⟨⟨tt⟩⟩), kv]) := loadA_at (List.getElem?_set_self (List.getElem?_eq_some_iff.1 p.box).1) rfl
                  rw [e1, opt_s, e2, opt_s, e3, optH_s, e4, opt_s]
                  exact ⟨_, _, rfl, .mk hkv⟩
    case pos =>
      rw [if_pos (by omega)]
      obtain ⟨x, hxj⟩ : ∃ x, toks[j]? = some x := ⟨toks[j], List.getElem?_eq_getElem hlt⟩
      have hd : toks.drop j = x :: toks.drop (j + 1) := by
        rw [List.drop_eq_getElem_cons hlt]
        rw [List.getElem?_eq_getElem hlt] at hxj
        cases hxj; rfl
      rw [hd]
      have hb12 := box_agg (cs := [.lit (.int .i64 0), .lit (.int .i64 0), .lit (.string ⟨⟨[]⟩⟩), .lit (.slice none 0 0)]) (h ++ [boxTok x]) (by simp) rfl
      simp only [S12_8]
      rw [hv.ix (e := tokAV x) (by simp [hxj]), opt_s, tok_load, opt_s, tok_box]
      simp only [S12_7]
      rw [hb12, opt2_s]
      have pH := (p.more [boxTok x]).more [.arr ⟨4, false, false, [zeroT4]⟩]
      have hlen : ∀ id, Held b o8 o9 os id → id < h.length := fun id hid => p.lt hid
      have gA : (h ++ [boxTok x] ++ [AObj.arr ⟨4, false, false, [zeroT4]⟩])[h.length]? = some (boxTok x) := by simp
      have gB : (h ++ [boxTok x] ++ [AObj.arr ⟨4, false, false, [zeroT4]⟩])[(h ++ [boxTok x]).length]? = some (.arr ⟨4, false, false, [zeroT4]⟩) := get_last _ _
      have lB : (h ++ [boxTok x]).length = h.length + 1 := by simp
      show ∃ v h', S12_6 call (S12_1l call k) _ _ _ _ (.ptr h.length 0 0) (.ptr (h ++ [boxTok x]).length 0 0) _ _ _ (h ++ [boxTok x] ++ [AObj.arr ⟨4, false, false, [zeroT4]⟩]) = _ ∧ _
      generalize hHd : h ++ [boxTok x] ++ [AObj.arr ⟨4, false, false, [zeroT4]⟩] = H at pH gA gB
      generalize hBd : (h ++ [boxTok x]).length = B at gB lB
      have hbA : b ≠ h.length := by have := hlen b (.inl rfl); omega
      have er := err_chain pH.box gA hbA
      have l0 : loadX none (.ptr h.length 0 0) H = some (.lit (.int .i64 x.kind)) := load_at gA
      have l1 : loadX none (.ptr h.length 0 1) H = some (.lit (.int .i64 x.place)) := load_at gA
      have l2 : loadX none (.ptr h.length 0 2) H = some (.lit (.string ⟨⟨x.text⟩⟩)) := load_at gA
      have slen := pH.stack.len
      have s1 := p.s1
      obtain ⟨ws, w1, w2⟩ := pH.wh
      have wlen : lenS v9 = some (.lit (.int .i64 whole.length)) := by rw [w1.len, w2.length]
      have e6 : S12_6 call (S12_1l call k) (.lit (.string ⟨⟨s⟩⟩)) (.ptr b 0 0) v8 v9 (.ptr h.length 0 0) (.ptr B 0 0) v31 (.lit (.int .i64 toks.length)) (.lit (.int .i64 j)) H =
          S12_5 call (S12_1l call k) (.lit (.string ⟨⟨s⟩⟩)) (.ptr b 0 0) v8 v9 (.ptr h.length 0 0) (.ptr B 0 0) v31 (.lit (.int .i64 toks.length)) (.lit (.int .i64 j)) (.lit (.bool (decide (x.kind = 1 ∧ 40 ≤ st.length)))) H := by
        simp only [S12_6, fa_ptr, opt_s, Nat.zero_add, l0, fb_eql, test_b, ceq, decide_eq_true_eq]
        by_cases h1 : x.kind = 1
        · rw [if_pos h1, slen, opt_s, fb_geq, opt_s]
          congr 3
          simp only [h1, true_and, decide_eq_decide]
          omega
        · rw [if_neg h1]
          simp only [h1, false_and, decide_false]
      rw [e6]
      simp only [S12_5, test_b, decide_eq_true_eq, parseM]
      by_cases c1 : x.kind = 1 ∧ 40 ≤ st.length
      · rw [if_pos c1, if_pos c1, er 14]
        exact ⟨_, _, rfl, zeroV⟩
      rw [if_neg c1, if_neg c1]
      have e4 : S12_4 call (S12_1l call k) (.lit (.string ⟨⟨s⟩⟩)) (.ptr b 0 0) v8 v9 (.ptr h.length 0 0) (.ptr B 0 0) v31 (.lit (.int .i64 toks.length)) (.lit (.int .i64 j)) H =
          S12_3 call (S12_1l call k) (.lit (.string ⟨⟨s⟩⟩)) (.ptr b 0 0) v8 v9 (.ptr h.length 0 0) (.ptr B 0 0) v31 (.lit (.int .i64 toks.length)) (.lit (.int .i64 j)) (.lit (.bool (decide (x.kind = 2 ∧ st.length = 0)))) H := by
        simp only [S12_4, fa_ptr, opt_s, Nat.zero_add, l0, fb_eql, test_b, ceq, decide_eq_true_eq]
        by_cases h1 : x.kind = 2
        · rw [if_pos h1, slen, opt_s, fb_eql, opt_s]
          congr 3
          simp only [h1, true_and, decide_eq_decide]
          omega
        · rw [if_neg h1]
          simp only [h1, false_and, decide_false]
      rw [e4]
      simp only [S12_3, test_b, decide_eq_true_eq]
      by_cases c2 : x.kind = 2 ∧ st.length = 0
      · rw [if_pos c2, if_pos c2, er 12]
        exact ⟨_, _, rfl, zeroV⟩
      rw [if_neg c2, if_neg c2, wlen, opt_s, fb_gtr, opt_s, test_b]
      by_cases c3 : 0 < whole.length
      · rw [if_pos (by simpa using c3), if_pos c3, er 11]
        exact ⟨_, _, rfl, zeroV⟩
      rw [if_neg (by simpa using c3), if_neg c3]
      simp only [fa_ptr, opt_s, Nat.zero_add, l0, fb_eql, test_b, ceq, decide_eq_true_eq]
      have hwh : whole = [] := List.length_eq_zero_iff.1 (by omega)
      have hw : fastWrap .i64 ((j : Int) + 1) = ((j + 1 : Nat) : Int) := by rw [wrap64 (by omega) (by omega)]; rfl
      -- what stands behind a tree that is whole
      have fin : ∀ (st : List (Nat × List T)) (v8 : AV) (os : List (Option Nat)) (c : AV) (t : T) (ids : List Nat) (H : Heap), PInv H b v8 v9 st whole o8 o9 os j → Done H c t ids → (∀ id ∈ ids, ¬ Held b o8 o9 os id ∧ id < H.length) → H[B]? = some (.arr ⟨4, false, false, [c]⟩) → B ∉ ids →
          ∃ v h', S12_2 call (S12_1l call k) (.lit (.string ⟨⟨s⟩⟩)) (.ptr b 0 0) v8 v9 (.ptr B 0 0) v31 (.lit (.int .i64 toks.length)) (.lit (.int .i64 j)) H =
            some (.tup [v, .lit (.int .i64 (if st.length = 0 then parseM s.length (toks.drop (j + 1)) st (whole ++ [t]) else parseM s.length (toks.drop (j + 1)) (addKid st t) whole).err), .lit (.int .i64 (if st.length = 0 then parseM s.length (toks.drop (j + 1)) st (whole ++ [t]) else parseM s.length (toks.drop (j + 1)) (addKid st t) whole).pos)], h') ∧
            TreeV v (if st.length = 0 then parseM s.length (toks.drop (j + 1)) st (whole ++ [t]) else parseM s.length (toks.drop (j + 1)) (addKid st t) whole).tree := by
        intro st v8 os c t ids H p d hids hB hBn
        by_cases hst : st.length = 0
        · have e := List.length_eq_zero_iff.1 hst
          subst e
          obtain ⟨h', v9', o9', q1, q2⟩ := p.addWhole (by omega) d hids hB call (S12_1l call k) (.lit (.string ⟨⟨s⟩⟩)) (.ptr b 0 0) v31 (.lit (.int .i64 toks.length)) j (by omega)
          rw [q1, if_pos hst]
          exact ih (j + 1) [] _ _ _ _ _ _ _ q2 (by omega) (fun _ e => by simp at e) (by omega)
        · rcases List.eq_nil_or_concat st with e | ⟨st0, ⟨pl, ks⟩, e⟩
          · rw [e] at hst; exact absurd rfl hst
          · rw [List.concat_eq_append] at e
            subst e
            obtain ⟨h', os', q1, q2⟩ := p.addKid (by omega) d hids hB hBn call (S12_1l call k) (.lit (.string ⟨⟨s⟩⟩)) (.ptr b 0 0) v31 (.lit (.int .i64 toks.length)) j (by omega)
            rw [q1, if_neg hst]
            have ea : addKid (st0 ++ [(pl, ks)]) t = st0 ++ [(pl, ks ++ [t])] := by simp [addKid]
            rw [ea]
            exact ih (j + 1) _ _ _ _ _ _ _ _ q2 (by omega) (fun e => by simp at e) (by omega)
      by_cases c4 : x.kind = 1
      · rw [if_pos c4, if_pos c4]
        obtain ⟨v8', h', q1, q2⟩ := pH.push (by omega) x.place
        have e1 : buildX [.lit (.int .i64 0), .lit (.int .i64 0), .lit (.string ⟨⟨[]⟩⟩), .lit (.slice none 0 0)] [(0, 1), (1, 1), (2, 1), (3, 1)] [(0, .lit (.int .i64 1)), (1, .lit (.int .i64 x.place))] = some (openCell x.place (.lit (.slice none 0 0))) := rfl
        have e2 : bsliceX 4 (.agg [.lit (.int .i64 0), .lit (.int .i64 0), .lit (.string ⟨⟨[]⟩⟩), .lit (.slice none 0 0)]) 1 [(0, openCell x.place (.lit (.slice none 0 0)))] H = some (.isl 4 true [openCell x.place (.lit (.slice none 0 0))], H) := bslice_one rfl rfl rfl
        simp only [l1, opt_s, e1, e2, opt2_s, q1, fb_add]
        rw [hw]
        exact ih (j + 1) _ _ _ _ _ _ _ _ q2 (by omega) (fun e => by simp at e) (by omega)
      rw [if_neg c4, if_neg c4]
      by_cases c5 : x.kind = 2
      · rw [if_pos c5, if_pos c5]
        rcases List.eq_nil_or_concat st with e | ⟨st0, ⟨pl, ks⟩, e⟩
        · exact absurd ⟨c5, by rw [e]; rfl⟩ c2
        · rw [List.concat_eq_append] at e
          subst e
          obtain ⟨a, kv, ids, v8', os0, q1, q2, q3, q4, q5, q6, q7, q8⟩ := pH.pop
          have e1 : storeX 4 (.ptr B 0 0) (openCell pl kv) H = some (H.set B (.arr ⟨4, false, false, [openCell pl kv]⟩)) := store_at gB rfl rfl (by decide) q5.ok
          have hBH : ∀ id, Held b o8 o9 os id → id ≠ B := fun id hid => by have := hlen id hid; omega
          have agree : ∀ id, Held b o8 o9 os id → (H.set B (.arr ⟨4, false, false, [openCell pl kv]⟩))[id]? = H[id]? := fun id hid => List.getElem?_set_ne (fun e => hBH id hid e.symm)
          have hln : ((st0 ++ [(pl, ks)]).length : Int) - 1 = ((st0.length : Nat) : Int) := by simp
          simp only [slen, opt_s, fb_sub]
          rw [hln, wrap64 (by omega) (by omega), q1, opt_s, q2, opt_s, e1, optH_s, q3 _ agree, opt_s]
          have hgl : (st0 ++ [(pl, ks)]).getLast? = some (pl, ks) := by simp
          have hdl : (st0 ++ [(pl, ks)]).dropLast = st0 := by simp
          rw [hgl, hdl]
          have hBl : B < H.length := (List.getElem?_eq_some_iff.1 gB).1
          have := fin st0 v8' os0 (openCell pl kv) (.mk 1 pl [] ks) ids _ (q4.mono (Nat.le_refl _) fun id hid => agree id (q8 id hid))
            ⟨by obtain ⟨v, r1, r2⟩ := q5.ex; exact ⟨v, snap1_agree r1 fun id hid => agree id (q7 id hid).2, r2⟩, q5.len, q5.ok, q5.re⟩
            (fun id hid => ⟨(q7 id hid).1, by rw [List.length_set]; have := hlen id (q7 id hid).2; omega⟩) (List.getElem?_set_self hBl) (fun hid => hBH B (q7 B hid).2 rfl)
          exact this
      rw [if_neg c5, if_neg c5]
      have e1 : buildX [.lit (.int .i64 0), .lit (.int .i64 0), .lit (.string ⟨⟨[]⟩⟩), .lit (.slice none 0 0)] [(0, 1), (1, 1), (2, 1), (3, 1)] [(0, .lit (.int .i64 x.kind)), (1, .lit (.int .i64 x.place)), (2, .lit (.string ⟨⟨x.text⟩⟩))] =
          some (.agg [.lit (.int .i64 x.kind), .lit (.int .i64 x.place), .lit (.string ⟨⟨x.text⟩⟩), .lit (.slice none 0 0)]) := rfl
      have e2 : storeX 4 (.ptr B 0 0) (.agg [.lit (.int .i64 x.kind), .lit (.int .i64 x.place), .lit (.string ⟨⟨x.text⟩⟩), .lit (.slice none 0 0)]) H =
          some (H.set B (.arr ⟨4, false, false, [.agg [.lit (.int .i64 x.kind), .lit (.int .i64 x.place), .lit (.string ⟨⟨x.text⟩⟩), .lit (.slice none 0 0)]]⟩)) := store_at gB rfl rfl (by decide) rfl
      have agree : ∀ y id, Held b o8 o9 os id → (H.set B y)[id]? = H[id]? := fun y id hid => List.getElem?_set_ne (fun e => by have := hlen id hid; omega)
      have hBl : B < H.length := (List.getElem?_eq_some_iff.1 gB).1
      simp only [l1, l2, opt_s, e1, e2, optH_s]
      have := fin st v8 os (.agg [.lit (.int .i64 x.kind), .lit (.int .i64 x.place), .lit (.string ⟨⟨x.text⟩⟩), .lit (.slice none 0 0)]) (.mk x.kind x.place x.text []) [] _ (pH.mono (Nat.le_refl _) (agree _)) ⟨⟨(.agg [.lit (.int .i64 x.kind), .lit (.int .i64 x.place), .lit (.string ⟨⟨x.text⟩⟩), .lit (.slice none 0 0)]), rfl, .mk .nil⟩, rfl, rfl, rfl⟩ (fun id hid => by cases hid) (List.getElem?_set_self hBl) (by simp)
      exact this

end Go.Proofs.Ytcajleckiegffaa

namespace Go.Proofs.Ytcajleckiegffaa
set_option linter.unusedSimpArgs false
set_option linter.unusedVariables false
open Go.Am
set_option maxRecDepth 100000

/-- What tree.Parse answers. -/
noncomputable def parseF (s : List UInt8) : ParseR :=
  if (splitF s).err ≠ 0 then ⟨noTree, (splitF s).err, (splitF s).pos⟩ else if (splitF s).toks.length = 0 then ⟨noTree, 12, s.length⟩ else parseM s.length (splitF s).toks [] []

theorem splitF_len (s : List UInt8) : (splitF s).toks.length ≤ 8192 := by
  rcases splitF_chain s with ⟨he, e, hc, hle⟩ | ⟨_, ht⟩
  · have := chain_len hc
    have := splitF_small s he
    omega
  · rw [ht]; simp

theorem F12_ok {call : CallF} (C : SplitCall call) (s : List UInt8) (h : Heap) :
    ∃ v h', F12 call (.lit (.string ⟨⟨s⟩⟩)) h = some (.tup [v, .lit (.int .i64 (parseF s).err), .lit (.int .i64 (parseF s).pos)], h') ∧ TreeV v (parseF s).tree := by
  obtain ⟨u, h1, h2⟩ := C.split s (h ++ [.arr ⟨4, false, false, [zeroT4]⟩])
  have hl := splitF_len s
  unfold parseF
  generalize splitF s = R at h1 h2 hl
  have hb := box_agg (cs := [.lit (.int .i64 0), .lit (.int .i64 0), .lit (.string ⟨⟨[]⟩⟩), .lit (.slice none 0 0)]) h (by simp) rfl
  have gb : (h ++ [AObj.arr ⟨4, false, false, [zeroT4]⟩])[h.length]? = some (.arr ⟨4, false, false, [zeroT4]⟩) := get_last _ _
  have e0 : buildX [.lit (.int .i64 0), .lit (.int .i64 0), .lit (.string ⟨⟨[]⟩⟩), .lit (.slice none 0 0)] [(0, 1), (1, 1), (2, 1), (3, 1)] [] = some zeroT4 := rfl
  have e2 : storeX 4 (.ptr h.length 0 0) zeroT4 (h ++ [.arr ⟨4, false, false, [zeroT4]⟩]) = some ((h ++ [AObj.arr ⟨4, false, false, [zeroT4]⟩]).set h.length (.arr ⟨4, false, false, [zeroT4]⟩)) := store_at gb rfl rfl (by decide) rfl
  have e4 : loadX (some 4) (.ptr h.length 0 0) ((h ++ [AObj.arr ⟨4, false, false, [zeroT4]⟩]).set h.length (.arr ⟨4, false, false, [zeroT4]⟩)) = some zeroT4 := loadA_at (cs := [_, _, _, _]) (List.getElem?_set_self (by simp)) rfl
  simp only [F12]
  rw [hb, opt2_s]
  show ∃ v h', S12_17 call _ _ (h ++ [.arr ⟨4, false, false, [zeroT4]⟩]) = _ ∧ _
  simp only [S12_17, h1, opt2_s, extract_tup, List.getElem?_cons_zero, List.getElem?_cons_succ, opt_s, S12_16, fb_neq, test_b, decide_eq_true_eq]
  by_cases he : R.err = 0
  case neg =>
    rw [if_pos (by omega), if_pos he, e0, opt_s, e2, optH_s, e4, opt_s]
    exact ⟨_, _, rfl, zeroV⟩
  rw [if_neg (by omega), if_neg (by simp [he])]
  simp only [S12_15, h2.len, opt_s, fb_eql, test_b, decide_eq_true_eq, List.length_map]
  by_cases ht : R.toks.length = 0
  · rw [if_pos (by omega), if_pos ht, e0, opt_s, lenStr_s, opt_s, e2, optH_s, e4, opt_s]
    exact ⟨_, _, rfl, zeroV⟩
  rw [if_neg (by omega), if_neg ht]
  simp only [S12_14, S12_13, S12_12, h2.len, opt_s, S12_11, List.length_map]
  have p0 : PInv (h ++ [.arr ⟨4, false, false, [zeroT4]⟩]) h.length (.lit (.slice none 0 0)) (.lit (.slice none 0 0)) [] [] none none [] 0 :=
    ⟨gb, ⟨rfl, rfl, rfl⟩, ⟨[], ⟨rfl, rfl⟩, .nil⟩, (fun id e => by cases e), (fun id e => by cases e), (by simp), .nil, (by simp), (by simp), (by simp)⟩
  have := parse_loop (call := call) (s := s) h2 (by omega) (by omega) rounds 0 [] [] _ _ _ _ _ _ p0 (by omega) (fun _ _ => rfl) (by simp only [rounds]; omega)
  rw [List.drop_zero] at this
  exact this

structure ParseCall (call : CallF) : Prop where
  parse : ∀ (s : List UInt8) h, ∃ v, call 12 [.lit (.string ⟨⟨s⟩⟩)] h = some (.tup [v, .lit (.int .i64 (parseF s).err), .lit (.int .i64 (parseF s).pos)], h) ∧ TreeV v (parseF s).tree

end Go.Proofs.Ytcajleckiegffaa

namespace Go.Proofs.Ytcajleckiegffaa
set_option linter.unusedSimpArgs false
set_option linter.unusedVariables false
open Go.Am
set_option maxRecDepth 100000

/-! ### The plain law of TreeDeep: sixty cases each, run -/

def deepS (n : Nat) : List UInt8 := List.replicate n 40 ++ List.replicate n 41
def wideS (m : Nat) : List UInt8 := [40] ++ (List.replicate m [40, 41]).flatten ++ [41]

def deepOk (n : Nat) : Bool := match lexM (deepS n) 1000 0 0 0 [] [] with
  | some R => Nat.beq R.err 0 && (!Nat.beq R.toks.length 0 && (bif Nat.blt 40 n then Nat.beq (parseM (deepS n).length R.toks [] []).err 14 && Nat.beq (parseM (deepS n).length R.toks [] []).pos 40 else Nat.beq (parseM (deepS n).length R.toks [] []).err 0))
  | none => false

def T.kidsOf : T → List T
  | .mk _ _ _ ks => ks
def T.placeOf : T → Nat
  | .mk _ p _ _ => p

def wideOk (m : Nat) : Bool := match lexM (wideS m) 1000 0 0 0 [] [] with
  | some R => Nat.beq R.err 0 && (!Nat.beq R.toks.length 0 && (Nat.beq (parseM (wideS m).length R.toks [] []).err 0 && (Nat.beq (parseM (wideS m).length R.toks [] []).tree.kidsOf.length m &&
      match (parseM (wideS m).length R.toks [] []).tree.kidsOf[m - 1]? with
      | some t => Nat.beq t.placeOf (2 * m - 1)
      | none => false)))
  | none => false

theorem deep_all : ((List.range 61).all fun n => Nat.beq n 0 || deepOk n) = true := by kernel_rfl
theorem wide_all : ((List.range 61).all fun n => Nat.beq n 0 || wideOk n) = true := by kernel_rfl

end Go.Proofs.Ytcajleckiegffaa

namespace Go.Proofs.Ytcajleckiegffaa
set_option linter.unusedSimpArgs false
set_option linter.unusedVariables false
open Go.Am
set_option maxRecDepth 100000

theorem deep_law (n : Nat) (h0 : 0 < n) (h1 : n ≤ 60) : if 40 < n then (parseF (deepS n)).err = 14 ∧ (parseF (deepS n)).pos = 40 else (parseF (deepS n)).err = 0 := by
  have := List.all_eq_true.1 deep_all n (List.mem_range.2 (by omega))
  rw [Bool.or_eq_true] at this
  have h := this.resolve_left (fun e => by have := Nat.eq_of_beq_eq_true e; omega)
  unfold deepOk at h
  split at h
  · rename_i R hR
    rw [Bool.and_eq_true, Bool.and_eq_true] at h
    obtain ⟨a, b, c⟩ := h
    have e : splitF (deepS n) = R := splitF_of (by simp [deepS]; omega) (by simp only [rounds]; omega) hR
    have a := Nat.eq_of_beq_eq_true a
    have b : ¬ R.toks.length = 0 := fun e => by rw [e] at b; cases b
    have ep : parseF (deepS n) = parseM (deepS n).length R.toks [] [] := by
      unfold parseF
      rw [e, if_neg (by simp [a]), if_neg b]
    rw [ep]
    by_cases hn : 40 < n
    · rw [if_pos hn]
      have : Nat.blt 40 n = true := by simpa [Nat.blt_eq] using hn
      rw [this, cond_true, Bool.and_eq_true] at c
      exact ⟨Nat.eq_of_beq_eq_true c.1, Nat.eq_of_beq_eq_true c.2⟩
    · rw [if_neg hn]
      have : Nat.blt 40 n = false := by
        cases hb : Nat.blt 40 n with
        | false => rfl
        | true => rw [Nat.blt_eq] at hb; omega
      rw [this, cond_false] at c
      exact Nat.eq_of_beq_eq_true c
  · cases h

theorem wide_law (m : Nat) (h0 : 0 < m) (h1 : m ≤ 60) : (parseF (wideS m)).err = 0 ∧ (parseF (wideS m)).tree.kidsOf.length = m ∧ ∃ t, (parseF (wideS m)).tree.kidsOf[m - 1]? = some t ∧ t.placeOf = 2 * m - 1 := by
  have := List.all_eq_true.1 wide_all m (List.mem_range.2 (by omega))
  rw [Bool.or_eq_true] at this
  have h := this.resolve_left (fun e => by have := Nat.eq_of_beq_eq_true e; omega)
  unfold wideOk at h
  split at h
  · rename_i R hR
    rw [Bool.and_eq_true, Bool.and_eq_true, Bool.and_eq_true, Bool.and_eq_true] at h
    obtain ⟨a, b, c, d, e5⟩ := h
    have hlen : ((List.replicate m ([40, 41] : List UInt8)).flatten).length = 2 * m := by simp; omega
    have e : splitF (wideS m) = R := splitF_of (by simp [wideS]; omega) (by simp only [rounds]; omega) hR
    have a := Nat.eq_of_beq_eq_true a
    have b : ¬ R.toks.length = 0 := fun e => by rw [e] at b; cases b
    have ep : parseF (wideS m) = parseM (wideS m).length R.toks [] [] := by
      unfold parseF
      rw [e, if_neg (by simp [a]), if_neg b]
    rw [ep]
    refine ⟨Nat.eq_of_beq_eq_true c, Nat.eq_of_beq_eq_true d, ?_⟩
    split at e5
    · rename_i t ht
      exact ⟨t, ht, Nat.eq_of_beq_eq_true e5⟩
    · cases e5
  · cases h

/-! ### The walk of TreeDeep -/

theorem KidsV.len {kv : AV} {ks : List T} (h : KidsV kv ks) : lenS kv = some (.lit (.int .i64 ks.length)) := by
  cases h with
  | nil => rfl
  | isl hl => rw [lenS_isl, hl.length]

theorem KidsV.ix {kv : AV} {ks : List T} (h : KidsV kv ks) {i : Nat} {t : T} (ht : ks[i]? = some t) (H : Heap) : ∃ w, indexAddrS 4 kv (.lit (.int .i64 (i : Int))) H = some (.iptr w 0) ∧ TreeV w t := by
  cases h with
  | nil => simp at ht
  | isl hl =>
    obtain ⟨w, h1, h2⟩ := hl.get ht
    exact ⟨w, by rw [ixa_isl (Int.natCast_nonneg _), Int.toNat_natCast, h1]; rfl, h2⟩

theorem deep_end {call : CallF} (C : ParseCall call) (hk : ∀ h, call 14 [] h = some (.lit (.bool true), h)) {m : Nat} (h0 : 0 < m) (h1 : m ≤ 60) (h : Heap) :
    ∃ h', S8_0 call (.lit (.int .i64 m)) (.lit (.string ⟨⟨[40] ++ (List.replicate m [40, 41]).flatten⟩⟩)) h = some (.lit (.bool true), h') := by
  have hlen : ((List.replicate m ([40, 41] : List UInt8)).flatten).length = 2 * m := by simp; omega
  obtain ⟨v, c1, c2⟩ := C.parse (wideS m) h
  obtain ⟨l1, l2, t, l3, l4⟩ := wide_law m h0 h1
  simp only [S8_0]
  rw [fb_adds (by simp; omega), opt_s]
  show ∃ h', (opt2 (call 12 [.lit (.string ⟨⟨wideS m⟩⟩)] h) _) = _
  rw [c1, opt2_s]
  generalize parseF (wideS m) = P at c1 c2 l1 l2 l3
  obtain ⟨tree, err, pos⟩ := P
  simp only at c2 l1 l2 l3
  subst l1
  cases c2 with
  | @mk k p tx kv ks hkv =>
    simp only [T.kidsOf] at l2 l3
    have hb : box (.agg [.lit (.int .i64 0), .lit (.int .i64 0), .lit (.string ⟨⟨[]⟩⟩), .lit (.slice none 0 0)]) h = some (.ptr h.length 0 0, h ++ [.arr ⟨4, false, false, [.agg [.lit (.int .i64 0), .lit (.int .i64 0), .lit (.string ⟨⟨[]⟩⟩), .lit (.slice none 0 0)]]⟩]) := box_agg h (by simp) rfl
    have hok : ([.lit (.int .i64 k), .lit (.int .i64 p), .lit (.string ⟨⟨tx⟩⟩), kv] : List AV).all okCell = true := by
      have := hkv.free.2
      simp [okCell, cellOk] at this ⊢
      exact this
    have hs := store_box (n := 4) (cs := [.lit (.int .i64 0), .lit (.int .i64 0), .lit (.string ⟨⟨[]⟩⟩), .lit (.slice none 0 0)]) (ds := [.lit (.int .i64 k), .lit (.int .i64 p), .lit (.string ⟨⟨tx⟩⟩), kv]) h rfl rfl (by decide) hok
    simp only [extract_tup, List.getElem?_cons_zero, List.getElem?_cons_succ, opt_s]
    rw [hb, opt2_s]
    rw [hs, optH_s, fb_eql, opt_s, test_b, if_pos (by simp)]
    have ek : loadX none (.ptr h.length 0 3) (h ++ [.arr ⟨4, false, false, [.agg [.lit (.int .i64 k), .lit (.int .i64 p), .lit (.string ⟨⟨tx⟩⟩), kv]]⟩]) = some kv := load_box h 4 3 false false _
    obtain ⟨w, x1, x2⟩ := hkv.ix l3 (h ++ [.arr ⟨4, false, false, [.agg [.lit (.int .i64 k), .lit (.int .i64 p), .lit (.string ⟨⟨tx⟩⟩), kv]]⟩])
    simp only [fa_ptr, Nat.zero_add, opt_s, ek, hkv.len, l2, fb_eql, test_b, decide_true, if_true, fb_sub, fb_mul]
    rw [wrap64 (n := (m : Int) - 1) (by omega) (by omega), show (m : Int) - 1 = ((m - 1 : Nat) : Int) by omega, x1, opt_s, fa_iptr, opt_s]
    cases x2 with
    | @mk k2 p2 tx2 kv2 ks2 hkv2 =>
      simp only [T.placeOf] at l4
      rw [load_iptr]
      simp only [List.getElem?_cons_succ, List.getElem?_cons_zero, opt_s, Nat.zero_add]
      rw [wrap64 (n := 2 * (m : Int)) (by omega) (by omega), wrap64 (by omega) (by omega), fb_eql, opt_s, test_b, if_pos (by simp; omega), hk, opt2_s]
      exact ⟨_, rfl⟩

theorem tree_box {v : AV} {t : T} (tv : TreeV v t) (h : Heap) (k : AV → Heap → Res) :
    (opt2 (box (.agg [.lit (.int .i64 0), .lit (.int .i64 0), .lit (.string ⟨⟨[]⟩⟩), .lit (.slice none 0 0)]) h) fun p h1 => optH (storeX 4 p v h1) fun h2 => k p h2) = k (.ptr h.length 0 0) (h ++ [.arr ⟨4, false, false, [v]⟩]) := by
  obtain ⟨f1, f2, f3, f4⟩ := tv.cells
  cases tv with
  | @mk kk p tx kv ks hkv =>
    have hb : box (.agg [.lit (.int .i64 0), .lit (.int .i64 0), .lit (.string ⟨⟨[]⟩⟩), .lit (.slice none 0 0)]) h = some (.ptr h.length 0 0, h ++ [.arr ⟨4, false, false, [.agg [.lit (.int .i64 0), .lit (.int .i64 0), .lit (.string ⟨⟨[]⟩⟩), .lit (.slice none 0 0)]]⟩]) := box_agg h (by simp) rfl
    have hs := store_box (n := 4) (cs := [.lit (.int .i64 0), .lit (.int .i64 0), .lit (.string ⟨⟨[]⟩⟩), .lit (.slice none 0 0)]) (ds := [.lit (.int .i64 kk), .lit (.int .i64 p), .lit (.string ⟨⟨tx⟩⟩), kv]) h rfl rfl (by decide) f3
    rw [hb, opt2_s, hs, optH_s]

theorem wide_loop {call : CallF} (C : ParseCall call) (hk : ∀ h, call 14 [] h = some (.lit (.bool true), h)) {m : Nat} (h0 : 0 < m) (h1 : m ≤ 60) :
    ∀ (k i : Nat) (h : Heap), i ≤ m → m - i < k → ∃ h', S8_1l call k (.lit (.int .i64 m)) (.lit (.string ⟨⟨[40] ++ (List.replicate i [40, 41]).flatten⟩⟩)) (.lit (.int .i64 i)) h = some (.lit (.bool true), h') := by
  intro k
  induction k with
  | zero => intro i h _ hk; omega
  | succ k ih =>
    intro i h hi hk2
    show ∃ h', S8_2b call (S8_1l call k) _ _ _ h = _
    simp only [S8_2b, fb_lss, opt_s, test_b, decide_eq_true_eq]
    by_cases hlt : i < m
    · have hlen : ((List.replicate i ([40, 41] : List UInt8)).flatten).length = 2 * i := by simp; omega
      rw [if_pos (by omega), fb_adds (by simp; omega), opt_s, fb_add, opt_s, wrap64 (by omega) (by omega)]
      have e : [40] ++ (List.replicate i ([40, 41] : List UInt8)).flatten ++ [40, 41] = [40] ++ (List.replicate (i + 1) [40, 41]).flatten := by
        rw [List.replicate_succ', List.flatten_append]; simp
      rw [e]
      exact ih (i + 1) h (by omega) (by omega)
    · rw [if_neg (by omega)]
      have : i = m := by omega
      subst this
      exact deep_end C hk h0 h1 h

theorem after_deep {call : CallF} (C : ParseCall call) (hk : ∀ h, call 14 [] h = some (.lit (.bool true), h)) {n m : Nat} (n0 : 0 < n) (n1 : n ≤ 60) (h0 : 0 < m) (h1 : m ≤ 60) (h : Heap) :
    ∃ h', S8_7 call (.lit (.int .i64 n)) (.lit (.int .i64 m)) (.lit (.string ⟨⟨deepS n⟩⟩)) h = some (.lit (.bool true), h') := by
  obtain ⟨v, c1, c2⟩ := C.parse (deepS n) h
  have law := deep_law n n0 n1
  simp only [S8_7, c1, opt2_s, extract_tup, List.getElem?_cons_zero, List.getElem?_cons_succ, opt_s]
  generalize parseF (deepS n) = P at c1 c2 law
  rw [tree_box c2]
  have go : ∀ h, ∃ h', S8_5 call (.lit (.int .i64 m)) h = some (.lit (.bool true), h') := fun h => by
    simp only [S8_5, S8_4, S8_3]
    have := wide_loop C hk h0 h1 rounds 0 h (by omega) (by simp only [rounds]; omega)
    simpa using this
  simp only [S8_6, fb_gtr, opt_s, test_b, fb_neq, decide_eq_true_eq]
  by_cases hn : 40 < n
  · rw [if_pos hn] at law
    rw [if_pos (by omega), if_neg (by omega), if_neg (by omega)]
    exact go _
  · rw [if_neg hn] at law
    rw [if_neg (by omega), if_neg (by omega)]
    exact go _

theorem close_loop {call : CallF} (C : ParseCall call) (hk : ∀ h, call 14 [] h = some (.lit (.bool true), h)) {n m : Nat} (n0 : 0 < n) (n1 : n ≤ 60) (h0 : 0 < m) (h1 : m ≤ 60) :
    ∀ (k i : Nat) (h : Heap), i ≤ n → n - i < k → ∃ h', S8_8l call k (.lit (.int .i64 n)) (.lit (.int .i64 m)) (.lit (.string ⟨⟨List.replicate n 40 ++ List.replicate i 41⟩⟩)) (.lit (.int .i64 i)) h = some (.lit (.bool true), h') := by
  intro k
  induction k with
  | zero => intro i h _ hk; omega
  | succ k ih =>
    intro i h hi hk2
    show ∃ h', S8_9b call (S8_8l call k) _ _ _ _ h = _
    simp only [S8_9b, fb_lss, opt_s, test_b, decide_eq_true_eq]
    by_cases hlt : i < n
    · rw [if_pos (by omega), fb_adds (by simp; omega), opt_s, fb_add, opt_s, wrap64 (by omega) (by omega)]
      have e : List.replicate n (40 : UInt8) ++ List.replicate i 41 ++ [41] = List.replicate n 40 ++ List.replicate (i + 1) 41 := by
        rw [List.replicate_succ', List.append_assoc]
      rw [e]
      exact ih (i + 1) h (by omega) (by omega)
    · rw [if_neg (by omega)]
      have : i = n := by omega
      subst this
      exact after_deep C hk n0 n1 h0 h1 h

theorem open_loop {call : CallF} (C : ParseCall call) (hk : ∀ h, call 14 [] h = some (.lit (.bool true), h)) {n m : Nat} (n0 : 0 < n) (n1 : n ≤ 60) (h0 : 0 < m) (h1 : m ≤ 60) :
    ∀ (k i : Nat) (h : Heap), i ≤ n → n - i < k → ∃ h', S8_12l call k (.lit (.int .i64 n)) (.lit (.int .i64 m)) (.lit (.string ⟨⟨List.replicate i 40⟩⟩)) (.lit (.int .i64 i)) h = some (.lit (.bool true), h') := by
  intro k
  induction k with
  | zero => intro i h _ hk; omega
  | succ k ih =>
    intro i h hi hk2
    show ∃ h', S8_13b call (S8_12l call k) _ _ _ _ h = _
    simp only [S8_13b, fb_lss, opt_s, test_b, decide_eq_true_eq]
    by_cases hlt : i < n
    · rw [if_pos (by omega), fb_adds (by simp; omega), opt_s, fb_add, opt_s, wrap64 (by omega) (by omega)]
      have e : List.replicate i (40 : UInt8) ++ [40] = List.replicate (i + 1) 40 := by rw [List.replicate_succ']
      rw [e]
      exact ih (i + 1) h (by omega) (by omega)
    · rw [if_neg (by omega)]
      have : i = n := by omega
      subst this
      simp only [S8_11, S8_10]
      have := close_loop C hk n0 n1 h0 h1 rounds 0 h (by omega) (by simp only [rounds]; omega)
      simpa using this

theorem abs60 (a : Int) (h1 : -9223372036854775808 ≤ a) (h2 : a ≤ 9223372036854775807) : ∃ n : Nat, 0 < n ∧ n ≤ 60 ∧
    ((a < 0 → 1 + (0 - (a + 1)).tmod 60 = n) ∧ (¬ a < 0 → 1 + a.tmod 60 = n)) := by
  by_cases h : a < 0
  · refine ⟨1 + (0 - (a + 1)).toNat % 60, by omega, by omega, fun _ => ?_, fun h' => absurd h h'⟩
    rw [Int.tmod_eq_emod_of_nonneg (by omega)]; omega
  · refine ⟨1 + a.toNat % 60, by omega, by omega, fun h' => absurd h' h, fun _ => ?_⟩
    rw [Int.tmod_eq_emod_of_nonneg (by omega)]; omega

theorem F8_ok {call : CallF} (C : ParseCall call) (hk : ∀ h, call 14 [] h = some (.lit (.bool true), h)) (a b : Int) (a1 : -9223372036854775808 ≤ a) (a2 : a ≤ 9223372036854775807) (b1 : -9223372036854775808 ≤ b) (b2 : b ≤ 9223372036854775807) (h : Heap) :
    ∃ h', F8 call (.lit (.int .i64 a)) (.lit (.int .i64 b)) h = some (.lit (.bool true), h') := by
  obtain ⟨n, n0, n1, na, nb⟩ := abs60 a a1 a2
  obtain ⟨m, m0, m1, ma, mb⟩ := abs60 b b1 b2
  have run : ∀ b', 1 + b'.tmod 60 = (m : Int) → ∀ a', 1 + a'.tmod 60 = (n : Int) → ∃ h', S8_18 call (.lit (.int .i64 a')) (.lit (.int .i64 b')) h = some (.lit (.bool true), h') := by
    intro b' hb a' ha
    simp only [S8_18]
    rw [rem_int (by decide), opt_s, fb_add, opt_s, wrap64 (by omega) (by omega), ha]
    simp only [S8_17]
    rw [rem_int (by decide), opt_s, fb_add, opt_s, wrap64 (by omega) (by omega), hb]
    simp only [S8_16, S8_15, S8_14]
    have := open_loop C hk n0 n1 m0 m1 rounds 0 h (by omega) (by simp only [rounds]; omega)
    simpa using this
  have run2 : ∀ a', 1 + a'.tmod 60 = (n : Int) → ∃ h', S8_19 call (.lit (.int .i64 a')) (.lit (.int .i64 b)) h = some (.lit (.bool true), h') := by
    intro a' ha
    simp only [S8_19, fb_lss, opt_s, test_b, decide_eq_true_eq]
    by_cases hb : b < 0
    · rw [if_pos hb, fb_add, opt_s, wrap64 (by omega) (by omega), neg_int, opt_s, kwrap64 (by omega) (by omega)]
      exact run _ (ma hb) _ ha
    · rw [if_neg hb]; exact run _ (mb hb) _ ha
  simp only [F8, S8_20, fb_lss, opt_s, test_b, decide_eq_true_eq]
  by_cases ha : a < 0
  · rw [if_pos ha, fb_add, opt_s, wrap64 (by omega) (by omega), neg_int, opt_s, kwrap64 (by omega) (by omega)]
    exact run2 _ (na ha)
  · rw [if_neg ha]; exact run2 _ (nb ha)

end Go.Proofs.Ytcajleckiegffaa

namespace Go.Proofs.Ytcajleckiegffaa
set_option linter.unusedSimpArgs false
set_option linter.unusedVariables false
open Go.Am
set_option maxRecDepth 100000

/-! ### chapter 4's runs, by the machine itself -/

noncomputable def kenv4 : Env where
  P := Try.prog
  prim := fun f => bif Nat.beq f 24 then some joinPrim else none
  how := fun _ => .alone
  reg := regA Try.prog
  gl := gl

theorem kenv4_ok : EnvOk kenv4 where
  names := namesOk
  reg := fun _ h => regA_ok namesOk mixedOrders h
  prim := fun f p h => by
    simp only [kenv4] at h
    cases hb : Nat.beq f 24 with
    | false => rw [hb] at h; cases h
    | true =>
      rw [hb] at h
      cases h
      have := Nat.eq_of_beq_eq_true hb
      subst this
      exact join_ok Try.strings_Join_none Try.strings_Join
  low := lowOk

set_option maxRecDepth 100000 in
theorem known4_ran : isR (acall kenv4 100 14 [] []) (.lit (.bool true)) = true := by kernel_rfl

theorem known4_prim : PrimOk Try.prog gl 14 knownP := table_ok kenv4_ok (n := 100) (f := 14) fun x hx => by
  rcases List.mem_singleton.1 hx with rfl
  exact isR_spec known4_ran

/-! ### Contracts over any table that holds these functions -/

structure HasLex (E : SEnv) : Prop where
  p10 : E.prim 10 = none
  p11 : E.prim 11 = some knownP
  p20 : E.prim 20 = none
  p21 : E.prim 21 = none
  p28 : E.prim 28 = none
  f10 : E.fns 10 = some (.alone, N10)
  f20 : E.fns 20 = some (.alone, N20)
  f21 : E.fns 21 = some (.alone, N21)
  f28 : E.fns 28 = some (.alone, N28)

theorem HasLex.call28 {E : SEnv} (H : HasLex E) (n : Nat) (x y r : AV) (h : Heap) (hx : snaps h [x, y] = some ([x, y], [])) (hl : litCall Try.prog [x, y] 34 = some r) (hr : ∃ ids, snapR [] r = some (r, ids)) : scall E (n + 1) 28 [x, y] h = some (r, h) :=
  alone_call H.p28 H.f28 hx (r0 := r) (hc := []) (by simp only [N28, F28, hl, opt_s]) hr

theorem HasLex.call21 {E : SEnv} (H : HasLex E) (n : Nat) (x y r : AV) (h : Heap) (hx : ∀ h, snaps h [x, y] = some ([x, y], [])) (hl : litCall Try.prog [x, y] 34 = some r) (hr : ∃ ids, snapR [] r = some (r, ids)) : scall E (n + 2) 21 [x, y] h = some (r, h) :=
  alone_call H.p21 H.f21 (hx h) (r0 := r) (hc := []) (by simp only [N21, F21, H.call28 n x y r [] (hx _) hl hr, opt2_s]) hr

theorem HasLex.lex {E : SEnv} (H : HasLex E) (n : Nat) : LexCall (scall E (n + 3)) where
  hex := fun c h => H.call21 (n + 1) hexC _ _ h (fun _ => rfl) (hex_lit c) ⟨[], rfl⟩
  sp := fun c h => by
    obtain ⟨z, h1, h2⟩ := sp_lit c
    exact ⟨z, H.call21 (n + 1) spC _ _ h (fun _ => rfl) h1 ⟨[], rfl⟩, h2⟩
  esc := fun l h => alone_call H.p20 H.f20 rfl (hc := []) (esc_ok _ (fun c h => H.call21 n hexC _ _ h (fun _ => rfl) (hex_lit c) ⟨[], rfl⟩) l []) ⟨[], rfl⟩

theorem HasLex.split {E : SEnv} (H : HasLex E) (n : Nat) : SplitCall (scall E (n + 4)) where
  split := fun s h => by
    obtain ⟨v, hc, o, h1, h2⟩ := F10_ok (H.lex n) s []
    obtain ⟨u, ids, h3, h4⟩ := SliceV.of h2 (tok_free _)
    refine ⟨u, alone_call H.p10 H.f10 rfl h1 ⟨ids, ?_⟩, h4⟩
    simp only [snapR, snaps, h3, snap1_lit, List.append_nil, Option.map_some]
  known := fun h => prim_call (p := knownP) H.p11 rfl rfl

structure HasParse (E : SEnv) : Prop extends HasLex E where
  p12 : E.prim 12 = none
  f12 : E.fns 12 = some (.alone, N12)

theorem HasParse.parse {E : SEnv} (H : HasParse E) (n : Nat) : ParseCall (scall E (n + 5)) where
  parse := fun s h => by
    obtain ⟨v, hc, h1, h2⟩ := F12_ok (H.toHasLex.split n) s []
    refine ⟨v, alone_call H.p12 H.f12 rfl h1 ⟨[], ?_⟩, h2⟩
    simp only [snapR, snaps, h2.snap, snap1_lit, List.append_nil, Option.map_some]

end Go.Proofs.Ytcajleckiegffaa
