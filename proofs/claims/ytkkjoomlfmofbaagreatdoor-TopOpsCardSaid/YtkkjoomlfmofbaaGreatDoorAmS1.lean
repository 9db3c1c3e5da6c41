import Derived.Test.YtkkjoomlfmofbaaGreatDoorAmP
set_option linter.unusedSectionVars false
/-! The machine in continuation form: every operation by what the program's types say of it. -/
namespace Go
set_option linter.unusedSimpArgs false
set_option linter.unusedVariables false

theorem Sem.peval_bind {α β : Type} (p : Program) : ∀ (s : Sem α) (f : α → Sem β), (s >>= f).peval p = (s.peval p).bind fun a => (f a).peval p
  | .pure a, f => rfl
  | .program k, f => by
    show ((k p) >>= f).peval p = _
    exact Sem.peval_bind p (k p) f
  | .mark m k, f => by
    show (k >>= f).peval p = _
    exact Sem.peval_bind p k f
  | .load .., _ => rfl
  | .store .., _ => rfl
  | .new .., _ => rfl
  | .shape .., _ => rfl
  | .freeze .., _ => rfl
  | .frozen .., _ => rfl
  | .getObj .., _ => rfl
  | .setObj .., _ => rfl
  | .choose .., _ => rfl
  | .sys .., _ => rfl
  | .halt .., _ => rfl

namespace Am

variable {P : Program} {T : Tr}

abbrev Res := Option (AV × Heap)
abbrev Kt := Tr → Heap → Res

/-! ### Places by their path -/

def Tr.path : Nat → Nat → List Bool
  | 0, _ => []
  | f + 1, n => bif Nat.beq n 0 then [] else bif Nat.beq (n % 2) 1 then true :: Tr.path f (n / 2) else false :: Tr.path f (n / 2 - 1)

def Tr.walk : List Bool → Tr → AV
  | [], s => s.top
  | true :: p, s => Tr.walk p s.left
  | false :: p, s => Tr.walk p s.right

def Tr.rd (s : Tr) (t : Nat) : AV := Tr.walk (Tr.path 64 t) s

theorem Tr.get_leaf (n : Nat) : Tr.get .leaf n = .lit undef := by unfold Tr.get; rfl

theorem Tr.walk_get : ∀ (f n : Nat) (s : Tr), n < 2 ^ f → Tr.walk (Tr.path f n) s = s.get n
  | 0, n, s, h => by
    have : n = 0 := by simpa using h
    subst this
    cases s <;> simp [Tr.path, Tr.walk, Tr.top, Tr.get]
  | f + 1, n, s, h => by
    rw [Nat.pow_succ] at h
    unfold Tr.path
    cases h0 : Nat.beq n 0 with
    | true =>
      have := Nat.eq_of_beq_eq_true h0
      subst this
      cases s <;> simp [Tr.walk, Tr.top, Tr.get]
    | false =>
      cases h1 : Nat.beq (n % 2) 1 with
      | true =>
        simp only [cond_false, cond_true, Tr.walk]
        rw [Tr.walk_get f (n / 2) _ (by omega)]
        cases s with
        | leaf => simp [Tr.left, Tr.get_leaf]
        | node v l r => simp only [Tr.left, Tr.get, h0, h1, cond_false, cond_true]
      | false =>
        simp only [cond_false, Tr.walk]
        rw [Tr.walk_get f (n / 2 - 1) _ (by omega)]
        cases s with
        | leaf => simp [Tr.right, Tr.get_leaf]
        | node v l r => simp only [Tr.right, Tr.get, h0, h1, cond_false]

theorem Tr.rd_get (s : Tr) {n : Nat} (h : n ≤ 9223372036854775808) : s.rd n = s.get n := Tr.walk_get 64 n s (by omega)

def evK (s : Tr) : Operand → AV
  | .tmp t => bif Nat.ble t 4294967296 then s.rd t else .lit undef
  | .const v => ofVal v
  | .global g => bif Nat.ble g 4294967296 then globOf g (s.rd (4294967297 + g)) else globOf g (s.get (4294967297 + g))
  | .func f => .fn (.func f) [] []

theorem evK_eq (s : Tr) : evK s = ev s := by
  funext x
  cases x with
  | tmp t =>
    simp only [evK, ev, Tr.tmp]
    cases h : Nat.ble t 4294967296 with
    | false => rfl
    | true => rw [Tr.rd_get s (by have := Nat.le_of_ble_eq_true h; omega)]
  | «global» g =>
    simp only [evK, ev]
    cases h : Nat.ble g 4294967296 with
    | false => rfl
    | true => rw [Tr.rd_get s (by have := Nat.le_of_ble_eq_true h; omega)]; rfl
  | _ => rfl

/-! ### What an operation answers, its types resolved -/

def opt (r : Option AV) (k : AV → Res) : Res :=
  match r with
  | some v => k v
  | none => none

def opt2 (r : Option (AV × Heap)) (k : AV → Heap → Res) : Res :=
  match r with
  | some (v, h) => k v h
  | none => none

def optH (r : Option Heap) (k : Heap → Res) : Res :=
  match r with
  | some h => k h
  | none => none

def test (v : AV) (t f : Res) : Res :=
  match v with
  | .lit (.bool true) => t
  | .lit (.bool false) => f
  | _ => none

def split (v : AV) (k : AV → Res) : Res := test v (k (.lit (.bool true))) (k (.lit (.bool false)))

theorem opt_some {r : Option AV} {k : AV → Res} {x : AV × Heap} (h : opt r k = some x) : ∃ v, r = some v ∧ k v = some x := by
  unfold opt at h
  split at h
  · exact ⟨_, rfl, h⟩
  · cases h

theorem opt2_some {r : Option (AV × Heap)} {k : AV → Heap → Res} {x : AV × Heap} (h : opt2 r k = some x) : ∃ v h', r = some (v, h') ∧ k v h' = some x := by
  unfold opt2 at h
  split at h
  · exact ⟨_, _, rfl, h⟩
  · cases h

theorem optH_some {r : Option Heap} {k : Heap → Res} {x : AV × Heap} (h : optH r k = some x) : ∃ h', r = some h' ∧ k h' = some x := by
  unfold optH at h
  split at h
  · exact ⟨_, rfl, h⟩
  · cases h

theorem split_some {v : AV} {k : AV → Res} {x : AV × Heap} (h : split v k = some x) : k v = some x := by
  unfold split test at h
  split at h
  · exact h
  · exact h
  · cases h

def aggKind (P : Program) (t : TypeId) : Option (Option Nat) :=
  match aggT P t with
  | some true => (sizeT P t).map some
  | some false => some none
  | none => none

def readX (g : Option Nat) (cs : List AV) (off : Nat) : Option AV :=
  match g with
  | some n => if off + n ≤ cs.length then some (.agg ((cs.drop off).take n)) else none
  | none => cs[off]?

theorem readX_eq {t : TypeId} {g : Option Nat} (hg : aggKind P t = some g) (cs : List AV) (off : Nat) : readAt P t cs off = readX g cs off := by
  unfold aggKind at hg
  unfold readAt readX
  split at hg
  · rename_i ha
    rw [ha]
    cases hs : sizeT P t with
    | none => rw [hs] at hg; cases hg
    | some n => rw [hs] at hg; cases hg; rfl
  · rename_i ha
    rw [ha]
    cases hg; rfl
  · cases hg

def loadX (g : Option Nat) (a : AV) (h : Heap) : Option AV :=
  match a with
  | .iptr e off => readX g (cellsOf e) off
  | .ptr id i off => match h[id]? with
    | some (.arr A) => match A.elems[i]? with
      | some e => readX g (cellsOf e) off
      | none => none
    | _ => none
  | _ => none

theorem loadX_eq {t : TypeId} {g : Option Nat} (hg : aggKind P t = some g) (a : AV) (h : Heap) : load P t a h = loadX g a h := by
  unfold load loadX
  cases a <;> simp only [readX_eq hg] <;> rfl

def storeX (sz : Nat) (a v : AV) (h : Heap) : Option Heap :=
  match a with
  | .ptr id i off => match h[id]? with
    | some (.arr A) =>
      if A.shared then none else
      match A.elems[i]? with
      | some e =>
        let put (v : AV) : Option Heap :=
          let new := cellsOf v
          if sz = new.length ∧ off + new.length ≤ (cellsOf e).length ∧ new.all okCell then
            some (h.set id (.arr { A with elems := A.elems.set i (reElem (overwrite (cellsOf e) off new)) }))
          else none
        if A.row ∧ (cellsOf v).length = A.sz then
          match snap1 h v with
          | some (v', ids) => if id ∈ ids then none else (put v').map (mark ids)
          | none => put v
        else put v
      | none => none
    | _ => none
  | _ => none

theorem storeX_eq {t : TypeId} {sz : Nat} (hs : sizeT P t = some sz) (a v : AV) (h : Heap) : store P t a v h = storeX sz a v h := by
  unfold store storeX
  simp only [hs, Option.some.injEq]
  rfl

def fieldKind (P : Program) (t : TypeId) (f : Nat) : Option (Option Nat × Nat) :=
  match P.underlying t with
  | some (.struct fields) => match fields[f]? with
    | some fd => match aggKind P fd.type with
      | some g => some (g, fd.offset)
      | none => none
    | none => none
  | _ => none

def fieldX (g : Option Nat) (off : Nat) (x : AV) : Option AV :=
  match x with
  | .agg cs => readX g cs off
  | _ => none

theorem fieldX_eq {t : TypeId} {f : Nat} {g : Option Nat} {off : Nat} (hk : fieldKind P t f = some (g, off)) (x : AV) : field P t x f = fieldX g off x := by
  unfold fieldKind at hk
  unfold field fieldX
  split at hk
  · rename_i fields hu
    split at hk
    · rename_i fd hf
      split at hk
      · rename_i g' ha
        cases hk
        rw [hu]
        cases x <;> simp only [hf, readX_eq ha]
      · cases hk
    · cases hk
  · cases hk

def fieldOff (P : Program) (s : TypeId) (f : Nat) : Option Nat :=
  match P.underlying s with
  | some (.struct fields) => match fields[f]? with
    | some fd => match sizeT P fd.type with
      | some 0 | none => none
      | some _ => some fd.offset
    | none => none
  | _ => none

def fieldAddrX (o : Nat) (x : AV) : Option AV :=
  match x with
  | .iptr e off => some (.iptr e (off + o))
  | .ptr id i off => some (.ptr id i (off + o))
  | _ => none

theorem fieldAddrX_eq {s : TypeId} {f o : Nat} (hk : fieldOff P s f = some o) (x : AV) : fieldAddr P s x f = fieldAddrX o x := by
  unfold fieldOff at hk
  unfold fieldAddr fieldAddrX
  split at hk
  · rename_i fields hu
    split at hk
    · rename_i fd hf
      rw [hu]
      simp only [hf]
      split at hk
      · cases hk
      · cases hk
      · rename_i hs h2; cases hk; simp only [h2]; rfl
    · cases hk
  · cases hk

inductive IxK where
  | slice (sz : Nat)
  | array (len sz : Nat)

def ixKind (P : Program) (t : TypeId) : Option IxK :=
  match P.underlying t with
  | some (.slice e) => (sizeT P e).map .slice
  | some (.array len e) => (sizeT P e).map (.array len)
  | _ => none

def indexAddrS (sz : Nat) (x ix : AV) (h : Heap) : Option AV :=
  match intLit ix with
  | some n => match x with
    | .isl z _ l => if sz = z then (l[n]?).map (.iptr · 0) else none
    | .sl id off len _ => match h[id]? with
      | some (.arr A) => if sz = A.sz ∧ n < len ∧ off + n < A.elems.length then some (.ptr id (off + n) 0) else none
      | _ => none
    | _ => none
  | none => none

def indexAddrA (len z : Nat) (x ix : AV) : Option AV :=
  match intLit ix with
  | some n => if n < len then
      match x with
      | .iptr v off => some (.iptr v (off + n * z))
      | .ptr id i off => some (.ptr id i (off + n * z))
      | _ => none
    else none
  | none => none

theorem indexAddrS_eq {t : TypeId} {sz : Nat} (hk : ixKind P t = some (.slice sz)) (x ix : AV) (h : Heap) : indexAddr P t x ix h = indexAddrS sz x ix h := by
  unfold ixKind at hk
  unfold indexAddr indexAddrS
  split at hk
  · rename_i e hu
    cases hs : sizeT P e with
    | none => rw [hs] at hk; cases hk
    | some z =>
      rw [hs] at hk; cases hk
      rw [hu]
      cases intLit ix with
      | none => rfl
      | some n => simp only [hs, Option.some.injEq]; rfl
  · rename_i len e hu
    cases hs : sizeT P e with
    | none => rw [hs] at hk; cases hk
    | some z => rw [hs] at hk; cases hk
  · cases hk

theorem indexAddrA_eq {t : TypeId} {len sz : Nat} (hk : ixKind P t = some (.array len sz)) (x ix : AV) (h : Heap) : indexAddr P t x ix h = indexAddrA len sz x ix := by
  unfold ixKind at hk
  unfold indexAddr indexAddrA
  split at hk
  · rename_i e hu
    cases hs : sizeT P e with
    | none => rw [hs] at hk; cases hk
    | some z => rw [hs] at hk; cases hk
  · rename_i len e hu
    cases hs : sizeT P e with
    | none => rw [hs] at hk; cases hk
    | some z =>
      rw [hs] at hk; cases hk
      rw [hu]
      cases intLit ix with
      | none => rfl
      | some n => simp only [hs]; rfl
  · cases hk

inductive AtK where
  | str
  | array (len sz : Nat) (g : Option Nat)

def atKind (P : Program) (t : TypeId) : Option AtK :=
  match P.underlying t with
  | some .string => some .str
  | some (.array len e) => match sizeT P e, aggKind P e with
    | some z, some g => some (.array len z g)
    | _, _ => none
  | _ => none

def indexX (len z : Nat) (g : Option Nat) (x ix : AV) : Option AV :=
  match x with
  | .agg cs => match intLit ix with
    | some n => if n < len then readX g cs (n * z) else none
    | none => none
  | _ => none

theorem indexX_eq {t : TypeId} {len z : Nat} {g : Option Nat} (hk : atKind P t = some (.array len z g)) (x ix v : AV) (h : indexX len z g x ix = some v) : fastIndex x ix = none ∧ index P t x ix = some v := by
  unfold atKind at hk
  split at hk
  · cases hk
  · rename_i len e hu
    split at hk
    · rename_i z' g' hs ha
      cases hk
      unfold indexX at h
      cases x with
      | agg cs =>
        simp only at h
        cases hn : intLit ix with
        | none => rw [hn] at h; cases h
        | some n =>
          rw [hn] at h
          refine ⟨by simp [fastIndex], ?_⟩
          unfold index
          rw [hu, hn]
          simp only [hs, readX_eq ha]
          exact h
      | _ => cases h
    · cases hk
  · cases hk

def fieldPlaces (P : Program) (fields : List Field) : Option (List (Nat × Nat)) := fields.mapM fun f => (sizeT P f.type).map fun n => (f.offset, n)

inductive BdK where
  | struct (zero : List AV) (places : List (Nat × Nat))
  | array (zero : List AV) (n : Nat)

def buildKind (P : Program) (t : TypeId) : Option BdK :=
  match (zeroT P t).map cellsOf, P.underlying t with
  | some zero, some (.struct fields) => (fieldPlaces P fields.toList).map (.struct zero)
  | some zero, some (.array _ elem) => (sizeT P elem).map (.array zero)
  | _, _ => none

def buildX (zero : List AV) (places : List (Nat × Nat)) (parts : List (Nat × AV)) : Option AV := (fillA (places[·]?) zero parts).map .agg

def buildXA (zero : List AV) (n : Nat) (parts : List (Nat × AV)) : Option AV := (fillA (fun i => some (i * n, n)) zero parts).map .agg

theorem buildX_eq {t : TypeId} {zero : List AV} {places : List (Nat × Nat)} (hk : buildKind P t = some (.struct zero places)) (parts : List (Nat × AV)) : build P t parts = buildX zero places parts := by
  unfold buildKind at hk
  unfold build buildX
  split at hk
  · rename_i zero' fields hz hu
    cases hp : fieldPlaces P fields.toList with
    | none => rw [hp] at hk; cases hk
    | some pl =>
      rw [hp] at hk; cases hk
      rw [hz, hu]
      unfold fieldPlaces at hp
      simp only [hp]
  · rename_i zero' len elem hz hu
    cases hs : sizeT P elem with
    | none => rw [hs] at hk; cases hk
    | some z => rw [hs] at hk; cases hk
  · cases hk

theorem buildXA_eq {t : TypeId} {zero : List AV} {n : Nat} (hk : buildKind P t = some (.array zero n)) (parts : List (Nat × AV)) : build P t parts = buildXA zero n parts := by
  unfold buildKind at hk
  unfold build buildXA
  split at hk
  · rename_i zero' fields hz hu
    cases hp : fieldPlaces P fields.toList with
    | none => rw [hp] at hk; cases hk
    | some pl => rw [hp] at hk; cases hk
  · rename_i zero' len elem hz hu
    cases hs : sizeT P elem with
    | none => rw [hs] at hk; cases hk
    | some z =>
      rw [hs] at hk; cases hk
      rw [hz, hu]
      simp only [hs]
  · cases hk

/-- Of a slice's type: an element's size, what is the zero of it, its bytes. -/
def elemKind (P : Program) (t : TypeId) : Option (Nat × AV × Nat) :=
  match elemT P t with
  | some e => match P.info? e with
    | some i => match i.zero.map ofVal with
      | some z => if i.size = 0 ∨ (cellsOf z).length ≠ i.size ∨ (cellsOf z).all okCell = false then none else some (i.size, z, i.bytes)
      | none => none
    | none => none
  | none => none

def bsliceX (sz : Nat) (z : AV) (len : Nat) (parts : List (Nat × AV)) (h : Heap) : Option (AV × Heap) :=
  match setElems sz (List.replicate len (reElem (cellsOf z))) parts with
  | some es => match (if es.all free1 = true then snaps h es else none) with
    | some (es', ids) => some (.isl sz true es', mark ids h)
    | none => some (.sl h.length 0 len true, new h sz es)
  | none => none

theorem bsliceX_eq {t : TypeId} {sz bytes len : Nat} {z : AV} (hk : elemKind P t = some (sz, z, bytes)) (hl : len * sz ≤ 16777216) (parts : List (Nat × AV)) (h : Heap) : buildSlice P t len parts h = bsliceX sz z len parts h := by
  unfold elemKind at hk
  unfold buildSlice bsliceX
  split at hk
  · rename_i e he
    split at hk
    · rename_i i hi
      split at hk
      · rename_i z' hz
        split at hk
        · cases hk
        · rename_i hn
          cases hk
          simp only [he, hi, hz]
          rw [if_neg (by simp only [not_or] at hn ⊢; exact ⟨hn.1, by omega⟩), if_neg (by simp only [not_or] at hn ⊢; exact hn.2)]; rfl
      · cases hk
    · cases hk
  · cases hk

def mksliceX (sz : Nat) (z : AV) (bytes : Nat) (len cap : AV) (h : Heap) : Option (AV × Heap) :=
  match intLit len, intLit cap with
  | some n, some c => if n > c ∨ c * (bytes + 1) > 140737488355328 then none else bif Nat.beq c 0 && ptrZero z then some (.isl sz true [], h) else some (.sl h.length 0 n (n == c), new h sz (List.replicate n (reElem (cellsOf z))))
  | _, _ => none

theorem mksliceX_eq {t : TypeId} {sz bytes : Nat} {z : AV} (hk : elemKind P t = some (sz, z, bytes)) (len cap : AV) (h : Heap) : makeSlice P t len cap h = mksliceX sz z bytes len cap h := by
  unfold elemKind at hk
  unfold makeSlice mksliceX
  split at hk
  · rename_i e he
    split at hk
    · rename_i i hi
      split at hk
      · rename_i z' hz
        split at hk
        · cases hk
        · rename_i hn
          cases hk
          simp only [not_or] at hn
          cases intLit len <;> cases intLit cap <;> simp only [he, hi, hz]
          rename_i n c
          by_cases hc : n > c ∨ c * (i.bytes + 1) > 140737488355328
          · rw [if_pos hc, if_pos (by rcases hc with hc | hc; exact .inr (.inl hc); exact .inr (.inr hc))]
          · rw [if_neg hc, if_neg (by simp only [not_or] at hc ⊢; exact ⟨hn.1, hc.1, hc.2⟩), if_neg (by simp only [not_or]; exact hn.2)]
      · cases hk
    · cases hk
  · cases hk

def appKind (P : Program) (sT xT : TypeId) : Option (Nat × Nat) :=
  match elemT P sT, srcT P xT with
  | some eT, true => match P.info? eT with
    | some i => if i.size = 0 then none else match i.zero with
      | some z => if z.cells.size ≠ i.size then none else some (i.size, i.bytes)
      | none => none
    | none => none
  | _, _ => none

def roomy (bytes n : Nat) : Bool := decide ((2 * n + 1024) * (bytes + 1) ≤ 140737488355328)

def appendX (sz bytes : Nat) (s x : AV) (h : Heap) : Option (AV × Heap) :=
  match elemsOf h sz x with
  | some ys =>
    if ys.isEmpty then
      match s with
      | .lit (.slice none 0 0) | .isl .. | .sl .. => some (s, h)
      | _ => none
    else
    match s with
    | .lit (.slice none 0 0) => if roomy bytes ys.length then some (.sl h.length 0 ys.length false, new h sz ys) else none
    | .isl z true l => if z = sz ∧ roomy bytes (l.length + ys.length) then some (.sl h.length 0 (l.length + ys.length) false, new h sz (l ++ ys)) else none
    | .sl id off len full => match h[id]? with
      | some (.arr A) =>
        if A.sz = sz ∧ full = false ∧ A.shared = false ∧ off + len + ys.length ≤ A.elems.length then
          some (.sl id off (len + ys.length) false, h.set id (.arr { A with elems := A.elems.take (off + len) ++ ys ++ A.elems.drop (off + len + ys.length) }))
        else if A.sz = sz ∧ off + len ≤ A.elems.length ∧ roomy bytes (len + ys.length) then
          let v := (A.elems.drop off).take len
          if full then some (.sl h.length 0 (len + ys.length) false, new h sz (v ++ ys))
          else if A.shared ∧ off + len ≠ A.elems.length then none
          else some (.sl h.length 0 (len + ys.length) false, h.set id .dead ++ [.arr { sz := sz, row := true, shared := A.shared, elems := v ++ ys }])
        else none
      | _ => none
    | _ => none
  | none => none

theorem appendX_eq {sT xT : TypeId} {sz bytes : Nat} (hk : appKind P sT xT = some (sz, bytes)) (s x : AV) (h : Heap) : append P sT xT s x h = appendX sz bytes s x h := by
  unfold appKind at hk
  unfold append appendX
  split at hk
  · rename_i eT he hs
    split at hk
    · rename_i i hi
      split at hk
      · cases hk
      · rename_i h0
        split at hk
        · rename_i z hz
          split at hk
          · cases hk
          · rename_i hc
            cases hk
            simp only [he, hs, hi, hz, if_neg h0]
            cases elemsOf h i.size x with
            | none => rfl
            | some ys => simp only [if_neg hc]; rfl
        · cases hk
    · cases hk
  · cases hk

def cutKind (P : Program) (t : TypeId) : Option Nat := (elemT P t).bind (sizeT P)

def cutX (sz : Nat) (x : AV) (lo hi mx : Option AV) (h : Heap) : Option AV :=
  let go (len : Nat) (full : Bool) : Option (Nat × Nat × Bool) :=
    if mx.isSome ∧ hi.isNone then none else
    match bound 0 lo, bound len hi, bound len mx with
    | some l, some r, some m => if l ≤ r ∧ r ≤ m ∧ m ≤ len then some (l, r, if mx.isSome then m == r else full && r == len) else none
    | _, _, _ => none
  match x with
  | .isl z full v => if sz = z then
      match go v.length full with
      | some (l, r, f) => some (.isl z f ((v.drop l).take (r - l)))
      | none => none
    else none
  | .sl id off len full => match h[id]? with
    | some (.arr A) => if sz = A.sz then cutS A id off len full lo hi mx else none
    | _ => none
  | _ => none

theorem cutX_eq {t : TypeId} {sz : Nat} (hk : cutKind P t = some sz) (x : AV) (lo hi mx : Option AV) (h : Heap) : cut P t x lo hi mx h = cutX sz x lo hi mx h := by
  unfold cutKind at hk
  unfold cut cutX
  cases he : elemT P t with
  | none => rw [he] at hk; cases hk
  | some e =>
    rw [he] at hk
    simp only [Option.bind_some] at hk
    simp only [hk, Option.some.injEq]
    rfl

end Am
end Go
