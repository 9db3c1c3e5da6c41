import GoSem.Claims
import Derived.Calls
import Derived.Tactics
import Derived.DeepKeys3
set_option linter.unusedSimpArgs false
set_option linter.unusedVariables false
set_option linter.unusedSectionVars false
/-! The abstract machine: a deterministic interpreter of the loaded code over values without addresses. -/
namespace Go

/-- What a computation answers that asks nothing of the world. -/
def Sem.peval {α : Type} (p : Program) : Sem α → Option α
  | .pure a => some a
  | .program k => (k p).peval p
  | .mark _ k => k.peval p
  | _ => none

namespace Am

inductive AV where
  | lit (v : Value)
  | junk
  | agg (cs : List AV)
  | tup (vs : List AV)
  | isl (sz : Nat) (full : Bool) (l : List AV)
  | iptr (e : AV) (off : Nat)
  | sl (id off len : Nat) (full : Bool)
  | ptr (id i off : Nat)
  | map (id : Nat)
  | fn (f : Fn) (first cap : List AV)
  | iface (t : TypeId) (v : AV)
  | sym (n : Nat)
  deriving Inhabited

/-- What the symbols stand for: numbers of two parts. Of 1000 and 1001 it is known that they are unlike, of 1002 that it is not 0, of 1003 and 1004 that they are alike. -/
class Nu where
  re : Nat → Nat
  im : Nat → Nat
  eql : ∀ a b, (a = 1000 ∨ a = 1001) → (b = 1000 ∨ b = 1001) → Op.complexOp .eql .f64 (re a) (im a) (re b) (im b) = pure (.bool (Nat.beq a b))
  neq : ∀ a b, (a = 1000 ∨ a = 1001) → (b = 1000 ∨ b = 1001) → Op.complexOp .neq .f64 (re a) (im a) (re b) (im b) = pure (.bool !(Nat.beq a b))
  eql0 : Op.complexOp .eql .f64 (re 1002) (im 1002) 0 0 = pure (.bool false)
  neq0 : Op.complexOp .neq .f64 (re 1002) (im 1002) 0 0 = pure (.bool true)
  eqlA : Op.complexOp .eql .f64 (re 1003) (im 1003) (re 1004) (im 1004) = pure (.bool true)
  neqA : Op.complexOp .neq .f64 (re 1003) (im 1003) (re 1004) (im 1004) = pure (.bool false)

@[reducible] def Nu.val [Nu] (n : Nat) : Value := .complex .f64 (Nu.re n) (Nu.im n)

structure Arr where
  sz : Nat
  row : Bool
  shared : Bool
  elems : List AV
  deriving Inhabited

/-- What goes through a text, or through a map. -/
inductive It where
  | str (s : ByteArray) (pos : Nat)
  | none
  | ent (m since : Nat) (seen : List Nat) (last : Nat)
  deriving Inhabited

inductive AObj where
  | arr (a : Arr)
  | map (es : List (Value × AV × Nat)) (clock : Nat)
  | siter (x : It)
  | dead
  deriving Inhabited

def AObj.isDead : AObj → Bool
  | .dead => true
  | _ => false

abbrev Heap := List AObj

/-- A frame's places, by number. -/
inductive Tr where
  | leaf
  | node (v : AV) (l r : Tr)
  deriving Inhabited

def Tr.get : Tr → Nat → AV
  | .leaf, _ => .lit undef
  | .node v l r, n => bif Nat.beq n 0 then v else bif Nat.beq (n % 2) 1 then l.get (n / 2) else r.get (n / 2 - 1)

def Tr.left : Tr → Tr
  | .leaf => .leaf
  | .node _ l _ => l
def Tr.right : Tr → Tr
  | .leaf => .leaf
  | .node _ _ r => r
def Tr.top : Tr → AV
  | .leaf => .lit undef
  | .node v _ _ => v

def Tr.set : Nat → Tr → Nat → AV → Tr
  | 0, t, _, _ => t
  | f + 1, t, n, v => bif Nat.beq n 0 then .node v t.left t.right
    else bif Nat.beq (n % 2) 1 then .node t.top (Tr.set f t.left (n / 2) v) t.right
    else .node t.top t.left (Tr.set f t.right (n / 2 - 1) v)

structure St where
  n : Nat
  s : Tr
  h : Heap
  deriving Inhabited

inductive AExit where
  | normal
  | exit (id : Nat)
  | goto (l : Nat)
  | ret

def isAggV : Value → Bool
  | .agg _ => true
  | _ => false

def cellOk : Value → Bool
  | .agg _ | .tuple _ => false
  | _ => true

def ofCell (v : Value) : AV := if cellOk v then .lit v else .junk

def ofVal : Value → AV
  | .agg cs => .agg (cs.toList.map ofCell)
  | .tuple vs => match vs.toList with
    | [] => .lit (.tuple #[])
    | l => .tup (l.map fun
      | .agg cs => .agg (cs.toList.map ofCell)
      | v => ofCell v)
  | v => .lit v

/-- May this stand in a cell of memory? -/
def okCell : AV → Bool
  | .lit v => cellOk v
  | .junk | .agg _ | .tup _ => false
  | _ => true

def cellsOf : AV → List AV
  | .agg cs => cs
  | v => [v]

def litCell : AV → Option Value
  | .lit v => if cellOk v then some v else none
  | _ => none

def toLit : AV → Option Value
  | .lit v => some v
  | .agg cs => (cs.mapM litCell).map fun l => .agg l.toArray
  | _ => none

/-- A frame's place; what stands behind all places tells the package's variables. -/
def Tr.tmp (s : Tr) (t : Nat) : AV := bif Nat.ble t 4294967296 then s.get t else .lit undef

def globOf (g : Nat) (v : AV) : AV :=
  match v with
  | .iptr e o => .iptr e o
  | _ => .lit (.pointer (some ⟨g, 0, none⟩))

def ev (s : Tr) : Operand → AV
  | .tmp t => s.tmp t
  | .const v => ofVal v
  | .global g => globOf g (s.get (4294967297 + g))
  | .func f => .fn (.func f) [] []

/-! ### Types -/

def sizeT (P : Program) (t : TypeId) : Option Nat := (P.info? t).map (·.size)

def aggT (P : Program) (t : TypeId) : Option Bool :=
  (P.underlying t).map fun
    | .struct _ | .array _ _ => true
    | _ => false

def zeroT (P : Program) (t : TypeId) : Option AV :=
  match P.info? t with
  | some i => i.zero.map ofVal
  | none => none

def elemT (P : Program) (t : TypeId) : Option TypeId :=
  match P.underlying t with
  | some (.slice e) => some e
  | _ => none

/-! ### What is free of references into the heap -/

def freeCell : AV → Bool
  | .lit _ | .isl .. | .iptr .. | .sym _ => true
  | .iface _ (.lit _) => true
  | .fn _ [] [] => true
  | .fn _ [] [.iptr _ _] => true
  | _ => false

def free1 : AV → Bool
  | .agg cs => cs.all freeCell
  | v => freeCell v

def snapCs (f : AV → Option (AV × List Nat)) : List AV → Option (List AV × List Nat)
  | [] => some ([], [])
  | c :: cs => match f c, snapCs f cs with
    | some (c', i), some (cs', j) => some (c' :: cs', i ++ j)
    | _, _ => none

def snapE (f : AV → Option (AV × List Nat)) : AV → Option (AV × List Nat)
  | .agg cs => (snapCs f cs).map fun (cs', i) => (.agg cs', i)
  | v => f v

/-- Rows within rows, read off to some depth. -/
def snapD (h : Heap) : Nat → AV → Option (AV × List Nat)
  | 0, v => if freeCell v then some (v, []) else none
  | k + 1, .sl id off len full =>
    match h[id]? with
    | some (.arr A) =>
      if off + len ≤ A.elems.length then
        match snapCs (snapE (snapD h k)) ((A.elems.drop off).take len) with
        | some (l, ids) => some (.isl A.sz full l, id :: ids)
        | none => none
      else none
    | _ => none
  | _ + 1, v => if freeCell v then some (v, []) else none

/-- A cell without references: what it is, and which rows it was read out of. -/
def snapCell (h : Heap) : AV → Option (AV × List Nat)
  | .sl id off len full =>
    match h[id]? with
    | some (.arr A) =>
      if off + len ≤ A.elems.length then
        let v := (A.elems.drop off).take len
        if v.all free1 then some (.isl A.sz full v, [id]) else
        match snapCs (snapE (snapD h 8)) v with
        | some (l, ids) => some (.isl A.sz full l, id :: ids)
        | none => none
      else none
    | _ => none
  | v => if freeCell v then some (v, []) else none

def snapCells (h : Heap) : List AV → Option (List AV × List Nat)
  | [] => some ([], [])
  | c :: cs => match snapCell h c, snapCells h cs with
    | some (c', i), some (cs', j) => some (c' :: cs', i ++ j)
    | _, _ => none

def snap1 (h : Heap) : AV → Option (AV × List Nat)
  | .agg cs => (snapCells h cs).map fun (cs', i) => (.agg cs', i)
  | v => snapCell h v

def snaps (h : Heap) : List AV → Option (List AV × List Nat)
  | [] => some ([], [])
  | c :: cs => match snap1 h c, snaps h cs with
    | some (c', i), some (cs', j) => some (c' :: cs', i ++ j)
    | _, _ => none

def snapR (h : Heap) : AV → Option (AV × List Nat)
  | .tup vs => (snaps h vs).map fun (vs', i) => (.tup vs', i)
  | v => snap1 h v

def flatCell : AV → Bool
  | .lit _ => true
  | _ => false

def flat : AV → Bool
  | .agg cs => cs.all flatCell
  | .tup vs => vs.all fun
    | .agg cs => cs.all flatCell
    | v => flatCell v
  | v => flatCell v

def share : AObj → AObj
  | .arr A => .arr { A with shared := true }
  | o => o

def mark (ids : List Nat) (h : Heap) : Heap := ids.foldl (fun h i => h.modify i share) h

/-! ### Memory -/

def readAt (P : Program) (t : TypeId) (cs : List AV) (off : Nat) : Option AV :=
  match aggT P t with
  | some true => match sizeT P t with
    | some n => if off + n ≤ cs.length then some (.agg ((cs.drop off).take n)) else none
    | none => none
  | some false => cs[off]?
  | none => none

def load (P : Program) (t : TypeId) (a : AV) (h : Heap) : Option AV :=
  match a with
  | .iptr e off => readAt P t (cellsOf e) off
  | .ptr id i off => match h[id]? with
    | some (.arr A) => match A.elems[i]? with
      | some e => readAt P t (cellsOf e) off
      | none => none
    | _ => none
  | _ => none

def overwrite (cs : List AV) (off : Nat) (new : List AV) : List AV := cs.take off ++ new ++ cs.drop (off + new.length)

def reElem : List AV → AV
  | [c] => c
  | cs => .agg cs

def store (P : Program) (t : TypeId) (a v : AV) (h : Heap) : Option Heap :=
  match a with
  | .ptr id i off => match h[id]? with
    | some (.arr A) =>
      if A.shared then none else
      match A.elems[i]? with
      | some e =>
        let put (v : AV) : Option Heap :=
          let new := cellsOf v
          if sizeT P t = some new.length ∧ off + new.length ≤ (cellsOf e).length ∧ new.all okCell then
            some (h.set id (.arr { A with elems := A.elems.set i (reElem (overwrite (cellsOf e) off new)) }))
          else none
        if A.row ∧ (cellsOf v).length = A.sz then
          match snap1 h v with
          | some (v', ids) => if id ∈ ids then none else (put v').map (mark ids)
          | none => put v
        else put v
      | none => none
    | _ => none
  | _ => none

/-- A new row behind all others. -/
def new (h : Heap) (sz : Nat) (elems : List AV) : Heap := h ++ [.arr { sz, row := true, shared := false, elems }]

def box (v : AV) (h : Heap) : Option (AV × Heap) :=
  let n := (cellsOf v).length
  if n = 0 ∨ (cellsOf v).all okCell = false then none else some (.ptr h.length 0 0, h ++ [.arr { sz := n, row := false, shared := false, elems := [v] }])

/-! ### Operations -/

def litOp (P : Program) (e : Operand → AV) (o : Oper) : Option AV :=
  if o.op.operands.all fun x => (toLit (e x)).isSome then
    match (execOp (fun x => (toLit (e x)).getD undef) o).peval P with
    | some (.value v) => some (ofVal v)
    | _ => none
  else none

def fastWrap (k : IntKind) (n : Int) : Int :=
  match k with
  | .i64 => if -9223372036854775808 ≤ n ∧ n ≤ 9223372036854775807 then n else IntKind.i64.wrap n
  | .u8 => if 0 ≤ n ∧ n ≤ 255 then n else IntKind.u8.wrap n
  | k => k.wrap n

def kindNo : IntKind → Nat
  | .i8 => 0 | .i16 => 1 | .i32 => 2 | .i64 => 3 | .u8 => 4 | .u16 => 5 | .u32 => 6 | .u64 => 7

/-- Two numbers, texts or truths. -/
def fastBin (op : BinOp) (x y : AV) : Option AV :=
  match x, y with
  | .lit (.int k a), .lit (.int k' b) =>
    if Nat.beq (kindNo k) (kindNo k') then
      match op with
      | .add => some (.lit (.int k (fastWrap k (a + b))))
      | .sub => some (.lit (.int k (fastWrap k (a - b))))
      | .mul => some (.lit (.int k (fastWrap k (a * b))))
      | .eql => some (.lit (.bool (a == b)))
      | .neq => some (.lit (.bool (a != b)))
      | .lss => some (.lit (.bool (a < b)))
      | .leq => some (.lit (.bool (a ≤ b)))
      | .gtr => some (.lit (.bool (a > b)))
      | .geq => some (.lit (.bool (a ≥ b)))
      | _ => none
    else none
  | .lit (.string a), .lit (.string b) =>
    match op with
    | .add => if a.data.toList.length + b.data.toList.length < 2 ^ 60 then some (.lit (.string ⟨⟨a.data.toList ++ b.data.toList⟩⟩)) else none
    | .eql => some (.lit (.bool (a.data.toList == b.data.toList)))
    | .neq => some (.lit (.bool !(a.data.toList == b.data.toList)))
    | _ => none
  | .sym a, .sym b =>
    if (Nat.beq a 1000 || Nat.beq a 1001) && (Nat.beq b 1000 || Nat.beq b 1001) then
      match op with
      | .eql => some (.lit (.bool (Nat.beq a b)))
      | .neq => some (.lit (.bool !(Nat.beq a b)))
      | _ => none
    else if Nat.beq a 1003 && Nat.beq b 1004 then
      match op with
      | .eql => some (.lit (.bool true))
      | .neq => some (.lit (.bool false))
      | _ => none
    else none
  | .sym a, .lit (.complex .f64 r i) =>
    if Nat.beq a 1002 && (Nat.beq r 0 && Nat.beq i 0) then
      match op with
      | .eql => some (.lit (.bool false))
      | .neq => some (.lit (.bool true))
      | _ => none
    else none
  | _, _ => none

def fastIndex (x ix : AV) : Option AV :=
  match x, ix with
  | .lit (.string s), .lit (.int _ n) => if 0 ≤ n then (s.data.toList[n.toNat]?).map fun b => .lit (.int .u8 b.toNat) else none
  | _, _ => none

def intLit : AV → Option Nat
  | .lit (.int _ n) => if 0 ≤ n then some n.toNat else none
  | _ => none

def part (P : Program) (t : TypeId) (cs : List AV) (off : Nat) : Option AV := readAt P t cs off

/-- The elements of what is appended or copied. -/
def elemsOf (h : Heap) (sz : Nat) : AV → Option (List AV)
  | .lit (.slice none 0 0) => some []
  | .lit (.string s) => if sz = 1 then some (s.data.toList.map fun b => .lit (.int .u8 b.toNat)) else none
  | .isl z _ l => if z = sz then some l else none
  | .sl id off len _ => match h[id]? with
    | some (.arr A) => if A.sz = sz ∧ off + len ≤ A.elems.length then some ((A.elems.drop off).take len) else none
    | _ => none
  | _ => none

def srcT (P : Program) (t : TypeId) : Bool :=
  match P.underlying t with
  | some (.slice _) | some .string => true
  | _ => false

def append (P : Program) (sT xT : TypeId) (s x : AV) (h : Heap) : Option (AV × Heap) :=
  match elemT P sT, srcT P xT with
  | some eT, true =>
    match P.info? eT with
    | some i =>
      if i.size = 0 then none else
      match elemsOf h i.size x, i.zero with
      | some ys, some z =>
        if z.cells.size ≠ i.size then none else
        if ys.isEmpty then
          match s with
          | .lit (.slice none 0 0) | .isl .. | .sl .. => some (s, h)
          | _ => none
        else
        let roomy (n : Nat) : Bool := decide ((2 * n + 1024) * (i.bytes + 1) ≤ 2 ^ 47)
        match s with
        | .lit (.slice none 0 0) => if roomy ys.length then some (.sl h.length 0 ys.length false, new h i.size ys) else none
        | .isl z true l => if z = i.size ∧ roomy (l.length + ys.length) then some (.sl h.length 0 (l.length + ys.length) false, new h i.size (l ++ ys)) else none
        | .sl id off len full => match h[id]? with
          | some (.arr A) =>
            if A.sz = i.size ∧ full = false ∧ A.shared = false ∧ off + len + ys.length ≤ A.elems.length then
              some (.sl id off (len + ys.length) false, h.set id (.arr { A with elems := A.elems.take (off + len) ++ ys ++ A.elems.drop (off + len + ys.length) }))
            else if A.sz = i.size ∧ off + len ≤ A.elems.length ∧ roomy (len + ys.length) then
              let v := (A.elems.drop off).take len
              if full then some (.sl h.length 0 (len + ys.length) false, new h i.size (v ++ ys))
              else if A.shared ∧ off + len ≠ A.elems.length then none
              else some (.sl h.length 0 (len + ys.length) false, h.set id .dead ++ [.arr { sz := i.size, row := true, shared := A.shared, elems := v ++ ys }])
            else none
          | _ => none
        | _ => none
      | _, _ => none
    | none => none
  | _, _ => none

def isIntT (P : Program) (t : TypeId) : Bool :=
  match P.underlying t with
  | some (.int _) => true
  | _ => false

/-- append(s, make([]T, n)...). -/
def appendN (P : Program) (sT : TypeId) (s x : AV) (h : Heap) : Option (AV × Heap) :=
  match elemT P sT, x with
  | some eT, .lit (.int _ n) =>
    if n < 0 ∨ 140737488355328 < n then none else
    match P.info? eT with
    | some i =>
      if i.size = 0 then none else
      match i.zero with
      | some z =>
        if z.cells.size ≠ i.size ∨ (cellsOf (ofVal z)).length ≠ i.size ∨ (cellsOf (ofVal z)).all okCell = false then none else
        let ys := List.replicate n.toNat (reElem (cellsOf (ofVal z)))
        if ys.isEmpty then none else
        let roomy (n : Nat) : Bool := decide ((2 * n + 1024) * (i.bytes + 1) ≤ 2 ^ 47)
        match s with
        | .lit (.slice none 0 0) => if roomy ys.length then some (.sl h.length 0 ys.length false, new h i.size ys) else none
        | _ => none
      | none => none
    | none => none
  | _, _ => none

def copyTo (P : Program) (dT : TypeId) (d x : AV) (h : Heap) : Option (AV × Heap) :=
  match (elemT P dT).bind (sizeT P) with
  | some sz =>
    if sz = 0 then none else
    match elemsOf h sz x, d with
    | some ys, .sl id off len _ => match h[id]? with
      | some (.arr A) =>
        if A.sz = sz ∧ A.shared = false ∧ off + len ≤ A.elems.length ∧ ys.length ≤ len then
          some (.lit (goInt ys.length), h.set id (.arr { A with elems := A.elems.take off ++ ys ++ A.elems.drop (off + ys.length) }))
        else none
      | _ => none
    | _, _ => none
  | none => none

def fillA (place : Nat → Option (Nat × Nat)) : List AV → List (Nat × AV) → Option (List AV)
  | cs, [] => some cs
  | cs, (i, v) :: rest => match place i with
    | none => none
    | some (off, size) =>
      if (cellsOf v).length = size ∧ off + size ≤ cs.length ∧ (cellsOf v).all okCell then fillA place (overwrite cs off (cellsOf v)) rest else none

def build (P : Program) (t : TypeId) (parts : List (Nat × AV)) : Option AV :=
  match (zeroT P t).map cellsOf, P.underlying t with
  | some zero, some (.struct fields) =>
    match fields.toList.mapM fun f => (sizeT P f.type).map fun n => (f.offset, n) with
    | some places => (fillA (places[·]?) zero parts).map .agg
    | none => none
  | some zero, some (.array _ elem) =>
    match sizeT P elem with
    | some n => (fillA (fun i => some (i * n, n)) zero parts).map .agg
    | none => none
  | _, _ => none

def setElems (sz : Nat) : List AV → List (Nat × AV) → Option (List AV)
  | es, [] => some es
  | es, (i, v) :: rest => if (cellsOf v).length = sz ∧ i < es.length ∧ (cellsOf v).all okCell then setElems sz (es.set i (reElem (cellsOf v))) rest else none

def buildSlice (P : Program) (t : TypeId) (len : Nat) (parts : List (Nat × AV)) (h : Heap) : Option (AV × Heap) :=
  match elemT P t with
  | some e => match P.info? e with
    | some i =>
      if i.size = 0 ∨ len * i.size > 2 ^ 24 then none else
      match i.zero.map ofVal with
      | some z =>
        if (cellsOf z).length ≠ i.size ∨ (cellsOf z).all okCell = false then none else
        match setElems i.size (List.replicate len (reElem (cellsOf z))) parts with
        | some es => match (if es.all free1 = true then snaps h es else none) with
          | some (es', ids) => some (.isl i.size true es', mark ids h)
          | none => some (.sl h.length 0 len true, new h i.size es)
        | none => none
      | none => none
    | none => none
  | none => none

/-- Rows of pointers without a place take no memory. -/
def ptrZero : AV → Bool
  | .lit (.pointer none) => true
  | _ => false

def makeSlice (P : Program) (t : TypeId) (len cap : AV) (h : Heap) : Option (AV × Heap) :=
  match intLit len, intLit cap, elemT P t with
  | some n, some c, some e => match P.info? e with
    | some i =>
      if i.size = 0 ∨ n > c ∨ c * (i.bytes + 1) > 2 ^ 47 then none else
      match i.zero.map ofVal with
      | some z => if (cellsOf z).length ≠ i.size ∨ (cellsOf z).all okCell = false then none else
        bif Nat.beq c 0 && ptrZero z then some (.isl i.size true [], h) else some (.sl h.length 0 n (n == c), new h i.size (List.replicate n (reElem (cellsOf z))))
      | none => none
    | none => none
  | _, _, _ => none

/-- A bound of a cut: given and a number, or what stands for it. -/
def bound (d : Nat) : Option AV → Option Nat
  | none => some d
  | some v => intLit v

/-- A piece of a slice of the heap: up to what its row surely has; '.junk' where the piece may have less room than its row. -/
def cutS (A : Arr) (id off len : Nat) (full : Bool) (lo hi mx : Option AV) : Option AV :=
  let room := if full then len else max len (A.elems.length - off)
  if mx.isSome ∧ hi.isNone then none else
  match bound 0 lo, bound len hi, bound room mx with
  | some l, some r, some m =>
    if l ≤ r ∧ r ≤ m ∧ m ≤ room then
      let f := if mx.isSome then m == r else full && r == len
      if f = false ∧ off + m < A.elems.length then some .junk else some (.sl id (off + l) (r - l) f)
    else none
  | _, _, _ => none

def cut (P : Program) (t : TypeId) (x : AV) (lo hi mx : Option AV) (h : Heap) : Option AV :=
  match elemT P t with
  | some e =>
    let go (len : Nat) (full : Bool) : Option (Nat × Nat × Bool) :=
      if mx.isSome ∧ hi.isNone then none else
      match bound 0 lo, bound len hi, bound len mx with
      | some l, some r, some m => if l ≤ r ∧ r ≤ m ∧ m ≤ len then some (l, r, if mx.isSome then m == r else full && r == len) else none
      | _, _, _ => none
    match x with
    | .isl z full v => if sizeT P e = some z then
        match go v.length full with
        | some (l, r, f) => some (.isl z f ((v.drop l).take (r - l)))
        | none => none
      else none
    | .sl id off len full => match h[id]? with
      | some (.arr A) => if sizeT P e = some A.sz then cutS A id off len full lo hi mx else none
      | _ => none
    | _ => none
  | none => none

/-- A piece of a text. -/
def fastCut (x : AV) (lo hi mx : Option AV) : Option AV :=
  match x, mx with
  | .lit (.string s), none =>
    match bound 0 lo, bound s.data.toList.length hi with
    | some l, some r => if l ≤ r ∧ r ≤ s.data.toList.length then some (.lit (.string ⟨⟨(s.data.toList.drop l).take (r - l)⟩⟩)) else none
    | _, _ => none
  | _, _ => none

def fieldAddr (P : Program) (s : TypeId) (x : AV) (f : Nat) : Option AV :=
  match P.underlying s with
  | some (.struct fields) => match fields[f]? with
    | some fd =>
      match sizeT P fd.type with
      | some 0 | none => none
      | some _ => match x with
        | .iptr e off => some (.iptr e (off + fd.offset))
        | .ptr id i off => some (.ptr id i (off + fd.offset))
        | _ => none
    | none => none
  | _ => none

def field (P : Program) (t : TypeId) (x : AV) (f : Nat) : Option AV :=
  match P.underlying t, x with
  | some (.struct fields), .agg cs => match fields[f]? with
    | some fd => readAt P fd.type cs fd.offset
    | none => none
  | _, _ => none

def indexAddr (P : Program) (t : TypeId) (x ix : AV) (h : Heap) : Option AV :=
  match intLit ix, P.underlying t with
  | some n, some (.slice e) => match x with
    | .isl z _ l => if sizeT P e = some z then (l[n]?).map (.iptr · 0) else none
    | .sl id off len _ => match h[id]? with
      | some (.arr A) => if sizeT P e = some A.sz ∧ n < len ∧ off + n < A.elems.length then some (.ptr id (off + n) 0) else none
      | _ => none
    | _ => none
  | some n, some (.array len e) => match sizeT P e with
    | some z => if n < len then
        match x with
        | .iptr v off => some (.iptr v (off + n * z))
        | .ptr id i off => some (.ptr id i (off + n * z))
        | _ => none
      else none
    | none => none
  | _, _ => none

def index (P : Program) (t : TypeId) (x ix : AV) : Option AV :=
  match intLit ix, P.underlying t, x with
  | some n, some (.array len e), .agg cs => match sizeT P e with
    | some z => if n < len then readAt P e cs (n * z) else none
    | none => none
  | _, _, _ => none

def bytesOf : List AV → Option (List UInt8)
  | [] => some []
  | .lit (.int .u8 n) :: r => (bytesOf r).map (UInt8.ofNat n.toNat :: ·)
  | _ => none

def convert (P : Program) (src dst : TypeId) (x : AV) (h : Heap) : Option AV :=
  match P.underlying src, P.underlying dst with
  | some .string, some (.slice e) => match P.underlying e, x with
    | some (.int .u8), .lit (.string s) => some (.isl 1 false (s.data.toList.map fun b => .lit (.int .u8 b.toNat)))
    | _, _ => none
  | some (.slice e), some .string => match P.underlying e with
    | some (.int .u8) => match x with
      | .lit (.string _) => none
      | _ => match elemsOf h 1 x with
        | some l => (bytesOf l).map fun b => .lit (.string ⟨b.toArray⟩)
        | none => none
    | _ => none
  | _, _ => none

def lenOf : AV → Option Nat
  | .isl _ _ l => some l.length
  | .sl _ _ len _ => some len
  | _ => none

/-- Kinds of types that know nil: pointers, slices, functions. -/
inductive NilK where
  | ptr | slice | func | iface | none

def nilKind (P : Program) (t : TypeId) : NilK :=
  match P.underlying t with
  | some (.pointer _) => .ptr
  | some (.slice _) => .slice
  | some (.func _ _ _) => .func
  | some (.interface _) => .iface
  | _ => .none

def isNil (k : NilK) (x : AV) : Bool :=
  match k with
  | .ptr => match x with
    | .lit (.pointer none) => true
    | _ => false
  | .slice => match x with
    | .lit (.slice none 0 0) => true
    | _ => false
  | .func => match x with
    | .lit .nilFunc => true
    | _ => false
  | .iface => match x with
    | .lit .nilIface => true
    | _ => false
  | .none => false

def isThere (k : NilK) (x : AV) : Bool :=
  match k with
  | .ptr => match x with
    | .ptr .. | .iptr .. => true
    | _ => false
  | .slice => match x with
    | .sl .. | .isl _ _ (_ :: _) => true
    | _ => false
  | .func => match x with
    | .fn .. => true
    | _ => false
  | .iface => match x with
    | .iface .. => true
    | _ => false
  | .none => false

/-- '==' and '!=' of what is not nil and nil. -/
def nilTest (P : Program) (op : BinOp) (t : TypeId) (x y : AV) : Option AV :=
  let k := nilKind P t
  if (isNil k y && isThere k x) || (isNil k x && isThere k y) then
    match op with
    | .eql => some (.lit (.bool false))
    | .neq => some (.lit (.bool true))
    | _ => none
  else none

/-! maps, texts that are gone through -/

/-- Rows of whole numbers, one by one. -/
def intsSame : List Value → List Value → Option Bool
  | [], [] => some true
  | .int k a :: x, .int k' b :: y => bif Nat.beq (kindNo k) (kindNo k') then (match intsSame x y with
    | some r => some (a == b && r)
    | none => none) else none
  | _, _ => none

def keySame : Value → Value → Option Bool
  | .agg a, .agg b => intsSame a.toList b.toList
  | .int k a, .int k' b => bif Nat.beq (kindNo k) (kindNo k') then some (a == b) else none
  | .string a, .string b => some (a.data.toList == b.data.toList)
  | .bool a, .bool b => some (a == b)
  | _, _ => none

def findA (k : Value) : List (Value × AV × Nat) → Nat → Option (Option (Nat × AV))
  | [], _ => some none
  | e :: es, i => match keySame k e.1 with
    | some true => some (some (i, e.2.1))
    | some false => findA k es (i + 1)
    | none => none

/-- A key that is compared at once, by its type. -/
def keyLit (P : Program) (t : TypeId) (x : AV) : Option Value :=
  match P.underlying t, x with
  | some (.int k), .lit (.int k' n) => bif Nat.beq (kindNo k) (kindNo k') then some (.int k' n) else none
  | some .string, .lit (.string s) => some (.string s)
  | some .bool, .lit (.bool b) => some (.bool b)
  | some (.array _ _), .agg cs => match cs.mapM litCell with
    | some l => if P.keyTypeAt 3 t && P.tiled 3 t && (keyOf P t (.agg l.toArray)).isSome then some (.agg l.toArray) else none
    | none => none
  | _, _ => none

/-- Rows of numbers are keys whose like may be asked for: each of the map's. -/
def findE (P : Program) (t : TypeId) (k : Value) (es : List (Value × AV × Nat)) : Option (Option (Nat × AV)) :=
  match k with
  | .agg _ => if es.all (fun e => (keyOf P t e.1).isSome) then findA k es 0 else none
  | _ => findA k es 0

def lookupA (P : Program) (t : TypeId) (x ix : AV) (ok : Bool) (h : Heap) : Option AV :=
  match P.underlying t with
  | some (.map kt et) =>
    match keyLit P kt ix with
    | some k =>
      let es : Option (List (Value × AV × Nat)) := match x with
        | .lit (.map none) => some []
        | .map id => match h[id]? with
          | some (.map es _) => some es
          | _ => none
        | _ => none
      match es with
      | some es => match findE P kt k es with
        | some (some (_, v)) => some (if ok then .tup [v, .lit (.bool true)] else v)
        | some none => match zeroT P et with
          | some z => some (if ok then .tup [z, .lit (.bool false)] else z)
          | none => none
        | none => none
      | none => none
    | none => none
  | _ => none

def mapSet (P : Program) (t : TypeId) (m ix v : AV) (h : Heap) : Option Heap :=
  match P.underlying t, m with
  | some (.map kt _), .map id =>
    match keyLit P kt ix, h[id]? with
    | some k, some (.map es c) => match findE P kt k es with
      | some (some (i, _)) => some (h.set id (.map (es.modify i fun e => (k, v, e.2.2)) c))
      | some none => some (h.set id (.map (es ++ [(k, v, c)]) (c + 1)))
      | none => none
    | _, _ => none
  | _, _ => none

def nextS (it : AV) (h : Heap) : Option (AV × Heap) :=
  match it with
  | .ptr id 0 0 => match h[id]? with
    | some (.siter (.str s pos)) =>
      if pos < s.size then
        let d := Utf8.decode s pos
        some (.tup [.lit (.bool true), .lit (goInt pos), .lit (.int .i32 d.1)], h.set id (.siter (.str s (pos + d.2))))
      else some (.tup [.lit (.bool false)], h)
    | _ => none
  | _ => none

/-- What a map's 'range' may give next. -/
def candsM (it : AV) (h : Heap) : Option (List (AV × Heap)) :=
  match it with
  | .ptr id 0 0 => match h[id]? with
    | some (.siter .none) => some [(.tup [.lit (.bool false)], h)]
    | some (.siter (.ent m since seen last)) => match h[m]? with
      | some (.map es c) =>
        if !seen.isEmpty && !es.isEmpty && es.all (fun e => Nat.ble last e.2.2) then none else
        let left := es.filter fun e => !seen.contains e.2.2
        let old := left.filter fun e => Nat.blt e.2.2 since
        let young := left.filter fun e => Nat.ble since e.2.2
        some ((if old.isEmpty then [(.tup [.lit (.bool false)], h)] else []) ++
          (old ++ young).map fun e => (.tup [.lit (.bool true), ofVal e.1, e.2.1], h.set id (.siter (.ent m since (seen ++ [e.2.2]) c))))
      | _ => none
    | _ => none
  | _ => none

def nextM (it : AV) (h : Heap) : Option (AV × Heap) :=
  match candsM it h with
  | some [x] => some x
  | _ => none

def rangeM (x : AV) (h : Heap) : Option (AV × Heap) :=
  match x with
  | .lit (.map none) => some (.ptr h.length 0 0, h ++ [.siter .none])
  | .map id => match h[id]? with
    | some (.map _ c) => some (.ptr h.length 0 0, h ++ [.siter (.ent id c [] c)])
    | _ => none
  | _ => none

def entryM (it : AV) (h : Heap) : Option AV :=
  match it with
  | .ptr id 0 0 => match h[id]? with
    | some (.siter (.ent m _ seen last)) => match seen.getLast?, h[m]? with
      | some b, some (.map es c) => if c = last then (match es.find? (fun e => Nat.beq e.2.2 b) with
        | some e => some (.tup [ofVal e.1, e.2.1])
        | none => none) else none
      | _, _ => none
    | _ => none
  | _ => none

def lenM (x : AV) (h : Heap) : Option AV :=
  match x with
  | .lit (.map none) => some (.lit (goInt 0))
  | .map id => match h[id]? with
    | some (.map es _) => some (.lit (goInt es.length))
    | _ => none
  | _ => none

/-- An entry of one's own: what it holds, and its number. -/
def mapEntryA (P : Program) (t : TypeId) (m ix : AV) (h : Heap) : Option (AV × Heap) :=
  match P.underlying t, m with
  | some (.map kt et), .map id =>
    match keyLit P kt ix, h[id]? with
    | some k, some (.map es c) => match findE P kt k es with
      | some (some (i, v)) => match es[i]? with
        | some e => some (.tup [v, .lit (goInt e.2.2)], h.set id (.map (es.modify i fun e => (k, e.2.1, e.2.2)) c))
        | none => none
      | some none => match zeroT P et with
        | some z => some (.tup [z, .lit (goInt c)], h.set id (.map (es ++ [(k, z, c)]) (c + 1)))
        | none => none
      | none => none
    | _, _ => none
  | _, _ => none

def entryStoreA (m s x : AV) (h : Heap) : Option Heap :=
  match m, s with
  | .map id, .lit (.int _ b) => match h[id]? with
    | some (.map es c) => match es.findIdx? (fun e => (e.2.2 : Int) == b) with
      | some i => some (h.set id (.map (es.modify i fun e => (e.1, x, e.2.2)) c))
      | none => none
    | _ => none
  | _, _ => none

def ifaceOf : AV → Option (TypeId × AV)
  | .iface t v => some (t, v)
  | .lit (.iface t v) => some (t, ofVal v)
  | _ => none

/-- What a value in an interface is: of a type that is no interface. -/
def assertA (P : Program) (x : AV) (a : TypeId) (ok : Bool) : Option AV :=
  match P.underlying a with
  | some (.interface _) | none => none
  | some _ => match ifaceOf x with
    | some (t, v) =>
      if t = a then some (if ok then .tup [v, .lit (.bool true)] else v)
      else if ok then (zeroT P a).map fun z => .tup [z, .lit (.bool false)] else none
    | none => none

/-- A method of a value in an interface: which function, and whom it is called of. -/
def methA (P : Program) (x : AV) (name : String) (h : Heap) : Option (FuncId × AV) :=
  match ifaceOf x with
  | some (t, v) => match P.info? t with
    | some i => match i.methods.toList.find? (fun m => m.name == name) with
      | some m => if m.path.toList.isEmpty then (match m.func, P.underlying t with
        | some (f, true), some (.pointer _) => some (f, v)
        | some (f, false), some (.pointer e) => match v with
          | .ptr .. => (load P e v h).map fun u => (f, u)
          | _ => none
        | some (f, false), some _ => some (f, v)
        | _, _ => none) else none
      | none => none
    | none => none
  | none => none

/-- The elements of a slice made nought. -/
def clearA (P : Program) (t : TypeId) (x : AV) (h : Heap) : Option (AV × Heap) :=
  match elemT P t with
  | some e => match P.info? e with
    | some i =>
      if i.size = 0 then none else
      match i.zero with
      | some z =>
        if z.cells.size ≠ i.size ∨ (cellsOf (ofVal z)).length ≠ i.size ∨ (cellsOf (ofVal z)).all okCell = false then none else
        match x with
        | .lit (.slice none 0 0) => some (.lit (.tuple #[]), h)
        | .sl id off len _ => match h[id]? with
          | some (.arr A) =>
            if len = 0 then some (.lit (.tuple #[]), h) else
            if A.sz = i.size ∧ off + len ≤ A.elems.length ∧ A.shared = false then
              some (.lit (.tuple #[]), h.set id (.arr { A with elems := A.elems.take off ++ List.replicate len (reElem (cellsOf (ofVal z))) ++ A.elems.drop (off + len) }))
            else none
          | _ => none
        | _ => none
      | none => none
    | none => none
  | none => none

/-- One operation but calls. -/
def plainOp (P : Program) (e : Operand → AV) (h : Heap) (o : Oper) : Option (AV × Heap) :=
  let keep (v : Option AV) : Option (AV × Heap) := v.map (·, h)
  match o.op with
  | .move x | .assign x => some (e x, h)
  | .pick c a b => match e c with
    | .lit (.bool t) => some (if t then e a else e b, h)
    | _ => none
  | .alloc t => match zeroT P t with
    | some z => box z h
    | none => none
  | .box _ x => box (e x) h
  | .build t parts => keep (build P t (parts.toList.map fun p => (p.1, e p.2)))
  | .buildSlice t len parts => buildSlice P t len (parts.toList.map fun p => (p.1, e p.2)) h
  | .load t a => keep (load P t (e a) h)
  | .store t a x => (store P t (e a) (e x) h).map (.lit undef, ·)
  | .nilCheck x => match e x with
    | .ptr .. | .iptr .. | .fn (.func _) _ _ => some (e x, h)
    | _ => none
  | .binOp op t x y _ => keep (match fastBin op (e x) (e y) with | some v => some v | none => match nilTest P op t (e x) (e y) with | some v => some v | none => litOp P e o)
  | .convert s d x => keep (match P.underlying s, P.underlying d, e x with | some _, some (.int k), .lit (.int _ n) => some (.lit (.int k (fastWrap k n))) | _, _, _ => match convert P s d (e x) h with | some v => some v | none => litOp P e o)
  | .makeInterface t x => match P.underlying t with
    | some (.interface _) | none => none
    | some _ => some (match e x with
      | .lit v => .lit (.iface t v)
      | v => .iface t v, h)
  | .makeFunc f first cap => some (.fn f (first.toList.map e) (cap.toList.map e), h)
  | .makeSlice t l c => makeSlice P t (e l) (e c) h
  | .slice t x lo hi mx => keep (match fastCut (e x) (lo.map e) (hi.map e) (mx.map e) with | some v => (match P.underlying t with | some .string => some v | _ => none) | none => match cut P t (e x) (lo.map e) (hi.map e) (mx.map e) h with | some v => some v | none => litOp P e o)
  | .fieldAddr s x f => keep (fieldAddr P s (e x) f)
  | .field t x f => keep (field P t (e x) f)
  | .indexAddr t x ix => keep (indexAddr P t (e x) (e ix) h)
  | .index t x ix => keep (match fastIndex (e x) (e ix) with | some v => (match P.underlying t with | some .string => some v | _ => none) | none => index P t (e x) (e ix))
  | .extract t i => match e t with
    | .tup vs => (vs[i]?).map (·, h)
    | _ => none
  | .call { callee := .builtin b, args, argTypes } =>
    match b, args.toList, argTypes.toList with
    | .append, [s, x], [sT, xT] => if isIntT P xT then appendN P sT (e s) (e x) h else append P sT xT (e s) (e x) h
    | .copy, [d, x], dT :: _ => copyTo P dT (e d) (e x) h
    | .clear, [x], [t] => clearA P t (e x) h
    | .len, [x], [t] => match lenOf (e x), P.underlying t with
      | some n, some (.slice _) => some (.lit (goInt n), h)
      | none, some .string => match e x with
        | .lit (.string s) => some (.lit (goInt s.data.toList.length), h)
        | _ => none
      | none, some (.map _ _) => keep (lenM (e x) h)
      | _, _ => keep (litOp P e o)
    | .cap, [x], [t] => match e x, P.underlying t with
      | .isl _ true l, some (.slice _) => some (.lit (goInt l.length), h)
      | .sl _ _ len true, some (.slice _) => some (.lit (goInt len), h)
      | _, _ => keep (litOp P e o)
    | _, _, _ => keep (litOp P e o)
  | .unOp op _ x => match op, e x with
    | .not, .lit (.bool b) => some (.lit (.bool !b), h)
    | _, _ => keep (litOp P e o)
  | .makeMap _ none => some (.map h.length, h ++ [.map [] 0])
  | .lookup t x ix ok => keep (lookupA P t (e x) (e ix) ok h)
  | .mapUpdate t m k x | .insert t m k x => (mapSet P t (e m) (e k) (e x) h).map (.lit undef, ·)
  | .range t x => match P.underlying t, e x with
    | some .string, .lit (.string s) => some (.ptr h.length 0 0, h ++ [.siter (.str s 0)])
    | some (.map _ _), m => rangeM m h
    | _, _ => none
  | .next it true => nextS (e it) h
  | .next it false => nextM (e it) h
  | .entry it => keep (entryM (e it) h)
  | .mapEntry t m k => mapEntryA P t (e m) (e k) h
  | .entryStore _ m s x => (entryStoreA (e m) (e s) (e x) h).map (.lit undef, ·)
  | .typeAssert x _ a ok => keep (assertA P (e x) a ok)
  | _ => none

/-! ### Code -/

abbrev CallF := FuncId → List AV → Heap → Option (AV × Heap)

/-- A function without a body, asked of values that hold no address. -/
def litCall (P : Program) (args : List AV) (g : FuncId) : Option AV :=
  match args.mapM toLit with
  | some vs => match (callFunc g vs.toArray).peval P with
    | some (.value v) => some (ofVal v)
    | _ => none
  | none => none

def callOp (P : Program) (call : CallF) (e : Operand → AV) (h : Heap) (o : Oper) : Option (AV × Heap) :=
  match o.op with
  | .call { callee := .value f, args, .. } =>
    match e f with
    | .fn (.func g) first cap =>
      match (P.funcs[g]?).bind (·.body) with
      | some _ => call g (first ++ args.toList.map e ++ cap) h
      | none => match litCall P (first ++ args.toList.map e ++ cap) g with
        | some v => some (v, h)
        | none => none
    | _ => none
  | .call { callee := .invoke x m, args, .. } =>
    match methA P (e x) m h with
    | some (g, v) => match (P.funcs[g]?).bind (·.body) with
      | some _ => call g (v :: args.toList.map e) h
      | none => none
    | none => none
  | _ => plainOp P e h o

def yieldedA (ops : Array Oper) (st : St) (j : Nat) : Option (Option Bool) :=
  match (ops.toList[j]?).bind (·.dst) with
  | none => some none
  | some d => if st.n ≤ d then some none else match st.s.get d with
    | .lit (.bool b) => some (some b)
    | .junk => none
    | _ => some none

def wantedA (ops : Array Oper) (st : St) (o : Oper) : Option Bool :=
  match o.guard with
  | none => some true
  | some (j, want) => (yieldedA ops st j).map (· == some want)

def St.put (st : St) (v : AV) : Option Tmp → St
  | some d => if Nat.blt d st.n then { st with s := Tr.set 64 st.s d v } else st
  | none => st

def step (P : Program) (call : CallF) (ops : Array Oper) (o : Oper) (st : St) : Option St :=
  match wantedA ops st o with
  | some true => match callOp P call (ev st.s) st.h o with
    | some (v, h) => some (St.put ⟨st.n, st.s, h⟩ v o.dst)
    | none => none
  | some false => some (st.put (.lit undef) o.dst)
  | none => none

def steps (P : Program) (call : CallF) (ops : Array Oper) : List Oper → St → Option St
  | [], st => some st
  | o :: r, st => match step P call ops o st with
    | some st' => steps P call ops r st'
    | none => none

abbrev Out := Option (AExit × St)

def andThen (r : Out) (k : St → Out) : Out :=
  match r with
  | some (.normal, st) => k st
  | r => r

def loopN (body : St → Out) : Nat → St → Out
  | 0, _ => none
  | n + 1, st => match body st with
    | some (.normal, st') => loopN body n st'
    | r => r

def jumpN (from_ : Nat → Option (St → Out)) : Nat → Out → Out
  | 0, _ => none
  | n + 1, some (.goto l, st) => match from_ l with
    | some k => jumpN from_ n (k st)
    | none => some (.goto l, st)
  | _ + 1, r => r

def rounds : Nat := 1000000000000000000000000000000

def blockEnd (id : Nat) : Out → Out
  | some (.exit i, st) => if i = id then some (.normal, st) else some (.exit i, st)
  | r => r

/-- The run of a piece of code, and of what stands behind a label in it. -/
def run (reg : Array Oper → Bool → St → Option St) : Code → (St → Out) × (Nat → Option (St → Out))
  | .skip => (fun st => some (.normal, st), fun _ => none)
  | .label l => (fun st => some (.normal, st), fun l' => if l = l' then some (fun st => some (.normal, st)) else none)
  | .region _ ops draw => (fun st => (reg ops draw st).map (AExit.normal, ·), fun _ => none)
  | .seq a b =>
    let ra := run reg a
    let rb := run reg b
    (fun st => andThen (ra.1 st) rb.1, fun l => match ra.2 l with
      | some k => some (fun st => andThen (k st) rb.1)
      | none => rb.2 l)
  | .cond c t f =>
    let rt := run reg t
    let rf := run reg f
    (fun st => match ev st.s c with
      | .lit (.bool true) => rt.1 st
      | .lit (.bool false) => rf.1 st
      | _ => none, fun _ => none)
  | .block id b =>
    let rb := run reg b
    (fun st => blockEnd id (rb.1 st), fun _ => none)
  | .loop b =>
    let rb := run reg b
    (fun st => loopN rb.1 rounds st, fun _ => none)
  | .scope b =>
    let rb := run reg b
    (fun st => jumpN rb.2 rounds (rb.1 st), fun _ => none)
  | .exit id => (fun st => some (.exit id, st), fun _ => none)
  | .goto l => (fun st => some (.goto l, st), fun _ => none)
  | .ret => (fun st => some (.ret, st), fun _ => none)
  | .rangeFunc .. | .refuse _ => (fun _ => none, fun _ => none)

def results (P : Program) (fn : Func) (st : St) : Option AV :=
  match fn.results.toList.mapM (fun
    | ResultVar.tmp t => some (st.s.tmp t)
    | .cell a t => load P t (st.s.tmp a) st.h) with
  | some [v] => some v
  | some vs => some (match vs with
    | [] => .lit (.tuple #[])
    | _ => .tup vs)
  | none => none

/-- How a function is called: with what it needs alone; in the caller's memory, its answer read off; or as it stands. -/
inductive How where
  | alone | within | raw
  deriving DecidableEq

structure Env where
  P : Program
  prim : FuncId → Option (List AV → Option AV)
  how : FuncId → How
  reg : CallF → Array Oper → Bool → St → Option St
  gl : Tr

/-- Does nothing at the top of these rows point behind the first n? -/
def belowCell (n : Nat) : AV → Bool
  | .sl id _ _ _ | .ptr id _ _ | .map id => decide (id < n)
  | .fn _ first cap => first.all (fun | .ptr id _ _ => decide (id < n) | v => freeCell v) && cap.all (fun | .ptr id _ _ => decide (id < n) | v => freeCell v)
  | v => freeCell v

def belowObj (n : Nat) : AObj → Bool
  | .arr A => A.elems.all fun
    | .agg cs => cs.all (belowCell n)
    | v => belowCell n v
  | .map es _ => es.all fun e => match e.2.1 with
    | .agg cs => cs.all (belowCell n)
    | v => belowCell n v
  | .siter (.ent m _ _ _) => decide (m < n)
  | .siter .. | .dead => true

def argsTr (t : Tr) : Nat → List AV → Tr
  | _, [] => t
  | i, v :: r => argsTr (Tr.set 64 t i v) (i + 1) r

def body (E : Env) (call : CallF) (fn : Func) (c : Code) (args : List AV) (h : Heap) : Option (AV × Heap) :=
  if 4294967296 < max fn.ntmps args.length then none else
  match (run (E.reg call) c).1 ⟨max fn.ntmps args.length, argsTr E.gl 0 args, h⟩ with
  | some (.normal, st) | some (.ret, st) => (results E.P fn st).map (·, st.h)
  | _ => none

/-- A call in memory of its own. -/
def callAlone (E : Env) (call : CallF) (fn : Func) (c : Code) (args : List AV) (ids : List Nat) (h : Heap) : Option (AV × Heap) :=
  match body E call fn c args [] with
  | some (r, hc) => match snapR hc r with
    | some (r', _) => if flat r' ∨ ids = [] then some (r', h) else some (r', mark ids h)
    | none => none
  | none => none

def callWithin (E : Env) (call : CallF) (fn : Func) (c : Code) (args : List AV) (h : Heap) : Option (AV × Heap) :=
  match body E call fn c args h with
  | some (r, h') =>
    match snapR h' r with
    | some (r', ids) =>
      let hm := mark ids h'
      let keep := hm.take h.length
      if keep.all (belowObj h.length) then some (r', keep) else some (r, h')
    | none => some (r, h')
  | none => none

def acall (E : Env) : Nat → CallF
  | 0, _, _, _ => none
  | n + 1, f, args, h =>
    match E.prim f with
    | some p => match snaps h args with
      | some (args', ids) => match p args' with
        | some r => if flat r then some (r, h) else some (r, mark ids h)
        | none => none
      | none => none
    | none => match E.P.funcs[f]? with
      | none => none
      | some fn => match fn.body with
        | none => none
        | some c => match E.how f with
          | .raw => body E (acall E n) fn c args h
          | .within => callWithin E (acall E n) fn c args h
          | .alone => match snaps h args with
            | some (args', ids) => callAlone E (acall E n) fn c args' ids h
            | none => callWithin E (acall E n) fn c args h

end Am
end Go
