import Derived.Test.YtkkjoomlfmofbaaGreatDoorAmS1
set_option linter.unusedSectionVars false
/-! One operation in continuation form. -/
namespace Go.Am
set_option linter.unusedSimpArgs false
set_option linter.unusedVariables false

variable {P : Program} {T : Tr}

/-! ### Operations on plain values -/

theorem Sem.pure_bind' {α β : Type} (a : α) (f : α → Sem β) : (pure a : Sem α) >>= f = f a := rfl

theorem litOp_of {e : Operand → AV} {o : Oper} {v : Value} (hl : (o.op.operands.all fun x => (toLit (e x)).isSome) = true)
    (hx : (execOp (fun x => (toLit (e x)).getD undef) o).peval P = some (.value v)) : litOp P e o = some (ofVal v) := by
  unfold litOp
  rw [if_pos hl, hx]

def litBin (P : Program) (op : BinOp) (t : TypeId) (x y : AV) : Option AV :=
  match toLit x, toLit y with
  | some a, some b => match a, b with
    | .nilIface, .nilIface => none
    | a, b => ((do eqGuard op t (.tmp 0) (.tmp 1) a b; binOp op t a b : Sem Value).peval P).map ofVal
  | _, _ => none

theorem eqGuard_op {op : BinOp} {t : TypeId} {x y x' y' : Operand} {a b : Value} (h : ¬ (a = .nilIface ∧ b = .nilIface)) : eqGuard op t x y a b = eqGuard op t x' y' a b := by
  unfold eqGuard
  cases a <;> first | rfl | (cases b <;> first | rfl | (exfalso; exact h ⟨rfl, rfl⟩))

theorem litBin_eq {op : BinOp} {t t' : TypeId} {x y : Operand} {e : Operand → AV} {v : AV} (h : litBin P op t (e x) (e y) = some v)
    {dst : Option Tmp} {ty : TypeId} {pos : String} {after : Array Edge} {guard : Option (Nat × Bool)} : litOp P e ⟨dst, .binOp op t x y t', ty, pos, after, guard⟩ = some v := by
  unfold litBin at h
  split at h
  · rename_i a b ha hb
    have key : ¬ (a = .nilIface ∧ b = .nilIface) → ((do eqGuard op t (.tmp 0) (.tmp 1) a b; binOp op t a b : Sem Value).peval P).map ofVal = some v → litOp P e ⟨dst, .binOp op t x y t', ty, pos, after, guard⟩ = some v := by
      intro hn h
      cases hp : ((do eqGuard op t (.tmp 0) (.tmp 1) a b; binOp op t a b : Sem Value).peval P) with
      | none => rw [hp] at h; cases h
      | some u =>
        rw [hp] at h
        cases h
        refine litOp_of ?_ ?_
        · simp [Op.operands, ha, hb]
        · simp only [execOp, ha, hb, Option.getD_some]
          rw [eqGuard_op hn (x' := .tmp 0) (y' := .tmp 1), Sem.peval_bind, hp]
          rfl
    split at h
    · cases h
    · rename_i hn
      exact key (fun ⟨h1, h2⟩ => hn h1 h2) h
  · cases h

def litUn (P : Program) (op : UnOp) (x : AV) : Option AV :=
  match toLit x with
  | some a => ((Op.unary op a).peval P).map ofVal
  | none => none

theorem litUn_eq {op : UnOp} {t : TypeId} {x : Operand} {e : Operand → AV} {v : AV} (h : litUn P op (e x) = some v)
    {dst : Option Tmp} {ty : TypeId} {pos : String} {after : Array Edge} {guard : Option (Nat × Bool)} : litOp P e ⟨dst, .unOp op t x, ty, pos, after, guard⟩ = some v := by
  unfold litUn at h
  split at h
  · rename_i a ha
    cases hp : (Op.unary op a).peval P with
    | none => rw [hp] at h; cases h
    | some u =>
      rw [hp] at h
      cases h
      refine litOp_of ?_ ?_
      · simp [Op.operands, ha]
      · simp only [execOp, ha, Option.getD_some]
        rw [Sem.peval_bind, hp]
        rfl
  · cases h

def litConv (P : Program) (s d : TypeId) (x : AV) : Option AV :=
  match toLit x with
  | some a => ((Go.convert s d a).peval P).map ofVal
  | none => none

theorem litConv_eq {s d : TypeId} {x : Operand} {e : Operand → AV} {v : AV} (h : litConv P s d (e x) = some v)
    {dst : Option Tmp} {ty : TypeId} {pos : String} {after : Array Edge} {guard : Option (Nat × Bool)} : litOp P e ⟨dst, .convert s d x, ty, pos, after, guard⟩ = some v := by
  unfold litConv at h
  split at h
  · rename_i a ha
    cases hp : (Go.convert s d a).peval P with
    | none => rw [hp] at h; cases h
    | some u =>
      rw [hp] at h
      cases h
      refine litOp_of ?_ ?_
      · simp [Op.operands, ha]
      · simp only [execOp, ha, Option.getD_some]
        rw [Sem.peval_bind, hp]
        rfl
  · cases h

def litBi (P : Program) (b : Builtin) (ats : List TypeId) (ty : TypeId) (consts : List Bool) (xs : List AV) : Option AV :=
  match xs.mapM toLit with
  | some vs => match (builtin b ats.toArray ty consts.toArray vs.toArray).peval P with
    | some (.value v) => some (ofVal v)
    | _ => none
  | none => none

def constB : Operand → Bool
  | .const _ => true
  | _ => false

theorem mapM_toLit {e : Operand → AV} : ∀ {l : List Operand} {vs : List Value}, (l.map e).mapM toLit = some vs → (l.all fun x => (toLit (e x)).isSome) = true ∧ l.map (fun x => (toLit (e x)).getD undef) = vs
  | [], vs, h => by simp at h; subst h; exact ⟨rfl, rfl⟩
  | x :: l, vs, h => by
    rw [List.map_cons, List.mapM_cons] at h
    cases hx : toLit (e x) with
    | none => rw [hx] at h; cases h
    | some v =>
      rw [hx] at h
      cases hl : (l.map e).mapM toLit with
      | none => rw [hl] at h; cases h
      | some us =>
        rw [hl] at h
        cases h
        obtain ⟨h1, h2⟩ := mapM_toLit hl
        exact ⟨by simp only [List.all_cons, hx, Option.isSome_some, Bool.true_and]; exact h1, by simp only [List.map_cons, hx, Option.getD_some, h2]⟩

theorem litBi_eq {b : Builtin} {args : Array Operand} {ats : Array TypeId} {ty : TypeId} {e : Operand → AV} {v : AV} (h : litBi P b ats.toList ty (args.toList.map constB) (args.toList.map e) = some v)
    {dst : Option Tmp} {pos : String} {after : Array Edge} {guard : Option (Nat × Bool)} : litOp P e ⟨dst, .call ⟨.builtin b, args, ats⟩, ty, pos, after, guard⟩ = some v := by
  unfold litBi at h
  split at h
  · rename_i vs hvs
    obtain ⟨h1, h2⟩ := mapM_toLit hvs
    split at h
    · rename_i u hu
      cases h
      refine litOp_of ?_ ?_
      · simpa [Op.operands, Call.operands] using h1
      · have e1 : args.map (fun x => (toLit (e x)).getD undef) = vs.toArray := by
          rw [← h2]; apply Array.ext'; simp
        have e2 : ∀ f : Operand → Bool, (∀ x, f x = constB x) → args.map f = (args.toList.map constB).toArray := by
          intro f hf
          have : f = constB := funext hf
          subst this
          apply Array.ext'; simp
        simp only [execOp, resolve, pure_bind, invoke, e1]
        rw [e2 _ (fun x => by cases x <;> rfl)]
        simpa using hu
    · cases h
  · cases h

/-! ### Kinds -/

def nilTestK (k : NilK) (op : BinOp) (x y : AV) : Option AV :=
  if (isNil k y && isThere k x) || (isNil k x && isThere k y) then
    match op with
    | .eql => some (.lit (.bool false))
    | .neq => some (.lit (.bool true))
    | _ => none
  else none

inductive BinK where
  | fast
  | slow (k : NilK)

def binKind (P : Program) (op : BinOp) (t : TypeId) : BinK :=
  match P.underlying t with
  | some (.int _) => match op with
    | .add | .sub | .mul | .eql | .neq | .lss | .leq | .gtr | .geq => .fast
    | _ => .slow .none
  | some .string => match op with
    | .add | .eql | .neq => .fast
    | _ => .slow .none
  | some (.pointer _) => .slow .ptr
  | some (.slice _) => .slow .slice
  | some (.func _ _ _) => .slow .func
  | some (.interface _) => .slow .iface
  | _ => .slow .none

def binX (P : Program) (k : NilK) (op : BinOp) (t : TypeId) (x y : AV) : Option AV :=
  match fastBin op x y with
  | some v => some v
  | none => match nilTestK k op x y with
    | some v => some v
    | none => litBin P op t x y

/-- Is it held against the literal nil of an interface? -/
def isNilC (k : NilK) (y : Operand) : Bool :=
  match k, y with
  | .iface, .const .nilIface => true
  | _, _ => false

/-- '==' and '!=' with the literal nil of an interface. -/
def binC (P : Program) (k : NilK) (op : BinOp) (t : TypeId) (x y : AV) : Option AV :=
  match x, y with
  | .lit .nilIface, .lit .nilIface => match op with
    | .eql => some (.lit (.bool true))
    | .neq => some (.lit (.bool false))
    | _ => none
  | x, y => binX P k op t x y

theorem binKind_nil {op : BinOp} {t : TypeId} {k : NilK} (h : binKind P op t = .slow k) : nilKind P t = k := by
  unfold binKind at h
  unfold nilKind
  cases hu : P.underlying t with
  | none => rw [hu] at h; cases h; rfl
  | some d =>
    rw [hu] at h
    cases d <;> simp only at h ⊢ <;> first | (cases h; rfl) | (cases op <;> simp only at h <;> first | (cases h; rfl) | cases h)

def notX : AV → Option AV
  | .lit (.bool b) => some (.lit (.bool !b))
  | _ => none

inductive CvK where
  | int (k : IntKind)
  | s2b
  | b2s
  | gen

def isByte (P : Program) (e : TypeId) : Bool :=
  match P.underlying e with
  | some (.int .u8) => true
  | _ => false

def convKind (P : Program) (s d : TypeId) : CvK :=
  match P.underlying s, P.underlying d with
  | some (.int _), some (.int k) => .int k
  | some .string, some (.slice e) => if isByte P e then .s2b else .gen
  | some (.slice e), some .string => if isByte P e then .b2s else .gen
  | _, _ => .gen

def convI (k : IntKind) (x : AV) : Option AV :=
  match x with
  | .lit (.int _ n) => some (.lit (.int k (fastWrap k n)))
  | _ => none

def s2bX (x : AV) : Option AV :=
  match x with
  | .lit (.string s) => some (.isl 1 false (s.data.toList.map fun b => .lit (.int .u8 b.toNat)))
  | _ => none

def b2sX (x : AV) (h : Heap) : Option AV :=
  match x with
  | .lit (.string _) => none
  | _ => match elemsOf h 1 x with
    | some l => (bytesOf l).map fun b => .lit (.string ⟨b.toArray⟩)
    | none => none

def convX (P : Program) (s d : TypeId) (x : AV) (h : Heap) : Option AV :=
  match P.underlying s, P.underlying d, x with
  | some _, some (.int k), .lit (.int _ n) => some (.lit (.int k (fastWrap k n)))
  | _, _, _ => match convert P s d x h with
    | some v => some v
    | none => litConv P s d x

def lenS (x : AV) : Option AV :=
  match lenOf x with
  | some n => some (.lit (goInt n))
  | none => match x with
    | .lit (.slice none 0 0) => some (.lit (goInt 0))
    | _ => none

def lenStr (x : AV) : Option AV :=
  match x with
  | .lit (.string s) => some (.lit (goInt s.data.toList.length))
  | _ => none

def extractX (x : AV) (i : Nat) : Option AV :=
  match x with
  | .tup vs => vs[i]?
  | _ => none

def nilCheckX (x : AV) : Option AV :=
  match x with
  | .ptr .. | .iptr .. | .fn (.func _) _ _ => some x
  | _ => none

def ifaceX (t : TypeId) (x : AV) : AV :=
  match x with
  | .lit v => .lit (.iface t v)
  | v => .iface t v

def pickX (c a b : AV) : Option AV :=
  match c with
  | .lit (.bool true) => some a
  | .lit (.bool false) => some b
  | _ => none

inductive TyK where
  | str | slice | iface | map | none | other

def tyKind (P : Program) (t : TypeId) : TyK :=
  match P.underlying t with
  | some .string => .str
  | some (.slice _) => .slice
  | some (.interface _) => .iface
  | some (.map _ _) => .map
  | Option.none => .none
  | _ => .other

/-! ### Maps, texts gone through, copies -/

inductive KeyK where
  | int (k : IntKind)
  | str | bool

def keyKind (P : Program) (t : TypeId) : Option KeyK :=
  match P.underlying t with
  | some (.int k) => some (.int k)
  | some .string => some .str
  | some .bool => some .bool
  | _ => none

def keyX (k : KeyK) (x : AV) : Option Value :=
  match k, x with
  | .int k, .lit (.int k' n) => bif Nat.beq (kindNo k) (kindNo k') then some (.int k' n) else none
  | .str, .lit (.string s) => some (.string s)
  | .bool, .lit (.bool b) => some (.bool b)
  | _, _ => none

theorem keyX_eq {t : TypeId} {k : KeyK} (hk : keyKind P t = some k) {x : AV} {v : Value} (hx : keyX k x = some v) : keyLit P t x = some v := by
  unfold keyKind at hk
  unfold keyLit
  split at hk
  · rename_i q hu
    cases hk
    rw [hu]
    cases x with
    | lit u => cases u <;> first | exact hx | cases hx
    | _ => cases hx
  · rename_i hu
    cases hk
    rw [hu]
    cases x with
    | lit u => cases u <;> first | exact hx | cases hx
    | _ => cases hx
  · rename_i hu
    cases hk
    rw [hu]
    cases x with
    | lit u => cases u <;> first | exact hx | cases hx
    | _ => cases hx
  · cases hk

theorem keyX_find {t : TypeId} {k : KeyK} {x : AV} {v : Value} (hx : keyX k x = some v) (es : List (Value × AV × Nat)) : findE P t v es = findA v es 0 := by
  unfold keyX at hx
  split at hx
  · rename_i q q' n
    cases hq : Nat.beq (kindNo q) (kindNo q') with
    | false => rw [hq] at hx; cases hx
    | true => rw [hq] at hx; cases hx; rfl
  · cases hx; rfl
  · cases hx; rfl
  · cases hx

/-- A map's key kind, and the nought of its elements. -/
def mapKind (P : Program) (t : TypeId) : Option (KeyK × AV) :=
  match P.underlying t with
  | some (.map kt et) => match keyKind P kt, zeroT P et with
    | some k, some z => some (k, z)
    | _, _ => none
  | _ => none

def entsX (x : AV) (h : Heap) : Option (List (Value × AV × Nat)) :=
  match x with
  | .lit (.map none) => some []
  | .map id => match h[id]? with
    | some (.map es _) => some es
    | _ => none
  | _ => none

def foundX (z : AV) (ok : Bool) (r : Option (Option (Nat × AV))) : Option AV :=
  match r with
  | some (some (_, v)) => some (bif ok then .tup [v, .lit (.bool true)] else v)
  | some none => some (bif ok then .tup [z, .lit (.bool false)] else z)
  | none => none

def lookupX (k : KeyK) (z : AV) (x ix : AV) (ok : Bool) (h : Heap) : Option AV :=
  match keyX k ix with
  | some v => match entsX x h with
    | some es => foundX z ok (findA v es 0)
    | none => none
  | none => none

theorem lookupX_eq {t : TypeId} {k : KeyK} {z : AV} (hk : mapKind P t = some (k, z)) {x ix y : AV} {ok : Bool} {h : Heap} (hl : lookupX k z x ix ok h = some y) : lookupA P t x ix ok h = some y := by
  unfold mapKind at hk
  split at hk
  · rename_i kt et ht
    split at hk
    · rename_i k' z' h1 h2
      cases hk
      unfold lookupX at hl
      split at hl
      · rename_i v hv
        split at hl
        · rename_i es he
          have fin : (match findE P kt v es with
              | some (some (_, v)) => some (if ok = true then AV.tup [v, .lit (.bool true)] else v)
              | some none => match zeroT P et with
                | some z => some (if ok = true then AV.tup [z, .lit (.bool false)] else z)
                | none => none
              | none => none) = some y := by
            revert hl
            rw [keyX_find hv]
            unfold foundX
            cases findA v es 0 with
            | none => intro hl; cases hl
            | some q =>
              cases q with
              | none => intro hl; simp only [h2]; cases ok <;> exact hl
              | some q => intro hl; cases ok <;> exact hl
          unfold lookupA
          rw [ht]
          simp only [keyX_eq h1 hv]
          unfold entsX at he
          split at he
          · cases he; exact fin
          · split at he
            · rename_i hid; cases he; simp only [hid]; exact fin
            · cases he
          · cases he
        · cases hl
      · cases hl
    · cases hk
  · cases hk

def mapSetX (k : KeyK) (m ix v : AV) (h : Heap) : Option Heap :=
  match keyX k ix, m with
  | some key, .map id => match h[id]? with
    | some (.map es c) => match findA key es 0 with
      | some (some (i, _)) => some (h.set id (.map (es.modify i fun e => (key, v, e.2.2)) c))
      | some none => some (h.set id (.map (es ++ [(key, v, c)]) (c + 1)))
      | none => none
    | _ => none
  | _, _ => none

theorem mapSetX_eq {t : TypeId} {k : KeyK} {z : AV} (hk : mapKind P t = some (k, z)) {m ix v : AV} {h h' : Heap} (hl : mapSetX k m ix v h = some h') : mapSet P t m ix v h = some h' := by
  unfold mapKind at hk
  split at hk
  · rename_i kt et ht
    split at hk
    · rename_i k' z' h1 h2
      cases hk
      unfold mapSetX at hl
      split at hl
      · rename_i key id hv
        unfold mapSet
        rw [ht]
        simp only [keyX_eq h1 hv]
        split at hl
        · rename_i es c hid
          simp only [hid, keyX_find hv]
          exact hl
        · cases hl
      · cases hl
    · cases hk
  · cases hk

def mkmapX (h : Heap) : Option (AV × Heap) := some (.map h.length, h ++ [.map [] 0])
def rangeX (x : AV) (h : Heap) : Option (AV × Heap) :=
  match x with
  | .lit (.string s) => some (.ptr h.length 0 0, h ++ [.siter (.str s 0)])
  | _ => none

def copyX (sz : Nat) (d x : AV) (h : Heap) : Option (AV × Heap) :=
  match elemsOf h sz x, d with
  | some ys, .sl id off len _ => match h[id]? with
    | some (.arr A) =>
      if A.sz = sz ∧ A.shared = false ∧ off + len ≤ A.elems.length ∧ ys.length ≤ len then
        some (.lit (goInt ys.length), h.set id (.arr { A with elems := A.elems.take off ++ ys ++ A.elems.drop (off + ys.length) }))
      else none
    | _ => none
  | _, _ => none

def copyKind (P : Program) (t : TypeId) : Option Nat :=
  match (elemT P t).bind (sizeT P) with
  | some sz => bif Nat.beq sz 0 then none else some sz
  | none => none

theorem copyX_eq {t : TypeId} {sz : Nat} (hk : copyKind P t = some sz) (d x : AV) (h : Heap) : copyTo P t d x h = copyX sz d x h := by
  unfold copyKind at hk
  unfold copyTo copyX
  split at hk
  · rename_i sz' hs
    cases hb : Nat.beq sz' 0 with
    | true => rw [hb] at hk; cases hk
    | false =>
      rw [hb] at hk
      cases hk
      rw [hs]
      have h0 : sz ≠ 0 := fun e => by subst e; cases hb
      simp only [if_neg h0]
      rfl
  · cases hk

def clearKind (P : Program) (t : TypeId) : Option (Nat × AV) :=
  match elemT P t with
  | some e => match P.info? e with
    | some i => match i.zero with
      | some z => if i.size = 0 ∨ z.cells.size ≠ i.size ∨ (cellsOf (ofVal z)).length ≠ i.size ∨ (cellsOf (ofVal z)).all okCell = false then none else some (i.size, reElem (cellsOf (ofVal z)))
      | none => none
    | none => none
  | none => none

def clearX (sz : Nat) (z x : AV) (h : Heap) : Option (AV × Heap) :=
  match x with
  | .lit (.slice none 0 0) => some (.lit (.tuple #[]), h)
  | .sl id off len _ => match h[id]? with
    | some (.arr A) =>
      if len = 0 then some (.lit (.tuple #[]), h) else
      if A.sz = sz ∧ off + len ≤ A.elems.length ∧ A.shared = false then
        some (.lit (.tuple #[]), h.set id (.arr { A with elems := A.elems.take off ++ List.replicate len z ++ A.elems.drop (off + len) }))
      else none
    | _ => none
  | _ => none

theorem clearX_eq {t : TypeId} {sz : Nat} {z : AV} (hk : clearKind P t = some (sz, z)) (x : AV) (h : Heap) : clearA P t x h = clearX sz z x h := by
  unfold clearKind at hk
  unfold clearA clearX
  cases he : elemT P t with
  | none => rw [he] at hk; cases hk
  | some e =>
    rw [he] at hk
    simp only at hk ⊢
    cases hi : P.info? e with
    | none => rw [hi] at hk; cases hk
    | some i =>
      rw [hi] at hk
      simp only at hk ⊢
      cases hz : i.zero with
      | none => rw [hz] at hk; cases hk
      | some zv =>
        rw [hz] at hk
        simp only at hk ⊢
        split at hk
        · cases hk
        · rename_i hn
          cases hk
          rw [if_neg (fun h => hn (.inl h)), if_neg (fun h => hn (.inr h))]
          rfl

def capX (x : AV) : Option AV :=
  match x with
  | .isl _ true l => some (.lit (goInt l.length))
  | .sl _ _ len true => some (.lit (goInt len))
  | .lit (.slice none 0 0) => some (.lit (goInt 0))
  | _ => none

def zeroBound : Option AV → Bool
  | none => true
  | some (.lit (.int _ n)) => n == 0
  | _ => false

/-- A piece of a slice; nothing of nil is nil. -/
def cutZ (sz : Nat) (x : AV) (lo hi mx : Option AV) (h : Heap) : Option AV :=
  match x with
  | .lit (.slice none 0 0) => if (mx.isNone || hi.isSome) && zeroBound mx && zeroBound lo && zeroBound hi then some (.lit (.slice none 0 0)) else none
  | x => cutX sz x lo hi mx h

theorem cut_nil {e : Operand → AV} {t el : TypeId} {n : Nat} {x : Operand} {lo hi : Option Operand} (hu : P.underlying t = some (.slice el)) (hs : sizeT P el = some n) (hx : e x = .lit (.slice none 0 0)) (hl : zeroBound (lo.map e) = true) (hh : zeroBound (hi.map e) = true)
    {dst : Option Tmp} {ty : TypeId} {pos : String} {after : Array Edge} {guard : Option (Nat × Bool)} : litOp P e ⟨dst, .slice t x lo hi none, ty, pos, after, guard⟩ = some (.lit (.slice none 0 0)) := by
  have zb : ∀ {o : Operand}, zeroBound (some (e o)) = true → ∃ k, e o = .lit (.int k 0) := by
    intro o ho
    unfold zeroBound at ho
    split at ho
    · rename_i hc; cases hc
    · rename_i k m hc
      have : m = 0 := by simpa using ho
      subst this
      exact ⟨k, Option.some.inj hc⟩
    · cases ho
  have hu' : (underlying t : Sem TypeDesc).peval P = some (.slice el) := by
    show (match P.underlying t with | some d => (Sem.pure d : Sem TypeDesc) | none => _).peval P = _
    rw [hu]; rfl
  have hz' : (sizeOf el : Sem Nat).peval P = some n := by
    unfold sizeT at hs
    cases hi : P.info? el with
    | none => rw [hi] at hs; cases hs
    | some i =>
      rw [hi] at hs
      cases hs
      simp [sizeOf, typeInfo, Sem.peval_bind]
      show (Sem.program fun p => _ : Sem _).peval P = _
      simp [Sem.peval, hi]
      rfl
  have hm : ∀ f : Nat → Next, Sem.peval P (f <$> sizeOf el) = some (f n) := fun f => by
    show (sizeOf el >>= fun a => (pure (f a) : Sem Next)).peval P = _
    rw [Sem.peval_bind, hz']
    rfl
  refine litOp_of (v := .slice none 0 0) ?_ ?_
  · cases lo with
    | none =>
      cases hi with
      | none => simp [Op.operands, hx, toLit]
      | some b => obtain ⟨k, hb⟩ := zb hh; simp [Op.operands, hx, hb, toLit]
    | some a =>
      obtain ⟨k, ha⟩ := zb hl
      cases hi with
      | none => simp [Op.operands, hx, ha, toLit]
      | some b => obtain ⟨k, hb⟩ := zb hh; simp [Op.operands, hx, ha, hb, toLit]
  · cases lo with
    | none =>
      cases hi with
      | none => simp [execOp, Instr.sliceAt, Instr.slice, Instr.sliceBounds, hx, toLit, Sem.peval_bind, hu', hz', hm]
      | some b => obtain ⟨k, hb⟩ := zb hh; simp [execOp, Instr.sliceAt, Instr.slice, Instr.sliceBounds, Instr.sliceBound, asIntOf, hx, hb, toLit, Sem.peval_bind, hu', hz', hm]
    | some a =>
      obtain ⟨k, ha⟩ := zb hl
      cases hi with
      | none => simp [execOp, Instr.sliceAt, Instr.slice, Instr.sliceBounds, Instr.sliceBound, asIntOf, hx, ha, toLit, Sem.peval_bind, hu', hz', hm]
      | some b => obtain ⟨k, hb⟩ := zb hh; simp [execOp, Instr.sliceAt, Instr.slice, Instr.sliceBounds, Instr.sliceBound, asIntOf, hx, ha, hb, toLit, Sem.peval_bind, hu', hz', hm]

theorem cut_nil3 {e : Operand → AV} {t el : TypeId} {n : Nat} {x : Operand} {lo : Option Operand} {hi mx : Operand} (hu : P.underlying t = some (.slice el)) (hs : sizeT P el = some n) (hx : e x = .lit (.slice none 0 0)) (hl : zeroBound (lo.map e) = true) (hh : zeroBound (some (e hi)) = true) (hm3 : zeroBound (some (e mx)) = true)
    {dst : Option Tmp} {ty : TypeId} {pos : String} {after : Array Edge} {guard : Option (Nat × Bool)} : litOp P e ⟨dst, .slice t x lo (some hi) (some mx), ty, pos, after, guard⟩ = some (.lit (.slice none 0 0)) := by
  have zb : ∀ {o : Operand}, zeroBound (some (e o)) = true → ∃ k, e o = .lit (.int k 0) := by
    intro o ho
    unfold zeroBound at ho
    split at ho
    · rename_i hc; cases hc
    · rename_i k m hc
      have : m = 0 := by simpa using ho
      subst this
      exact ⟨k, Option.some.inj hc⟩
    · cases ho
  have hu' : (underlying t : Sem TypeDesc).peval P = some (.slice el) := by
    show (match P.underlying t with | some d => (Sem.pure d : Sem TypeDesc) | none => _).peval P = _
    rw [hu]; rfl
  have hz' : (sizeOf el : Sem Nat).peval P = some n := by
    unfold sizeT at hs
    cases hi : P.info? el with
    | none => rw [hi] at hs; cases hs
    | some i =>
      rw [hi] at hs
      cases hs
      simp [sizeOf, typeInfo, Sem.peval_bind]
      show (Sem.program fun p => _ : Sem _).peval P = _
      simp [Sem.peval, hi]
      rfl
  have hm : ∀ f : Nat → Next, Sem.peval P (f <$> sizeOf el) = some (f n) := fun f => by
    show (sizeOf el >>= fun a => (pure (f a) : Sem Next)).peval P = _
    rw [Sem.peval_bind, hz']
    rfl
  obtain ⟨k1, hb⟩ := zb hh
  obtain ⟨k2, hc⟩ := zb hm3
  refine litOp_of (v := .slice none 0 0) ?_ ?_
  · cases lo with
    | none => simp [Op.operands, hx, hb, hc, toLit]
    | some a => obtain ⟨k, ha⟩ := zb hl; simp [Op.operands, hx, ha, hb, hc, toLit]
  · cases lo with
    | none => simp [execOp, Instr.sliceAt, Instr.slice, Instr.sliceBounds, Instr.sliceBound, asIntOf, hx, hb, hc, toLit, Sem.peval_bind, hu', hz', hm]
    | some a => obtain ⟨k, ha⟩ := zb hl; simp [execOp, Instr.sliceAt, Instr.slice, Instr.sliceBounds, Instr.sliceBound, asIntOf, hx, ha, hb, hc, toLit, Sem.peval_bind, hu', hz', hm]

/-- A call of a function that is named. -/
def callX (P : Program) (call : CallF) (g : FuncId) (args : List AV) (h : Heap) (k : AV → Heap → Res) : Res :=
  match (P.funcs[g]?).bind (·.body) with
  | some _ => opt2 (call g args h) k
  | none => opt (litCall P args g) fun v => k v h

/-- A call of a value. -/
def callV (P : Program) (call : CallF) (f : AV) (args : List AV) (h : Heap) : Option (AV × Heap) :=
  match f with
  | .fn (.func g) first cap =>
    match (P.funcs[g]?).bind (·.body) with
    | some _ => call g (first ++ args ++ cap) h
    | none => match litCall P (first ++ args ++ cap) g with
      | some v => some (v, h)
      | none => none
  | _ => none

/-- A call of a method of what lies in an interface. -/
def callI (P : Program) (call : CallF) (x : AV) (m : String) (args : List AV) (h : Heap) : Option (AV × Heap) :=
  match methA P x m h with
  | some (g, v) => match (P.funcs[g]?).bind (·.body) with
    | some _ => call g (v :: args) h
    | none => none
  | none => none

def roomFor (len sz : Nat) : Bool := Nat.ble (len * sz) 16777216

/-- One operation; then what comes behind it. -/
def opK (P : Program) (call : CallF) (e : Operand → AV) (h : Heap) (o : Oper) (k : AV → Heap → Res) : Res :=
  match o.op with
  | .move x => k (e x) h
  | .assign x => k (e x) h
  | .pick c a b => opt (pickX (e c) (e a) (e b)) fun v => k v h
  | .alloc t => match zeroT P t with
    | some z => opt2 (box z h) k
    | none => none
  | .box _ x => opt2 (box (e x) h) k
  | .build t parts => match buildKind P t with
    | some (.struct zero places) => opt (buildX zero places (parts.toList.map fun p => (p.1, e p.2))) fun v => k v h
    | some (.array zero n) => opt (buildXA zero n (parts.toList.map fun p => (p.1, e p.2))) fun v => k v h
    | none => none
  | .buildSlice t len parts => match elemKind P t with
    | some (sz, z, _) => bif roomFor len sz then opt2 (bsliceX sz z len (parts.toList.map fun p => (p.1, e p.2)) h) k else none
    | none => none
  | .load t a => match aggKind P t with
    | some g => opt (loadX g (e a) h) fun v => k v h
    | none => none
  | .store t a x => match sizeT P t with
    | some sz => optH (storeX sz (e a) (e x) h) fun h' => k (.lit undef) h'
    | none => none
  | .nilCheck x => opt (nilCheckX (e x)) fun v => k v h
  | .binOp op t x y _ => match binKind P op t with
    | .fast => opt (fastBin op (e x) (e y)) fun v => k v h
    | .slow nk => bif isNilC nk y then opt (binC P nk op t (e x) (e y)) fun v => k v h else opt (binX P nk op t (e x) (e y)) fun v => k v h
  | .unOp op _ x => match op with
    | .not => opt (notX (e x)) fun v => k v h
    | op => opt (litUn P op (e x)) fun v => k v h
  | .convert s d x => match convKind P s d with
    | .int kd => opt (convI kd (e x)) fun v => k v h
    | .s2b => opt (s2bX (e x)) fun v => k v h
    | .b2s => opt (b2sX (e x) h) fun v => k v h
    | .gen => opt (convX P s d (e x) h) fun v => k v h
  | .makeInterface t x => match tyKind P t with
    | .iface => none
    | .none => none
    | _ => k (ifaceX t (e x)) h
  | .makeFunc f first cap => k (.fn f (first.toList.map e) (cap.toList.map e)) h
  | .makeSlice t l c => match elemKind P t with
    | some (sz, z, bytes) => opt2 (mksliceX sz z bytes (e l) (e c) h) k
    | none => none
  | .slice t x lo hi mx => match tyKind P t with
    | .str => opt (fastCut (e x) (lo.map e) (hi.map e) (mx.map e)) fun v => k v h
    | .slice => match cutKind P t with
      | some sz => opt (cutZ sz (e x) (lo.map e) (hi.map e) (mx.map e) h) fun v => k v h
      | none => none
    | _ => none
  | .fieldAddr s x f => match fieldOff P s f with
    | some off => opt (fieldAddrX off (e x)) fun v => k v h
    | none => none
  | .field t x f => match fieldKind P t f with
    | some (g, off) => opt (fieldX g off (e x)) fun v => k v h
    | none => none
  | .indexAddr t x ix => match ixKind P t with
    | some (.slice sz) => opt (indexAddrS sz (e x) (e ix) h) fun v => k v h
    | some (.array len sz) => opt (indexAddrA len sz (e x) (e ix)) fun v => k v h
    | none => none
  | .index t x ix => match atKind P t with
    | some .str => opt (fastIndex (e x) (e ix)) fun v => k v h
    | some (.array len sz g) => opt (indexX len sz g (e x) (e ix)) fun v => k v h
    | none => none
  | .extract t i => opt (extractX (e t) i) fun v => k v h
  | .makeMap _ none => opt2 (mkmapX h) k
  | .lookup t x ix ok => match mapKind P t with
    | some (kk, z) => opt (lookupX kk z (e x) (e ix) ok h) fun v => k v h
    | none => opt (lookupA P t (e x) (e ix) ok h) fun v => k v h
  | .mapUpdate t m kx x => match mapKind P t with
    | some (kk, _) => optH (mapSetX kk (e m) (e kx) (e x) h) fun h' => k (.lit undef) h'
    | none => optH (mapSet P t (e m) (e kx) (e x) h) fun h' => k (.lit undef) h'
  | .insert t m kx x => match mapKind P t with
    | some (kk, _) => optH (mapSetX kk (e m) (e kx) (e x) h) fun h' => k (.lit undef) h'
    | none => optH (mapSet P t (e m) (e kx) (e x) h) fun h' => k (.lit undef) h'
  | .range t x => match tyKind P t with
    | .str => opt2 (rangeX (e x) h) k
    | .map => opt2 (rangeM (e x) h) k
    | _ => none
  | .next it true => opt2 (nextS (e it) h) k
  | .next it false => opt2 (nextM (e it) h) k
  | .entry it => opt (entryM (e it) h) fun v => k v h
  | .mapEntry t m kx => opt2 (mapEntryA P t (e m) (e kx) h) k
  | .entryStore _ m s x => optH (entryStoreA (e m) (e s) (e x) h) fun h' => k (.lit undef) h'
  | .typeAssert x _ a ok => opt (assertA P (e x) a ok) fun v => k v h
  | .call c => match c.callee with
    | .builtin b => match b, c.args.toList, c.argTypes.toList with
      | .append, [s, x], [sT, xT] => match isIntT P xT with
        | true => opt2 (appendN P sT (e s) (e x) h) k
        | false => match appKind P sT xT with
          | some (sz, bytes) => opt2 (appendX sz bytes (e s) (e x) h) k
          | none => none
      | .append, _, _ => none
      | .copy, [d, x], dT :: _ => match copyKind P dT with
        | some sz => opt2 (copyX sz (e d) (e x) h) k
        | none => none
      | .copy, _, _ => none
      | .clear, [x], [t] => match clearKind P t with
        | some (sz, z) => opt2 (clearX sz z (e x) h) k
        | none => none
      | .clear, _, _ => none
      | .len, [x], [t] => match tyKind P t with
        | .str => opt (lenStr (e x)) fun v => k v h
        | .slice => opt (lenS (e x)) fun v => k v h
        | .map => opt (lenM (e x) h) fun v => k v h
        | _ => none
      | .cap, [x], [t] => match tyKind P t with
        | .slice => opt (capX (e x)) fun v => k v h
        | _ => none
      | .cap, _, _ => none
      | .len, _, _ => none
      | b, args, ats => opt (litBi P b ats o.type (args.map constB) (args.map e)) fun v => k v h
    | .value f => match f with
      | .func g => callX P call g (c.args.toList.map e) h k
      | f => opt2 (callV P call (e f) (c.args.toList.map e) h) k
    | .invoke x m => opt2 (callI P call (e x) m (c.args.toList.map e) h) k
  | _ => none

theorem opK_ok {call : CallF} {e : Operand → AV} (he : ∀ g, e (.func g) = .fn (.func g) [] []) {h : Heap} {o : Oper} {k : AV → Heap → Res} {r : AV × Heap} (hk : opK P call e h o k = some r) :
    ∃ v h', callOp P call e h o = some (v, h') ∧ k v h' = some r := by
  have plain : (∀ c, o.op ≠ .call c) → callOp P call e h o = plainOp P e h o := by
    intro hn
    obtain ⟨dst, op, ty, pos, after, guard⟩ := o
    cases op <;> first | rfl | exact absurd rfl (hn _)
  obtain ⟨dst, op, ty, pos, after, guard⟩ := o
  unfold opK at hk
  cases op with
  | move x => exact ⟨_, _, rfl, hk⟩
  | assign x => exact ⟨_, _, rfl, hk⟩
  | pick c a b =>
    obtain ⟨v, h1, h2⟩ := opt_some hk
    refine ⟨v, h, ?_, h2⟩
    rw [plain (fun c => by simp)]
    simp only [plainOp]
    unfold pickX at h1
    split at h1
    · rename_i hc; cases h1; simp [hc]
    · rename_i hc; cases h1; simp [hc]
    · cases h1
  | alloc t =>
    simp only at hk
    split at hk
    · rename_i z hz
      obtain ⟨v, h', h1, h2⟩ := opt2_some hk
      exact ⟨v, h', by rw [plain (fun c => by simp)]; simp only [plainOp, hz, h1], h2⟩
    · cases hk
  | box t x =>
    obtain ⟨v, h', h1, h2⟩ := opt2_some hk
    exact ⟨v, h', by rw [plain (fun c => by simp)]; simp only [plainOp, h1], h2⟩
  | build t parts =>
    simp only at hk
    split at hk
    · rename_i hb
      obtain ⟨v, h1, h2⟩ := opt_some hk
      exact ⟨v, h, by rw [plain (fun c => by simp)]; simp only [plainOp, buildX_eq hb, h1]; rfl, h2⟩
    · rename_i hb
      obtain ⟨v, h1, h2⟩ := opt_some hk
      exact ⟨v, h, by rw [plain (fun c => by simp)]; simp only [plainOp, buildXA_eq hb, h1]; rfl, h2⟩
    · cases hk
  | buildSlice t len parts =>
    simp only at hk
    split at hk
    · rename_i sz z bytes hb
      cases hr : roomFor len sz with
      | false => rw [hr] at hk; cases hk
      | true =>
        rw [hr] at hk
        obtain ⟨v, h', h1, h2⟩ := opt2_some hk
        exact ⟨v, h', by rw [plain (fun c => by simp)]; simp only [plainOp, bsliceX_eq hb (Nat.le_of_ble_eq_true hr), h1], h2⟩
    · cases hk
  | load t a =>
    simp only at hk
    split at hk
    · rename_i g hg
      obtain ⟨v, h1, h2⟩ := opt_some hk
      exact ⟨v, h, by rw [plain (fun c => by simp)]; simp only [plainOp, loadX_eq hg, h1]; rfl, h2⟩
    · cases hk
  | store t a x =>
    simp only at hk
    split at hk
    · rename_i g hg
      obtain ⟨h', h1, h2⟩ := optH_some hk
      exact ⟨_, h', by rw [plain (fun c => by simp)]; simp only [plainOp, storeX_eq hg, h1]; rfl, h2⟩
    · cases hk
  | nilCheck x =>
    obtain ⟨v, h1, h2⟩ := opt_some hk
    refine ⟨v, h, ?_, h2⟩
    rw [plain (fun c => by simp)]
    simp only [plainOp]
    unfold nilCheckX at h1
    split at h1
    · rename_i hc; cases h1; simp [hc]
    · rename_i hc; cases h1; simp [hc]
    · rename_i hc; cases h1; simp [hc]
    · cases h1
  | binOp op t x y t' =>
    simp only at hk
    split at hk
    · obtain ⟨v, h1, h2⟩ := opt_some hk
      exact ⟨v, h, by rw [plain (fun c => by simp)]; simp only [plainOp, h1]; rfl, h2⟩
    · rename_i nk hb
      have hkx : (∃ v, binX P nk op t (e x) (e y) = some v ∧ k v h = some r) ∨ (∃ v, isNilC nk y = true ∧ e x = .lit .nilIface ∧ e y = .lit .nilIface ∧ (match op with | .eql => some (AV.lit (.bool true)) | .neq => some (.lit (.bool false)) | _ => none) = some v ∧ k v h = some r) := by
        cases hc : isNilC nk y with
        | false =>
          rw [hc] at hk
          simp only [cond_false] at hk
          obtain ⟨v, h1, h2⟩ := opt_some hk
          exact .inl ⟨v, h1, h2⟩
        | true =>
          rw [hc] at hk
          simp only [cond_true] at hk
          obtain ⟨v, h1, h2⟩ := opt_some hk
          unfold binC at h1
          split at h1
          · rename_i hx hy
            exact .inr ⟨v, rfl, hx, hy, h1, h2⟩
          · exact .inl ⟨v, h1, h2⟩
      rcases hkx with ⟨v, h1, h2⟩ | ⟨v, hc, hx, hy, h1, h2⟩
      case inr =>
        refine ⟨v, h, ?_, h2⟩
        rw [plain (fun c => by simp)]
        simp only [plainOp]
        have hnk : nk = .iface ∧ y = .const .nilIface := by
          unfold isNilC at hc
          split at hc
          · exact ⟨rfl, rfl⟩
          · cases hc
        obtain ⟨rfl, rfl⟩ := hnk
        obtain ⟨ms, hu⟩ := nilKind_inv.2.2.2 (binKind_nil hb)
        have f1 : fastBin op (e x) (e (.const .nilIface)) = none := by rw [hx, hy]; cases op <;> rfl
        have f2 : nilTest P op t (e x) (e (.const .nilIface)) = none := by
          unfold nilTest
          rw [hx, hy, binKind_nil hb]
          rfl
        have u : (underlying t).peval P = some (.interface ms) := by
          show (match P.underlying t with
            | some d => (pure d : Sem TypeDesc)
            | none => _).peval P = _
          rw [hu]; rfl
        have q : (Op.equal t .nilIface .nilIface).peval P = some true := by
          have e9 : Op.maxDepth = 9999 + 1 := rfl
          unfold Op.equal
          rw [e9]
          unfold Op.equalIn
          rw [Sem.peval_bind, u]
          rfl
        have g1 : eqGuard .eql t x (.const .nilIface) .nilIface .nilIface = pure () := by cases x <;> rfl
        have g2 : eqGuard .neq t x (.const .nilIface) .nilIface .nilIface = pure () := by cases x <;> rfl
        have f3 : litOp P e ⟨dst, .binOp op t x (.const .nilIface) t', ty, pos, after, guard⟩ = some v := by
          cases op <;> simp only [reduceCtorEq] at h1 <;> first | (cases h1; done) | skip
          · cases h1
            refine litOp_of (v := .bool true) (by simp [Op.operands, hx, hy, toLit]) ?_
            simp only [execOp, hx, hy, toLit, Option.getD_some, g1]
            have b1 : binOp .eql t .nilIface .nilIface = (Op.equal t .nilIface .nilIface >>= fun b => pure (.bool b)) := rfl
            rw [b1, Sem.peval_bind, Sem.pure_bind', Sem.peval_bind, q]
            rfl
          · cases h1
            refine litOp_of (v := .bool false) (by simp [Op.operands, hx, hy, toLit]) ?_
            simp only [execOp, hx, hy, toLit, Option.getD_some, g2]
            have b1 : binOp .neq t .nilIface .nilIface = (Op.equal t .nilIface .nilIface >>= fun b => pure (.bool !b)) := rfl
            rw [b1, Sem.peval_bind, Sem.pure_bind', Sem.peval_bind, q]
            rfl
        rw [f1, f2, f3]
        rfl
      refine ⟨v, h, ?_, h2⟩
      rw [plain (fun c => by simp)]
      simp only [plainOp]
      unfold binX at h1
      split at h1
      · rename_i u hu; cases h1; simp only [hu]; rfl
      · rename_i hu
        have hnt : nilTest P op t (e x) (e y) = nilTestK nk op (e x) (e y) := by unfold nilTest nilTestK; rw [binKind_nil hb]; rfl
        split at h1
        · rename_i u hu2; cases h1; simp only [hu, hnt, hu2]; rfl
        · rename_i hu2
          simp only [hu, hnt, hu2]
          rw [litBin_eq h1]; rfl
  | unOp op t x =>
    rw [plain (fun c => by simp)]
    simp only at hk
    split at hk
    · obtain ⟨v, h1, h2⟩ := opt_some hk
      refine ⟨v, h, ?_, h2⟩
      unfold notX at h1
      split at h1
      · rename_i hc; cases h1; simp only [plainOp, hc]
      · cases h1
    · rename_i hno
      obtain ⟨v, h1, h2⟩ := opt_some hk
      refine ⟨v, h, ?_, h2⟩
      simp only [plainOp]
      split
      · exact absurd rfl hno
      · rw [litUn_eq h1]; rfl
  | convert s d x =>
    rw [plain (fun c => by simp)]
    simp only [plainOp]
    simp only at hk
    have gen : ∀ {v}, convX P s d (e x) h = some v → (match P.underlying s, P.underlying d, e x with
        | some _, some (.int k), .lit (.int _ n) => some (.lit (.int k (fastWrap k n)))
        | _, _, _ => match convert P s d (e x) h with
          | some v => some v
          | none => litOp P e ⟨dst, .convert s d x, ty, pos, after, guard⟩) = some v := by
      intro v h1
      unfold convX at h1
      split at h1
      · exact h1
      · split at h1
        · exact h1
        · exact litConv_eq h1
    split at hk
    · rename_i kd hc
      obtain ⟨v, h1, h2⟩ := opt_some hk
      refine ⟨v, h, ?_, h2⟩
      unfold convI at h1
      split at h1
      · rename_i k0 n hx
        cases h1
        unfold convKind at hc
        split at hc
        · rename_i hs hd; cases hc; simp only [hs, hd, hx]; rfl
        · split at hc <;> cases hc
        · split at hc <;> cases hc
        · cases hc
      · cases h1
    · rename_i hc
      obtain ⟨v, h1, h2⟩ := opt_some hk
      refine ⟨v, h, ?_, h2⟩
      unfold s2bX at h1
      split at h1
      · rename_i b hx
        cases h1
        unfold convKind at hc
        split at hc
        · cases hc
        · rename_i ee hs hd
          split at hc
          · rename_i hby
            have : P.underlying ee = some (.int .u8) := by
              unfold isByte at hby
              split at hby
              · assumption
              · cases hby
            simp only [hs, hd, hx, convert, this]; rfl
          · cases hc
        · split at hc <;> cases hc
        · cases hc
      · cases h1
    · rename_i hc
      obtain ⟨v, h1, h2⟩ := opt_some hk
      refine ⟨v, h, ?_, h2⟩
      unfold convKind at hc
      split at hc
      · cases hc
      · split at hc <;> cases hc
      · rename_i ee hs hd
        split at hc
        · rename_i hby
          have hu : P.underlying ee = some (.int .u8) := by
            unfold isByte at hby
            split at hby
            · assumption
            · cases hby
          have hcv : convert P s d (e x) h = b2sX (e x) h := by
            simp only [convert, hs, hd, hu, b2sX]; rfl
          rw [hs, hd, hcv, h1]; rfl
        · cases hc
      · cases hc
    · obtain ⟨v, h1, h2⟩ := opt_some hk
      refine ⟨v, h, ?_, h2⟩
      exact congrArg (Option.map (·, h)) (gen h1)
  | makeInterface t x =>
    rw [plain (fun c => by simp)]
    simp only at hk
    have key : P.underlying t ≠ none → (∀ m, P.underlying t ≠ some (.interface m)) → plainOp P e h ⟨dst, .makeInterface t x, ty, pos, after, guard⟩ = some (ifaceX t (e x), h) := by
      intro h1 h2
      simp only [plainOp]
      split
      · rename_i hu; exact absurd hu (h2 _)
      · rename_i hu; exact absurd hu h1
      · unfold ifaceX; cases e x <;> rfl
    refine ⟨_, h, key ?_ ?_, ?_⟩
    · intro hu; simp only [tyKind, hu] at hk; cases hk
    · intro m hu; simp only [tyKind, hu] at hk; cases hk
    · split at hk
      · cases hk
      · cases hk
      · exact hk
  | makeFunc f first cap => exact ⟨_, _, rfl, hk⟩
  | makeSlice t l c =>
    rw [plain (fun c => by simp)]
    simp only at hk
    split at hk
    · rename_i sz z bytes hb
      obtain ⟨v, h', h1, h2⟩ := opt2_some hk
      exact ⟨v, h', by simp only [plainOp, mksliceX_eq hb, h1], h2⟩
    · cases hk
  | slice t x lo hi mx =>
    rw [plain (fun c => by simp)]
    simp only at hk
    split at hk
    · rename_i ht
      obtain ⟨v, h1, h2⟩ := opt_some hk
      refine ⟨v, h, ?_, h2⟩
      have hu : P.underlying t = some .string := by
        unfold tyKind at ht
        split at ht <;> first | assumption | cases ht
      simp only [plainOp, h1, hu]; rfl
    · rename_i ht
      split at hk
      · rename_i sz hc
        obtain ⟨v, h1, h2⟩ := opt_some hk
        refine ⟨v, h, ?_, h2⟩
        unfold cutZ at h1
        split at h1
        · rename_i hx
          split at h1
          · rename_i hb
            cases h1
            simp only [Bool.and_eq_true] at hb
            obtain ⟨⟨⟨hb0, hb3⟩, hb1⟩, hb2⟩ := hb
            obtain ⟨el, hu⟩ : ∃ el, P.underlying t = some (.slice el) := by
              unfold tyKind at ht
              split at ht <;> first | exact ⟨_, by assumption⟩ | cases ht
            have hs : sizeT P el = some sz := by
              unfold cutKind elemT at hc
              rw [hu] at hc
              exact hc
            have hcn : cut P t (e x) (lo.map e) (hi.map e) (mx.map e) h = none := by
              rw [cutX_eq hc, hx]
              rfl
            have hf : fastCut (e x) (lo.map e) (hi.map e) (mx.map e) = none := by
              rw [hx]
              unfold fastCut
              rfl
            simp only [plainOp, hf, hcn]
            cases mx with
            | none => rw [cut_nil hu hs hx hb1 hb2]; rfl
            | some c =>
              cases hi with
              | none => simp at hb0
              | some b => rw [cut_nil3 hu hs hx hb1 hb2 hb3]; rfl
          · cases h1
        · have hf : fastCut (e x) (lo.map e) (hi.map e) (mx.map e) = none := by
            unfold cutX at h1
            cases hx : e x <;> rw [hx] at h1 <;> simp at h1 <;> simp [fastCut]
          simp only [plainOp, hf, cutX_eq hc, h1]; rfl
      · cases hk
    · cases hk
  | fieldAddr s x f =>
    simp only at hk
    split at hk
    · rename_i off hf
      obtain ⟨v, h1, h2⟩ := opt_some hk
      exact ⟨v, h, by rw [plain (fun c => by simp)]; simp only [plainOp, fieldAddrX_eq hf, h1]; rfl, h2⟩
    · cases hk
  | field t x f =>
    simp only at hk
    split at hk
    · rename_i g off hf
      obtain ⟨v, h1, h2⟩ := opt_some hk
      exact ⟨v, h, by rw [plain (fun c => by simp)]; simp only [plainOp, fieldX_eq hf, h1]; rfl, h2⟩
    · cases hk
  | indexAddr t x ix =>
    simp only at hk
    split at hk
    · rename_i sz hf
      obtain ⟨v, h1, h2⟩ := opt_some hk
      exact ⟨v, h, by rw [plain (fun c => by simp)]; simp only [plainOp, indexAddrS_eq hf, h1]; rfl, h2⟩
    · rename_i len sz hf
      obtain ⟨v, h1, h2⟩ := opt_some hk
      exact ⟨v, h, by rw [plain (fun c => by simp)]; simp only [plainOp, indexAddrA_eq hf, h1]; rfl, h2⟩
    · cases hk
  | index t x ix =>
    rw [plain (fun c => by simp)]
    simp only at hk
    split at hk
    · rename_i hf
      obtain ⟨v, h1, h2⟩ := opt_some hk
      refine ⟨v, h, ?_, h2⟩
      have hu : P.underlying t = some .string := by
        unfold atKind at hf
        split at hf
        · assumption
        · split at hf <;> cases hf
        · cases hf
      simp only [plainOp, h1, hu]; rfl
    · rename_i len sz g hf
      obtain ⟨v, h1, h2⟩ := opt_some hk
      obtain ⟨h3, h4⟩ := indexX_eq hf _ _ _ h1
      exact ⟨v, h, by simp only [plainOp, h3, h4]; rfl, h2⟩
    · cases hk
  | extract t i =>
    obtain ⟨v, h1, h2⟩ := opt_some hk
    refine ⟨v, h, ?_, h2⟩
    rw [plain (fun c => by simp)]
    unfold extractX at h1
    simp only [plainOp]
    split at h1
    · rename_i vs hv; simp only [hv, h1]; rfl
    · cases h1
  | makeMap t r0 =>
    cases r0 with
    | some x => cases hk
    | none =>
      obtain ⟨v, h', h1, h2⟩ := opt2_some hk
      exact ⟨v, h', by rw [plain (fun c => by simp)]; exact h1, h2⟩
  | lookup t x ix ok =>
    simp only at hk
    split at hk
    · rename_i kk z hm
      obtain ⟨v, h1, h2⟩ := opt_some hk
      exact ⟨v, h, by rw [plain (fun c => by simp)]; simp only [plainOp, lookupX_eq hm h1]; rfl, h2⟩
    · obtain ⟨v, h1, h2⟩ := opt_some hk
      exact ⟨v, h, by rw [plain (fun c => by simp)]; simp only [plainOp, h1]; rfl, h2⟩
  | mapUpdate t m kx x =>
    simp only at hk
    split at hk
    · rename_i kk z hm
      obtain ⟨h', h1, h2⟩ := optH_some hk
      exact ⟨_, h', by rw [plain (fun c => by simp)]; simp only [plainOp, mapSetX_eq hm h1]; rfl, h2⟩
    · obtain ⟨h', h1, h2⟩ := optH_some hk
      exact ⟨_, h', by rw [plain (fun c => by simp)]; simp only [plainOp, h1]; rfl, h2⟩
  | insert t m kx x =>
    simp only at hk
    split at hk
    · rename_i kk z hm
      obtain ⟨h', h1, h2⟩ := optH_some hk
      exact ⟨_, h', by rw [plain (fun c => by simp)]; simp only [plainOp, mapSetX_eq hm h1]; rfl, h2⟩
    · obtain ⟨h', h1, h2⟩ := optH_some hk
      exact ⟨_, h', by rw [plain (fun c => by simp)]; simp only [plainOp, h1]; rfl, h2⟩
  | range t x =>
    simp only at hk
    split at hk
    · rename_i ht
      obtain ⟨v, h', h1, h2⟩ := opt2_some hk
      refine ⟨v, h', ?_, h2⟩
      rw [plain (fun c => by simp)]
      have hu : P.underlying t = some .string := by
        unfold tyKind at ht
        split at ht <;> first | assumption | cases ht
      unfold rangeX at h1
      split at h1
      · rename_i s hx; simp only [plainOp, hu, hx]; exact h1
      · cases h1
    · rename_i ht
      obtain ⟨v, h', h1, h2⟩ := opt2_some hk
      refine ⟨v, h', ?_, h2⟩
      rw [plain (fun c => by simp)]
      obtain ⟨kt, et, hu⟩ : ∃ kt et, P.underlying t = some (.map kt et) := by
        unfold tyKind at ht
        split at ht <;> first | exact ⟨_, _, by assumption⟩ | cases ht
      simp only [plainOp, hu]
      exact h1
    · cases hk
  | entry it =>
    obtain ⟨v, h1, h2⟩ := opt_some hk
    exact ⟨v, h, by rw [plain (fun c => by simp)]; simp only [plainOp, h1]; rfl, h2⟩
  | mapEntry t m kx =>
    obtain ⟨v, h', h1, h2⟩ := opt2_some hk
    exact ⟨v, h', by rw [plain (fun c => by simp)]; exact h1, h2⟩
  | entryStore t m s x =>
    obtain ⟨h', h1, h2⟩ := optH_some hk
    exact ⟨_, h', by rw [plain (fun c => by simp)]; simp only [plainOp, h1]; rfl, h2⟩
  | typeAssert x xt a ok =>
    obtain ⟨v, h1, h2⟩ := opt_some hk
    exact ⟨v, h, by rw [plain (fun c => by simp)]; simp only [plainOp, h1]; rfl, h2⟩
  | next it b =>
    cases b with
    | false =>
      obtain ⟨v, h', h1, h2⟩ := opt2_some hk
      exact ⟨v, h', by rw [plain (fun c => by simp)]; simp only [plainOp, h1], h2⟩
    | true =>
      obtain ⟨v, h', h1, h2⟩ := opt2_some hk
      exact ⟨v, h', by rw [plain (fun c => by simp)]; simp only [plainOp, h1], h2⟩
  | call c =>
    obtain ⟨callee, args, ats⟩ := c
    cases callee with
    | builtin b =>
      have pl : callOp P call e h ⟨dst, .call ⟨.builtin b, args, ats⟩, ty, pos, after, guard⟩ = plainOp P e h ⟨dst, .call ⟨.builtin b, args, ats⟩, ty, pos, after, guard⟩ := rfl
      rw [pl]
      simp only at hk
      split at hk
      · rename_i s x sT xT ha hT
        split at hk
        · rename_i hi
          obtain ⟨v, h', h1, h2⟩ := opt2_some hk
          exact ⟨v, h', by simp only [plainOp, ha, hT, hi, if_true, h1], h2⟩
        · rename_i hi
          split at hk
          · rename_i sz bytes hc
            obtain ⟨v, h', h1, h2⟩ := opt2_some hk
            exact ⟨v, h', by simp only [plainOp, ha, hT, hi, Bool.false_eq_true, if_false, appendX_eq hc, h1], h2⟩
          · cases hk
      · cases hk
      · rename_i d x dT rest ha hT
        split at hk
        · rename_i sz hc
          obtain ⟨v, h', h1, h2⟩ := opt2_some hk
          exact ⟨v, h', by simp only [plainOp, ha, hT, copyX_eq hc, h1], h2⟩
        · cases hk
      · cases hk
      · rename_i x t ha hT
        split at hk
        · rename_i sz z hc
          obtain ⟨v, h', h1, h2⟩ := opt2_some hk
          exact ⟨v, h', by simp only [plainOp, ha, hT, clearX_eq hc, h1], h2⟩
        · cases hk
      · cases hk
      · rename_i x t ha hT
        split at hk
        · rename_i ht
          obtain ⟨v, h1, h2⟩ := opt_some hk
          refine ⟨v, h, ?_, h2⟩
          have hu : P.underlying t = some .string := by
            unfold tyKind at ht
            split at ht <;> first | assumption | cases ht
          unfold lenStr at h1
          split at h1
          · rename_i s hx
            cases h1
            simp only [plainOp, ha, hT, hu, hx, lenOf]
          · cases h1
        · rename_i ht
          obtain ⟨v, h1, h2⟩ := opt_some hk
          refine ⟨v, h, ?_, h2⟩
          obtain ⟨el, hu⟩ : ∃ el, P.underlying t = some (.slice el) := by
            unfold tyKind at ht
            split at ht <;> first | exact ⟨_, by assumption⟩ | cases ht
          unfold lenS at h1
          split at h1
          · rename_i n hn
            cases h1
            simp only [plainOp, ha, hT, hu, hn]
          · rename_i hn
            split at h1
            · rename_i hx
              cases h1
              have hb : litBi P .len ats.toList ty (args.toList.map constB) (args.toList.map e) = some (.lit (goInt 0)) := by
                rw [ha, hT]
                have hu' : (underlying t : Sem TypeDesc).peval P = some (.slice el) := by
                  show (match P.underlying t with | some d => (Sem.pure d : Sem TypeDesc) | none => _).peval P = _
                  rw [hu]; rfl
                simp only [litBi, List.map_cons, List.map_nil, hx, List.mapM_cons, List.mapM_nil, toLit, builtin, Builtin.len_]
                simp [Sem.peval_bind, hu', Sem.peval, goInt, ofVal]
                rfl
              simp only [plainOp, ha, hT, hu, hn]
              rw [litBi_eq hb]
              rfl
            · cases h1
        · rename_i ht
          obtain ⟨v, h1, h2⟩ := opt_some hk
          refine ⟨v, h, ?_, h2⟩
          obtain ⟨kt, et, hu⟩ : ∃ kt et, P.underlying t = some (.map kt et) := by
            unfold tyKind at ht
            split at ht <;> first | exact ⟨_, _, by assumption⟩ | cases ht
          have hn : lenOf (e x) = none := by
            unfold lenM at h1
            split at h1
            · rename_i hx; rw [hx]; rfl
            · rename_i hx; rw [hx]; rfl
            · cases h1
          simp only [plainOp, ha, hT, hu, hn, h1]
          rfl
        · cases hk
      · rename_i x t ha hT
        split at hk
        · rename_i ht
          obtain ⟨v, h1, h2⟩ := opt_some hk
          refine ⟨v, h, ?_, h2⟩
          obtain ⟨el, hu⟩ : ∃ el, P.underlying t = some (.slice el) := by
            unfold tyKind at ht
            split at ht <;> first | exact ⟨_, by assumption⟩ | cases ht
          unfold capX at h1
          split at h1
          · rename_i hx
            cases h1
            simp only [plainOp, ha, hT, hu, hx]
          · rename_i hx
            cases h1
            simp only [plainOp, ha, hT, hu, hx]
          · rename_i hx
            cases h1
            have hb : litBi P .cap ats.toList ty (args.toList.map constB) (args.toList.map e) = some (.lit (goInt 0)) := by
              rw [ha, hT]
              have hu' : (underlying t : Sem TypeDesc).peval P = some (.slice el) := by
                show (match P.underlying t with | some d => (Sem.pure d : Sem TypeDesc) | none => _).peval P = _
                rw [hu]; rfl
              simp only [litBi, List.map_cons, List.map_nil, hx, List.mapM_cons, List.mapM_nil, toLit, builtin, Builtin.cap_]
              simp [Sem.peval_bind, hu', Sem.peval, goInt, ofVal]
              rfl
            simp only [plainOp, ha, hT, hx]
            rw [litBi_eq hb]
            rfl
          · cases h1
        · cases hk
      · cases hk
      · cases hk
      · rename_i b1 b2 l1 l2 xa xb xc h1 h2 h3 h4 h5 h6 h7
        obtain ⟨v, g1, g2⟩ := opt_some hk
        refine ⟨v, h, ?_, g2⟩
        have := litBi_eq (dst := dst) (pos := pos) (after := after) (guard := guard) g1
        cases b1 <;> first | exact (xa rfl).elim | exact (xb rfl).elim | exact (xc rfl).elim | exact (h1 rfl).elim | exact (h2 rfl).elim | (simp only [plainOp]; rw [this]; rfl)
    | value f =>
      simp only at hk
      split at hk
      · rename_i g
        unfold callX at hk
        simp only [callOp, he, List.nil_append, List.append_nil]
        split at hk
        · rename_i c hb
          obtain ⟨v, h', h1, h2⟩ := opt2_some hk
          exact ⟨v, h', by simp only [hb, h1], h2⟩
        · rename_i hb
          obtain ⟨v, h1, h2⟩ := opt_some hk
          exact ⟨v, h, by simp only [hb, h1], h2⟩
      · obtain ⟨v, h', h1, h2⟩ := opt2_some hk
        refine ⟨v, h', ?_, h2⟩
        unfold callV at h1
        simp only [callOp]
        split at h1
        · rename_i hf
          simp only [hf]
          exact h1
        · cases h1
    | invoke x m =>
      obtain ⟨v, h', h1, h2⟩ := opt2_some hk
      refine ⟨v, h', ?_, h2⟩
      unfold callI at h1
      simp only [callOp]
      split at h1
      · rename_i g y hm
        simp only [hm]
        split at h1
        · rename_i c hb
          simp only [hb]
          exact h1
        · cases h1
      · cases h1
  | _ => cases hk

end Go.Am
