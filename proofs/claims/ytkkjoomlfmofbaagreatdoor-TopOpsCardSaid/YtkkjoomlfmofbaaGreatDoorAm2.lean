import Derived.Test.YtkkjoomlfmofbaaGreatDoorAm1
import Derived.Laws.IdiomCopy
import Derived.Laws.Entries
import Derived.ChangeKeysEq
set_option linter.unusedSimpArgs false
set_option linter.unusedVariables false
set_option linter.unusedSectionVars false
/-! How the abstract machine's values and memory stand to the model's. -/
namespace Go.Am

structure Gh where
  μ : Nat → Nat × Nat
  I : Nat → Nat → Prop

/-- Deep values: what they are hangs on cells alone that nobody writes any more. -/
inductive VD [Nu] (I : Nat → Nat → Prop) (w : World) : AV → Value → Prop
  | lit {v : Value} (h : isAggV v = false) : VD I w (.lit v) v
  | junk {v : Value} : VD I w .junk v
  | agg {cs : List AV} {vs : Array Value} (hl : cs.length = vs.size) (h : ∀ (i : Nat) (c : AV) (v : Value), cs[i]? = some c → vs[i]? = some v → VD I w c v) : VD I w (.agg cs) (.agg vs)
  | tup {cs : List AV} {vs : Array Value} (hl : cs.length = vs.size) (h : ∀ (i : Nat) (c : AV) (v : Value), cs[i]? = some c → vs[i]? = some v → VD I w c v) : VD I w (.tup cs) (.tuple vs)
  | isl {sz : Nat} {full : Bool} {l : List AV} {a : Option Addr} {cap : Nat} (u : Nat → Nat → Value) (hc : l.length ≤ cap) (hf : full = true → cap = l.length)
      (hs : ∀ (i : Nat) (e : AV), l[i]? = some e → (cellsOf e).length = sz ∧ 0 < sz)
      (ha : l ≠ [] → ∃ b o, a = some ⟨b, o, none⟩ ∧ ∀ (i j : Nat), i < l.length → j < sz → I b (o + i * sz + j) ∧ w.cell? ⟨b, o + i * sz + j, none⟩ = some (u i j))
      (hok : ∀ (i : Nat) (e : AV) (j : Nat) (c : AV), l[i]? = some e → (cellsOf e)[j]? = some c → okCell c = true)
      (h : ∀ (i : Nat) (e : AV) (j : Nat) (c : AV), l[i]? = some e → (cellsOf e)[j]? = some c → VD I w c (u i j)) : VD I w (.isl sz full l) (.slice a l.length cap)
  | iptr {e : AV} {off b o : Nat} (u : Nat → Value)
      (ha : ∀ j : Nat, j < (cellsOf e).length → I b (o + j) ∧ w.cell? ⟨b, o + j, none⟩ = some (u j))
      (hok : ∀ (j : Nat) (c : AV), (cellsOf e)[j]? = some c → okCell c = true)
      (h : ∀ (j : Nat) (c : AV), (cellsOf e)[j]? = some c → VD I w c (u j)) : VD I w (.iptr e off) (.pointer (some ⟨b, o + off, none⟩))
  | fn {f : Fn} {x y : List AV} {x' y' : Array Value} (hx : x.length = x'.size) (hy : y.length = y'.size)
      (h : ∀ (i : Nat) (c : AV) (v : Value), x[i]? = some c → x'[i]? = some v → VD I w c v) (h' : ∀ (i : Nat) (c : AV) (v : Value), y[i]? = some c → y'[i]? = some v → VD I w c v) : VD I w (.fn f x y) (.func f x' y')
  | iface {t : TypeId} {a : AV} {v : Value} (h : VD I w a v) : VD I w (.iface t a) (.iface t v)
  | sym {n : Nat} : VD I w (.sym n) (Nu.val n)

inductive V [Nu] (g : Gh) (h : Heap) (w : World) : AV → Value → Prop
  | deep {a : AV} {v : Value} (hd : VD g.I w a v) : V g h w a v
  | agg {cs : List AV} {vs : Array Value} (hl : cs.length = vs.size) (hh : ∀ (i : Nat) (c : AV) (v : Value), cs[i]? = some c → vs[i]? = some v → V g h w c v) : V g h w (.agg cs) (.agg vs)
  | tup {cs : List AV} {vs : Array Value} (hl : cs.length = vs.size) (hh : ∀ (i : Nat) (c : AV) (v : Value), cs[i]? = some c → vs[i]? = some v → V g h w c v) : V g h w (.tup cs) (.tuple vs)
  | fn {f : Fn} {x y : List AV} {x' y' : Array Value} (hx : x.length = x'.size) (hy : y.length = y'.size)
      (h1 : ∀ (i : Nat) (c : AV) (v : Value), x[i]? = some c → x'[i]? = some v → V g h w c v) (h2 : ∀ (i : Nat) (c : AV) (v : Value), y[i]? = some c → y'[i]? = some v → V g h w c v) : V g h w (.fn f x y) (.func f x' y')
  | iface {t : TypeId} {a : AV} {v : Value} (hh : V g h w a v) : V g h w (.iface t a) (.iface t v)
  | sl {id off len : Nat} {full : Bool} {ad : Addr} {cap : Nat} (hid : id < h.length) (hc : len ≤ cap) (hf : full = true → cap = len) (hR : full = false → ∀ A, h[id]? = some (.arr A) → A.elems.length ≤ off + cap)
      (hA : ∀ A, h[id]? = some (.arr A) → (cap ≠ 0 → ad = ⟨(g.μ id).1, (g.μ id).2 + off * A.sz, none⟩) ∧ ∀ T n, w.shape? (g.μ id).1 = some (T, n) → (g.μ id).2 + (off + cap) * A.sz ≤ n) :
      V g h w (.sl id off len full) (.slice (some ad) len cap)
  | ptr {id i off b o : Nat} (hid : id < h.length) (hA : ∀ A, h[id]? = some (.arr A) → b = (g.μ id).1 ∧ o = (g.μ id).2 + i * A.sz + off)
      (hS : off = 0 → ∀ x, h[id]? = some (.siter x) → b = (g.μ id).1 ∧ o = 0) : V g h w (.ptr id i off) (.pointer (some ⟨b, o, none⟩))
  | map {id r : Nat} (hid : id < h.length) (hM : ∀ es k, h[id]? = some (.map es k) → r = (g.μ id).1) : V g h w (.map id) (.map (some r))

def alive (h : Heap) (id : Nat) : Prop := ∃ o, h[id]? = some o ∧ o.isDead = false

theorem alive.lt {h : Heap} {id : Nat} (ha : alive h id) : id < h.length := by
  obtain ⟨o, ho, _⟩ := ha
  rcases Nat.lt_or_ge id h.length with hlt | hge
  · exact hlt
  · rw [List.getElem?_eq_none hge] at ho; cases ho

theorem alive_arr {h : Heap} {id : Nat} {A : Arr} (ha : h[id]? = some (.arr A)) : alive h id := ⟨_, ha, rfl⟩
theorem alive_map {h : Heap} {id : Nat} {es : List (Value × AV × Nat)} {k : Nat} (ha : h[id]? = some (.map es k)) : alive h id := ⟨_, ha, rfl⟩
theorem alive_siter {h : Heap} {id : Nat} {x : It} (ha : h[id]? = some (.siter x)) : alive h id := ⟨_, ha, rfl⟩

/-- What was known of values stays known. -/
structure Ext (g : Gh) (h : Heap) (w : World) (g' : Gh) (h' : Heap) (w' : World) : Prop where
  imm : ∀ b o, g.I b o → g'.I b o ∧ w'.cell? ⟨b, o, none⟩ = w.cell? ⟨b, o, none⟩
  len : h.length ≤ h'.length
  keepA : ∀ id A', id < h.length → h'[id]? = some (.arr A') → ∃ A, h[id]? = some (.arr A) ∧ (A'.sz = A.sz ∧ A'.elems.length = A.elems.length) ∧ g'.μ id = g.μ id ∧ w'.shape? (g.μ id).1 = w.shape? (g.μ id).1
  keepM : ∀ id es' k', id < h.length → h'[id]? = some (.map es' k') → ∃ es k, h[id]? = some (.map es k) ∧ g'.μ id = g.μ id
  keepS : ∀ id x', id < h.length → h'[id]? = some (.siter x') → ∃ x, h[id]? = some (.siter x) ∧ g'.μ id = g.μ id

theorem VD.mono [Nu] {I I' : Nat → Nat → Prop} {w w' : World} (hI : ∀ b o, I b o → I' b o ∧ w'.cell? ⟨b, o, none⟩ = w.cell? ⟨b, o, none⟩) {a : AV} {v : Value}
    (h : VD I w a v) : VD I' w' a v := by
  induction h with
  | lit h => exact .lit h
  | junk => exact .junk
  | agg hl _ ih => exact .agg hl ih
  | tup hl _ ih => exact .tup hl ih
  | isl u hc hf hs ha hok _ ih =>
    refine .isl u hc hf hs (fun hn => ?_) hok ih
    obtain ⟨b, o, e, hh⟩ := ha hn
    exact ⟨b, o, e, fun i j hi hj => ⟨(hI _ _ (hh i j hi hj).1).1, by rw [(hI _ _ (hh i j hi hj).1).2]; exact (hh i j hi hj).2⟩⟩
  | iptr u ha hok _ ih => exact .iptr u (fun j hj => ⟨(hI _ _ (ha j hj).1).1, by rw [(hI _ _ (ha j hj).1).2]; exact (ha j hj).2⟩) hok ih
  | fn hx hy _ _ ih1 ih2 => exact .fn hx hy ih1 ih2
  | iface _ ih => exact .iface ih
  | sym => exact .sym

theorem V.ext [Nu] {g g' : Gh} {h h' : Heap} {w w' : World} (e : Ext g h w g' h' w') {a : AV} {v : Value} (hv : V g h w a v) : V g' h' w' a v := by
  induction hv with
  | deep hd => exact .deep (hd.mono e.imm)
  | agg hl _ ih => exact .agg hl ih
  | tup hl _ ih => exact .tup hl ih
  | fn hx hy _ _ ih1 ih2 => exact .fn hx hy ih1 ih2
  | iface _ ih => exact .iface ih
  | sl hid hc hf hR hA =>
    refine .sl (Nat.lt_of_lt_of_le hid e.len) hc hf (fun h0 A' hA' => ?_) fun A' hA' => ?_
    · obtain ⟨A, ha, ⟨_, hln⟩, _⟩ := e.keepA _ _ hid hA'
      rw [hln]; exact hR h0 A ha
    obtain ⟨A, ha, ⟨hsz, _⟩, hμ, hsh⟩ := e.keepA _ _ hid hA'
    obtain ⟨h1, h2⟩ := hA A ha
    rw [hμ, hsz]
    exact ⟨h1, fun T n hn => h2 T n (by rw [← hsh]; exact hn)⟩
  | ptr hid hA hS =>
    refine .ptr (Nat.lt_of_lt_of_le hid e.len) (fun A' hA' => ?_) (fun h0 x hs => ?_)
    · obtain ⟨A, ha, ⟨hsz, _⟩, hμ, _⟩ := e.keepA _ _ hid hA'
      rw [hμ, hsz]; exact hA A ha
    · obtain ⟨x0, ha, hμ⟩ := e.keepS _ _ hid hs
      rw [hμ]; exact hS h0 _ ha
  | map hid hM =>
    refine .map (Nat.lt_of_lt_of_le hid e.len) fun es k hk => ?_
    obtain ⟨es0, k0, ha, hμ⟩ := e.keepM _ _ _ hid hk
    rw [hμ]; exact hM _ _ ha

theorem Ext.refl (g : Gh) (h : Heap) (w : World) : Ext g h w g h w :=
  ⟨fun _ _ hi => ⟨hi, rfl⟩, Nat.le_refl _, fun _ A _ hA => ⟨A, hA, ⟨rfl, rfl⟩, rfl, rfl⟩, fun _ es k _ hk => ⟨es, k, hk, rfl⟩, fun _ x _ hk => ⟨x, hk, rfl⟩⟩

theorem Ext.trans {g g1 g2 : Gh} {h h1 h2 : Heap} {w w1 w2 : World} (a : Ext g h w g1 h1 w1) (b : Ext g1 h1 w1 g2 h2 w2) : Ext g h w g2 h2 w2 where
  imm := fun x o hi => ⟨(b.imm _ _ (a.imm _ _ hi).1).1, (b.imm _ _ (a.imm _ _ hi).1).2.trans (a.imm _ _ hi).2⟩
  len := Nat.le_trans a.len b.len
  keepA := fun id A' hid hA' => by
    obtain ⟨A1, h1, s1, m1, c1⟩ := b.keepA id A' (Nat.lt_of_lt_of_le hid a.len) hA'
    obtain ⟨A, h0, s0, m0, c0⟩ := a.keepA id A1 hid h1
    exact ⟨A, h0, ⟨s1.1.trans s0.1, s1.2.trans s0.2⟩, m1.trans m0, by rw [m0] at c1; exact c1.trans c0⟩
  keepM := fun id es k hid hk => by
    obtain ⟨es1, k1, h1, m1⟩ := b.keepM id es k (Nat.lt_of_lt_of_le hid a.len) hk
    obtain ⟨es0, k0, h0, m0⟩ := a.keepM id es1 k1 hid h1
    exact ⟨es0, k0, h0, m1.trans m0⟩
  keepS := fun id x hid hk => by
    obtain ⟨x1, h1, m1⟩ := b.keepS id x (Nat.lt_of_lt_of_le hid a.len) hk
    obtain ⟨x0, h0, m0⟩ := a.keepS id x1 hid h1
    exact ⟨x0, h0, m1.trans m0⟩

/-- A row of the heap and its block. -/
structure ArrOk [Nu] (g : Gh) (h : Heap) (w : World) (id : Nat) (A : Arr) : Prop where
  sz : 0 < A.sz
  shape : ∃ T n, w.shape? (g.μ id).1 = some (T, n) ∧ (g.μ id).2 + A.elems.length * A.sz ≤ n ∧ ∀ o, o < n → w.frozen? ⟨(g.μ id).1, o, none⟩ = false
  len : ∀ (i : Nat) (e : AV), A.elems[i]? = some e → (cellsOf e).length = A.sz
  okc : ∀ (i : Nat) (e : AV) (j : Nat) (x : AV), A.elems[i]? = some e → (cellsOf e)[j]? = some x → okCell x = true
  rel : ∀ (i : Nat) (e : AV) (j : Nat) (x : AV), A.elems[i]? = some e → (cellsOf e)[j]? = some x → ∃ u, w.cell? ⟨(g.μ id).1, (g.μ id).2 + i * A.sz + j, none⟩ = some u ∧ V g h w x u

structure MapOk [Nu] (g : Gh) (h : Heap) (w : World) (id : Nat) (es : List (Value × AV × Nat)) (k : Nat) : Prop where
  it : ∃ es' : Array MapEntry, w.heap[(g.μ id).1]? = some (.map es' k) ∧ es'.size = es.length ∧
    ∀ (i : Nat) (x : Value × AV × Nat), es[i]? = some x → ∃ e : MapEntry, es'[i]? = some e ∧ e.key = x.1 ∧ e.born = x.2.2 ∧ V g h w x.2.1 e.val

/-- What goes through a text or a map. -/
inductive ItOk [Nu] (g : Gh) (h : Heap) (w : World) : It → Obj → Prop
  | str {s : ByteArray} {p : Nat} : ItOk g h w (.str s p) (.stringIter s p)
  | none : ItOk g h w .none (.mapIter none 0 #[] 0)
  | ent {m r since last : Nat} {seen : List Nat} (hv : V g h w (.map m) (.map (some r))) : ItOk g h w (.ent m since seen last) (.mapIter (some r) since seen.toArray last)

theorem ItOk.ext [Nu] {g g' : Gh} {h h' : Heap} {w w' : World} (e : Ext g h w g' h' w') {x : It} {o : Obj} (hi : ItOk g h w x o) : ItOk g' h' w' x o := by
  cases hi with
  | str => exact .str
  | none => exact .none
  | ent hv => exact .ent (hv.ext e)

structure R [Nu] (g : Gh) (h : Heap) (w : World) : Prop where
  arr : ∀ id A, h[id]? = some (.arr A) → ArrOk g h w id A
  map : ∀ id es k, h[id]? = some (.map es k) → MapOk g h w id es k
  siter : ∀ id x, h[id]? = some (.siter x) → ∃ o, w.heap[(g.μ id).1]? = some o ∧ ItOk g h w x o
  inj : ∀ i j, alive h i → alive h j → (g.μ i).1 = (g.μ j).1 → i = j
  imm : ∀ b o, g.I b o → (∃ u, w.cell? ⟨b, o, none⟩ = some u) ∧
    ∀ id, alive h id → (g.μ id).1 = b → ∃ A, h[id]? = some (.arr A) ∧ A.shared = true ∧ o < (g.μ id).2 + A.elems.length * A.sz

structure Post (g : Gh) (h : Heap) (w : World) (g' : Gh) (h' : Heap) (w' : World) : Prop where
  ext : Ext g h w g' h' w'
  size : w.heap.size ≤ w'.heap.size
  frame : ∀ b, b < w.heap.size → (∀ id, alive h id → (g.μ id).1 ≠ b) → w'.heap[b]? = w.heap[b]?
  own : ∀ id, alive h' id → w.heap.size ≤ (g'.μ id).1 ∨ ∃ j, alive h j ∧ (g.μ j).1 = (g'.μ id).1
  immNew : ∀ b o, g'.I b o → g.I b o ∨ w.heap.size ≤ b ∨ ∃ j, alive h j ∧ (g.μ j).1 = b
  os : w'.os = w.os
  tape : w'.tape = w.tape
  output : w'.output = w.output

theorem Post.refl (g : Gh) (h : Heap) (w : World) : Post g h w g h w :=
  ⟨.refl _ _ _, Nat.le_refl _, fun _ _ _ => rfl, fun id ha => .inr ⟨id, ha, rfl⟩, fun _ _ hi => .inl hi, rfl, rfl, rfl⟩

theorem Post.trans {g g1 g2 : Gh} {h h1 h2 : Heap} {w w1 w2 : World} (a : Post g h w g1 h1 w1) (b : Post g1 h1 w1 g2 h2 w2) : Post g h w g2 h2 w2 where
  ext := a.ext.trans b.ext
  size := Nat.le_trans a.size b.size
  frame := fun x hx hn => by
    refine (b.frame x (Nat.lt_of_lt_of_le hx a.size) fun id ha he => ?_).trans (a.frame x hx hn)
    rcases a.own id ha with h1 | ⟨j, hj, hj'⟩
    · omega
    · exact hn j hj (hj'.trans he)
  own := fun id ha => by
    rcases b.own id ha with h1 | ⟨j, hj, hj'⟩
    · exact .inl (Nat.le_trans a.size h1)
    · rcases a.own j hj with h2 | ⟨k, hk, hk'⟩
      · exact .inl (by omega)
      · exact .inr ⟨k, hk, hk'.trans hj'⟩
  immNew := fun x o hi => by
    rcases b.immNew x o hi with h1 | h1 | ⟨j, hj, hj'⟩
    · exact a.immNew x o h1
    · exact .inr (.inl (Nat.le_trans a.size h1))
    · rcases a.own j hj with h2 | ⟨k, hk, hk'⟩
      · exact .inr (.inl (by omega))
      · exact .inr (.inr ⟨k, hk, hk'.trans hj'⟩)
  os := b.os.trans a.os
  tape := b.tape.trans a.tape
  output := b.output.trans a.output

/-! ### Values: what their shape tells -/

theorem VD.V [Nu] {g : Gh} {h : Heap} {w : World} {a : AV} {v : Value} (hd : VD g.I w a v) : V g h w a v := .deep hd

theorem V.lit_inv [Nu] {g : Gh} {h : Heap} {w : World} {x v : Value} (hv : V g h w (.lit x) v) : v = x := by
  cases hv with
  | deep hd => cases hd; rfl

theorem V.sym_inv [Nu] {g : Gh} {h : Heap} {w : World} {n : Nat} {v : Value} (hv : V g h w (.sym n) v) : v = Nu.val n := by
  cases hv with
  | deep hd => cases hd; rfl

theorem V.cells [Nu] {g : Gh} {h : Heap} {w : World} {a : AV} {v : Value} (hv : V g h w a v) (hj : a ≠ .junk) :
    (cellsOf a).length = v.cells.size ∧ ∀ (i : Nat) (c : AV) (u : Value), (cellsOf a)[i]? = some c → v.cells[i]? = some u → V g h w c u := by
  have one : ∀ {a : AV} {v : Value}, cellsOf a = [a] → v.cells = #[v] → V g h w a v → (cellsOf a).length = v.cells.size ∧ ∀ (i : Nat) (c : AV) (u : Value), (cellsOf a)[i]? = some c → v.cells[i]? = some u → V g h w c u := by
    intro a v h1 h2 hv
    rw [h1, h2]
    refine ⟨rfl, fun i c u hc hu => ?_⟩
    cases i with
    | zero => simp at hc hu; subst hc; subst hu; exact hv
    | succ i => simp at hc
  cases hv with
  | deep hd =>
    cases hd with
    | agg hl hh => exact ⟨hl, fun i c u hc hu => .deep (hh i c u hc hu)⟩
    | junk => exact absurd rfl hj
    | lit hh =>
      refine one rfl ?_ (.deep (.lit hh))
      cases v <;> first | rfl | simp [isAggV] at hh
    | tup hl hh => exact one rfl rfl (.deep (.tup hl hh))
    | isl u hc hf hs ha hok hh => exact one rfl rfl (.deep (.isl u hc hf hs ha hok hh))
    | iptr u ha hok hh => exact one rfl rfl (.deep (.iptr u ha hok hh))
    | fn hx hy h1 h2 => exact one rfl rfl (.deep (.fn hx hy h1 h2))
    | iface hh => exact one rfl rfl (.deep (.iface hh))
    | sym => exact one rfl rfl (.deep .sym)
  | agg hl hh => exact ⟨hl, hh⟩
  | tup hl hh => exact one rfl rfl (.tup hl hh)
  | fn hx hy h1 h2 => exact one rfl rfl (.fn hx hy h1 h2)
  | iface hh => exact one rfl rfl (.iface hh)
  | sl hid hc hf hR hA => exact one rfl rfl (.sl hid hc hf hR hA)
  | ptr hid hA hS => exact one rfl rfl (.ptr hid hA hS)
  | map hid hM => exact one rfl rfl (.map hid hM)

theorem V.oneCell [Nu] {g : Gh} {h : Heap} {w : World} {a : AV} {v : Value} (hv : V g h w a v) (ho : okCell a = true) : v.oneCell' = true := by
  cases hv with
  | deep hd =>
    cases hd <;> first | rfl | (simp [okCell] at ho; done) | skip
    rename_i hh
    cases v <;> first | rfl | (simp [okCell, cellOk] at ho; done)
  | _ => first | rfl | (simp [okCell] at ho; done)

end Go.Am
