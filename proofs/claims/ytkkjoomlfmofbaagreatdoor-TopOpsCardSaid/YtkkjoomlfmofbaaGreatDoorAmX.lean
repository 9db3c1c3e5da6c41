import Derived.Test.YtkkjoomlfmofbaaGreatDoorAmS4
set_option linter.unusedSectionVars false
/-! What the machine's operations answer of values whose form is known. -/
namespace Go.Am
set_option linter.unusedSimpArgs false
set_option linter.unusedVariables false

variable {P : Program}

/-- An equation that simp does not take for one by computation: the kernel need not run the program to see it. -/
theorem nr {α : Sort _} {a b : α} (h : a = b) : a = b := h

@[simp] theorem opt_s (v : AV) (k : AV → Res) : opt (some v) k = k v := nr rfl
@[simp] theorem opt_n (k : AV → Res) : opt none k = none := nr rfl
@[simp] theorem opt2_s (v : AV) (h : Heap) (k : AV → Heap → Res) : opt2 (some (v, h)) k = k v h := nr rfl
@[simp] theorem opt2_n (k : AV → Heap → Res) : opt2 none k = none := nr rfl
@[simp] theorem optH_s (h : Heap) (k : Heap → Res) : optH (some h) k = k h := nr rfl
@[simp] theorem test_b (b : Bool) (A B : Res) : test (.lit (.bool b)) A B = if b = true then A else B := by cases b <;> rfl
@[simp] theorem eqK_s (a : AV) (k : Res) : eqK a a k = k := eqK_self a k
@[simp] theorem eqH_s (a : Heap) (k : Res) : eqH a a k = k := eqH_self a k

theorem wrap64 {n : Int} (h1 : -9223372036854775808 ≤ n) (h2 : n ≤ 9223372036854775807) : fastWrap .i64 n = n := if_pos ⟨h1, h2⟩
theorem wrap8 {n : Int} (h1 : 0 ≤ n) (h2 : n ≤ 255) : fastWrap .u8 n = n := if_pos ⟨h1, h2⟩

@[simp] theorem fb_add (a b : Int) (k : IntKind) : fastBin .add (.lit (.int k a)) (.lit (.int k b)) = some (.lit (.int k (fastWrap k (a + b)))) := by cases k <;> rfl
@[simp] theorem fb_sub (a b : Int) (k : IntKind) : fastBin .sub (.lit (.int k a)) (.lit (.int k b)) = some (.lit (.int k (fastWrap k (a - b)))) := by cases k <;> rfl
@[simp] theorem fb_mul (a b : Int) (k : IntKind) : fastBin .mul (.lit (.int k a)) (.lit (.int k b)) = some (.lit (.int k (fastWrap k (a * b)))) := by cases k <;> rfl
@[simp] theorem fb_eql (a b : Int) (k : IntKind) : fastBin .eql (.lit (.int k a)) (.lit (.int k b)) = some (.lit (.bool (decide (a = b)))) := by cases k <;> rfl
@[simp] theorem fb_neq (a b : Int) (k : IntKind) : fastBin .neq (.lit (.int k a)) (.lit (.int k b)) = some (.lit (.bool (decide (a ≠ b)))) := by
  have : (a != b) = decide (a ≠ b) := by rw [bne]; by_cases h : a = b <;> simp [h]
  cases k <;> exact congrArg (fun x => some (AV.lit (.bool x))) this
@[simp] theorem fb_lss (a b : Int) (k : IntKind) : fastBin .lss (.lit (.int k a)) (.lit (.int k b)) = some (.lit (.bool (decide (a < b)))) := by cases k <;> rfl
@[simp] theorem fb_leq (a b : Int) (k : IntKind) : fastBin .leq (.lit (.int k a)) (.lit (.int k b)) = some (.lit (.bool (decide (a ≤ b)))) := by cases k <;> rfl
@[simp] theorem fb_gtr (a b : Int) (k : IntKind) : fastBin .gtr (.lit (.int k a)) (.lit (.int k b)) = some (.lit (.bool (decide (b < a)))) := by cases k <;> rfl
@[simp] theorem fb_geq (a b : Int) (k : IntKind) : fastBin .geq (.lit (.int k a)) (.lit (.int k b)) = some (.lit (.bool (decide (b ≤ a)))) := by cases k <;> rfl
@[simp] theorem fb_eqls (a b : List UInt8) : fastBin .eql (.lit (.string ⟨⟨a⟩⟩)) (.lit (.string ⟨⟨b⟩⟩)) = some (.lit (.bool (decide (a = b)))) := by
  show some (AV.lit (.bool (a == b))) = _
  congr 3
  by_cases h : a = b <;> simp [h]
@[simp] theorem fb_neqs (a b : List UInt8) : fastBin .neq (.lit (.string ⟨⟨a⟩⟩)) (.lit (.string ⟨⟨b⟩⟩)) = some (.lit (.bool (decide (a ≠ b)))) := by
  show some (AV.lit (.bool !(a == b))) = _
  congr 3
  by_cases h : a = b <;> simp [h]
theorem fb_adds {a b : List UInt8} (h : a.length + b.length < 1152921504606846976) : fastBin .add (.lit (.string ⟨⟨a⟩⟩)) (.lit (.string ⟨⟨b⟩⟩)) = some (.lit (.string ⟨⟨a ++ b⟩⟩)) := if_pos h

@[simp] theorem not_b (b : Bool) : notX (.lit (.bool b)) = some (.lit (.bool !b)) := nr rfl
@[simp] theorem pick_b (b : Bool) (x y : AV) : pickX (.lit (.bool b)) x y = some (if b = true then x else y) := by cases b <;> rfl
@[simp] theorem convI_i (k k' : IntKind) (n : Int) : convI k (.lit (.int k' n)) = some (.lit (.int k (fastWrap k n))) := nr rfl
@[simp] theorem lenStr_s (l : List UInt8) : lenStr (.lit (.string ⟨⟨l⟩⟩)) = some (.lit (.int .i64 l.length)) := nr rfl
@[simp] theorem lenS_isl (z : Nat) (f : Bool) (l : List AV) : lenS (.isl z f l) = some (.lit (.int .i64 l.length)) := nr rfl
@[simp] theorem lenS_sl (i o n : Nat) (f : Bool) : lenS (.sl i o n f) = some (.lit (.int .i64 n)) := nr rfl
@[simp] theorem lenS_nil : lenS (.lit (.slice none 0 0)) = some (.lit (.int .i64 0)) := nr rfl
@[simp] theorem extract_tup (l : List AV) (i : Nat) : extractX (.tup l) i = l[i]? := nr rfl
theorem ix_str {l : List UInt8} {k : IntKind} {n : Int} (h : 0 ≤ n) : fastIndex (.lit (.string ⟨⟨l⟩⟩)) (.lit (.int k n)) = (l[n.toNat]?).map fun b => .lit (.int .u8 b.toNat) := if_pos h
theorem cut_str {l : List UInt8} {k k' : IntKind} {a b : Int} (h0 : 0 ≤ a) (h1 : a ≤ b) (h2 : b ≤ l.length) :
    fastCut (.lit (.string ⟨⟨l⟩⟩)) (some (.lit (.int k a))) (some (.lit (.int k' b))) none = some (.lit (.string ⟨⟨(l.drop a.toNat).take (b.toNat - a.toNat)⟩⟩)) := by
  have hb : 0 ≤ b := by omega
  simp only [fastCut, bound, intLit, h0, hb, if_true]
  rw [if_pos ⟨by omega, by show b.toNat ≤ l.length; omega⟩]
theorem cut_from {l : List UInt8} {k : IntKind} {a : Int} (h0 : 0 ≤ a) (h2 : a ≤ l.length) :
    fastCut (.lit (.string ⟨⟨l⟩⟩)) (some (.lit (.int k a))) none none = some (.lit (.string ⟨⟨l.drop a.toNat⟩⟩)) := by
  simp only [fastCut, bound, intLit, h0, if_true]
  rw [if_pos ⟨by show a.toNat ≤ l.length; omega, Nat.le_refl _⟩]
  congr 5
  exact List.take_of_length_le (by simp)

/-! ### Numbers of a text's bytes -/
theorem ceq (n k : Nat) : ((n : Int) = (no_index (OfNat.ofNat k) : Int)) = (n = k) := propext ⟨fun h => by have : (n : Int) = (k : Int) := h; omega, fun h => by subst h; rfl⟩
theorem clt1 (n k : Nat) : ((n : Int) < (no_index (OfNat.ofNat k) : Int)) = (n < k) := propext ⟨fun h => by have : (n : Int) < (k : Int) := h; omega, fun h => by show (n : Int) < (k : Int); omega⟩
theorem clt2 (n k : Nat) : ((no_index (OfNat.ofNat k) : Int) < (n : Int)) = (k < n) := propext ⟨fun h => by have : (k : Int) < (n : Int) := h; omega, fun h => by show (k : Int) < (n : Int); omega⟩
theorem cle1 (n k : Nat) : ((n : Int) ≤ (no_index (OfNat.ofNat k) : Int)) = (n ≤ k) := propext ⟨fun h => by have : (n : Int) ≤ (k : Int) := h; omega, fun h => by show (n : Int) ≤ (k : Int); omega⟩
theorem cle2 (n k : Nat) : ((no_index (OfNat.ofNat k) : Int) ≤ (n : Int)) = (k ≤ n) := propext ⟨fun h => by have : (k : Int) ≤ (n : Int) := h; omega, fun h => by show (k : Int) ≤ (n : Int); omega⟩

theorem rem_int {t : TypeId} {k : IntKind} {a b : Int} (hb : b ≠ 0) : binX P .none .rem t (.lit (.int k a)) (.lit (.int k b)) = some (.lit (.int k (a.tmod b))) := by
  have h1 : fastBin .rem (.lit (.int k a)) (.lit (.int k b)) = none := by cases k <;> rfl
  have h2 : nilTestK .none .rem (.lit (.int k a)) (.lit (.int k b)) = none := rfl
  unfold binX
  rw [h1, h2]
  have h3 : (binOp .rem t (.int k a) (.int k b)) = Op.intDiv .rem k a b := by simp [binOp]
  have h4 : (do eqGuard .rem t (.tmp 0) (.tmp 1) (.int k a) (.int k b); binOp .rem t (.int k a) (.int k b) : Sem Value) = Op.intDiv .rem k a b := by rw [h3]; rfl
  simp only [litBin, toLit]
  show ((do eqGuard .rem t (.tmp 0) (.tmp 1) (.int k a) (.int k b); binOp .rem t (.int k a) (.int k b) : Sem Value).peval P).map ofVal = _
  rw [h4]
  unfold Op.intDiv
  rw [if_neg (by simpa using hb)]
  rfl
theorem quo_int {t : TypeId} {k : IntKind} {a b : Int} (hb : b ≠ 0) : binX P .none .quo t (.lit (.int k a)) (.lit (.int k b)) = some (.lit (.int k (k.wrap (a.tdiv b)))) := by
  have h1 : fastBin .quo (.lit (.int k a)) (.lit (.int k b)) = none := by cases k <;> rfl
  have h2 : nilTestK .none .quo (.lit (.int k a)) (.lit (.int k b)) = none := rfl
  unfold binX
  rw [h1, h2]
  have h3 : (binOp .quo t (.int k a) (.int k b)) = Op.intDiv .quo k a b := by simp [binOp]
  have h4 : (do eqGuard .quo t (.tmp 0) (.tmp 1) (.int k a) (.int k b); binOp .quo t (.int k a) (.int k b) : Sem Value) = Op.intDiv .quo k a b := by rw [h3]; rfl
  simp only [litBin, toLit]
  show ((do eqGuard .quo t (.tmp 0) (.tmp 1) (.int k a) (.int k b); binOp .quo t (.int k a) (.int k b) : Sem Value).peval P).map ofVal = _
  rw [h4]
  unfold Op.intDiv
  rw [if_neg (by simpa using hb)]
  rfl
theorem neg_int {k : IntKind} {a : Int} : litUn P .neg (.lit (.int k a)) = some (.lit (.int k (k.wrap (0 - a)))) := nr rfl
theorem kwrap64 {n : Int} (h1 : -9223372036854775808 ≤ n) (h2 : n ≤ 9223372036854775807) : IntKind.i64.wrap n = n := by
  unfold IntKind.wrap
  simp [IntKind.signed, IntKind.bits]
  omega

/-! ### Slices that a function grows by itself -/

/-- A slice of the function's own: none yet, or a row of its own. -/
def OwnS (h : Heap) (v : AV) (sz : Nat) (es : List AV) : Option Nat → Prop
  | none => v = .lit (.slice none 0 0) ∧ es = []
  | some id => v = .sl id 0 es.length false ∧ h[id]? = some (.arr ⟨sz, true, false, es⟩)

def kill (h : Heap) : Option Nat → Heap
  | none => h
  | some id => h.set id .dead

theorem kill_length (h : Heap) (o : Option Nat) : (kill h o).length = h.length := by cases o <;> simp [kill]

theorem OwnS.lt {h : Heap} {v : AV} {sz : Nat} {es : List AV} {id : Nat} (o : OwnS h v sz es (some id)) : id < h.length := (List.getElem?_eq_some_iff.1 o.2).1

theorem OwnS.len {h : Heap} {v : AV} {sz : Nat} {es : List AV} {o : Option Nat} (w : OwnS h v sz es o) : lenS v = some (.lit (.int .i64 es.length)) := by
  cases o with
  | none => obtain ⟨rfl, rfl⟩ := w; rfl
  | some id => obtain ⟨rfl, _⟩ := w; rfl

theorem elems_isl (h : Heap) (sz : Nat) (f : Bool) (l : List AV) : elemsOf h sz (.isl sz f l) = some l := if_pos rfl

theorem OwnS.append {h : Heap} {v : AV} {sz bytes : Nat} {es ys : List AV} {o : Option Nat} {f : Bool} (w : OwnS h v sz es o) (hy : ys ≠ []) (hr : (2 * (es.length + ys.length) + 1024) * (bytes + 1) ≤ 140737488355328) :
    appendX sz bytes v (.isl sz f ys) h = some (.sl h.length 0 (es.length + ys.length) false, kill h o ++ [.arr ⟨sz, true, false, es ++ ys⟩]) := by
  have hr' : roomy bytes (es.length + ys.length) = true := decide_eq_true hr
  unfold appendX
  rw [elems_isl]
  have he : ys.isEmpty = false := by cases ys <;> simp_all
  simp only [he, Bool.false_eq_true, if_false]
  cases o with
  | none =>
    obtain ⟨rfl, rfl⟩ := w
    simp only [List.length_nil, Nat.zero_add] at hr' ⊢
    rw [if_pos hr']
    rfl
  | some id =>
    obtain ⟨rfl, hid⟩ := w
    simp only [hid]
    have hy0 : ys.length ≠ 0 := fun h0 => hy (List.eq_nil_of_length_eq_zero h0)
    rw [if_neg (fun hh => by have := hh.2.2.2; simp only [Nat.zero_add] at this; omega), if_pos ⟨trivial, by simp, hr'⟩]
    simp [kill]

theorem OwnS.appended {h : Heap} {sz : Nat} {es : List AV} {o : Option Nat} : OwnS (kill h o ++ [.arr ⟨sz, true, false, es⟩]) (.sl h.length 0 es.length false) sz es (some h.length) :=
  ⟨rfl, by rw [List.getElem?_append_right (by rw [kill_length]; exact Nat.le_refl _), kill_length]; simp⟩

theorem get_kill {h : Heap} {o : Option Nat} {id : Nat} {x : AObj} (hid : h[id]? = some x) (hne : o ≠ some id) (y : List AObj) : (kill h o ++ y)[id]? = some x := by
  have hl : id < h.length := (List.getElem?_eq_some_iff.1 hid).1
  rw [List.getElem?_append_left (by rw [kill_length]; exact hl)]
  cases o with
  | none => exact hid
  | some j =>
    simp only [kill]
    rw [List.getElem?_set_ne (fun e => hne (by rw [e]))]
    exact hid

theorem OwnS.keep {h : Heap} {v : AV} {sz : Nat} {es : List AV} {o p : Option Nat} (w : OwnS h v sz es o) (hne : ∀ id, o = some id → p ≠ some id) (y : List AObj) : OwnS (kill h p ++ y) v sz es o := by
  cases o with
  | none => exact w
  | some id => exact ⟨w.1, get_kill w.2 (hne id rfl) y⟩

/-- What such a slice is to who is handed it. -/
def frozen (sz : Nat) (es : List AV) (o : Option Nat) : AV :=
  match o with
  | none => .lit (.slice none 0 0)
  | some _ => .isl sz false es

theorem OwnS.snap {h : Heap} {v : AV} {sz : Nat} {es : List AV} {o : Option Nat} (w : OwnS h v sz es o) (hf : es.all free1 = true) : ∃ ids, snap1 h v = some (frozen sz es o, ids) := by
  cases o with
  | none => obtain ⟨rfl, rfl⟩ := w; exact ⟨[], rfl⟩
  | some id =>
    obtain ⟨rfl, hid⟩ := w
    refine ⟨[id], ?_⟩
    simp only [snap1, snapCell, hid]
    rw [if_pos (by simp)]
    simp [hf, frozen]

theorem freeCell_snap {v : AV} (hf : freeCell v = true) (h : Heap) : snapCell h v = some (v, []) := by
  cases v <;> first | (simp [freeCell] at hf; done) | (simp only [snapCell]; rw [if_pos hf])

theorem freeCells_snap (h : Heap) : ∀ {cs : List AV}, cs.all freeCell = true → snapCells h cs = some (cs, [])
  | [], _ => rfl
  | c :: cs, hf => by
    rw [List.all_cons, Bool.and_eq_true] at hf
    simp only [snapCells, freeCell_snap hf.1, freeCells_snap h hf.2, List.append_nil]

theorem free1_snap {v : AV} (hf : free1 v = true) (h : Heap) : snap1 h v = some (v, []) := by
  cases v with
  | agg cs => simp only [snap1, freeCells_snap h hf, Option.map_some]
  | _ =>
    simp only [free1] at hf
    exact freeCell_snap hf h

theorem bslice_one {sz : Nat} {z t : AV} {h : Heap} (h1 : (cellsOf t).length = sz) (h2 : (cellsOf t).all okCell = true) (hf : free1 (reElem (cellsOf t)) = true) :
    bsliceX sz z 1 [(0, t)] h = some (.isl sz true [reElem (cellsOf t)], h) := by
  unfold bsliceX
  have : setElems sz (List.replicate 1 (reElem (cellsOf z))) [(0, t)] = some [reElem (cellsOf t)] := by
    simp [setElems, h1, h2, List.replicate]
  rw [this]
  simp only [List.all_cons, hf, List.all_nil, Bool.and_self, if_true, snaps, free1_snap hf, List.append_nil]
  rfl

/-! ### Boxes -/

theorem box_agg {cs : List AV} (h : Heap) (h1 : cs ≠ []) (h2 : cs.all okCell = true) : box (.agg cs) h = some (.ptr h.length 0 0, h ++ [.arr ⟨cs.length, false, false, [.agg cs]⟩]) := by
  have : ¬ ((cellsOf (.agg cs)).length = 0 ∨ (cellsOf (.agg cs)).all okCell = false) := by
    simp only [cellsOf]
    rw [h2]
    simp [h1]
  exact if_neg this

theorem box_lit {v : Value} (h : Heap) (h2 : okCell (.lit v) = true) : box (.lit v) h = some (.ptr h.length 0 0, h ++ [.arr ⟨1, false, false, [.lit v]⟩]) := by
  have : ¬ ((cellsOf (.lit v)).length = 0 ∨ (cellsOf (.lit v)).all okCell = false) := by
    simp [cellsOf, h2]
  exact if_neg this

theorem get_last (h : Heap) (x : AObj) : (h ++ [x])[h.length]? = some x := by simp

theorem overwrite_all {cs ds : List AV} (hl : ds.length = cs.length) : overwrite cs 0 ds = ds := by
  unfold overwrite
  rw [List.take_zero, List.nil_append, List.drop_eq_nil_of_le (by omega), List.append_nil]

theorem reElem_agg {ds : List AV} (h : ds.length ≠ 1) : reElem ds = .agg ds := by
  match ds, h with
  | [], _ => rfl
  | [a], h => exact absurd rfl h
  | a :: b :: c, _ => rfl

theorem store_box {cs ds : List AV} (h : Heap) {n : Nat} (hn : n = cs.length) (hl : ds.length = cs.length) (h1 : n ≠ 1) (h2 : ds.all okCell = true) :
    storeX n (.ptr h.length 0 0) (.agg ds) (h ++ [.arr ⟨n, false, false, [.agg cs]⟩]) = some (h ++ [.arr ⟨n, false, false, [.agg ds]⟩]) := by
  have key : (if n = (cellsOf (.agg ds)).length ∧ 0 + (cellsOf (.agg ds)).length ≤ (cellsOf (.agg cs)).length ∧ (cellsOf (.agg ds)).all okCell = true then
      some ((h ++ [AObj.arr ⟨n, false, false, [.agg cs]⟩]).set h.length (.arr { (⟨n, false, false, [.agg cs]⟩ : Arr) with elems := [AV.agg cs].set 0 (reElem (overwrite (cellsOf (.agg cs)) 0 (cellsOf (.agg ds)))) })) else none) = some (h ++ [.arr ⟨n, false, false, [.agg ds]⟩]) := by
    rw [if_pos ⟨by simp only [cellsOf]; omega, by simp only [cellsOf]; omega, h2⟩]
    simp only [cellsOf]
    rw [overwrite_all hl, reElem_agg (by omega)]
    simp
  unfold storeX
  simp only [get_last, Bool.false_eq_true, false_and, if_false, List.getElem?_cons_zero]
  exact key

theorem readX_all {n : Nat} {cs : List AV} (hn : n = cs.length) : readX (some n) cs 0 = some (.agg cs) := by
  subst hn
  show (if 0 + cs.length ≤ cs.length then some (AV.agg ((cs.drop 0).take cs.length)) else none) = _
  rw [if_pos (by omega), List.drop_zero, List.take_of_length_le (Nat.le_refl _)]

theorem load_box (h : Heap) (n off : Nat) (r sh : Bool) (cs : List AV) : loadX none (.ptr h.length 0 off) (h ++ [.arr ⟨n, r, sh, [.agg cs]⟩]) = cs[off]? := by
  unfold loadX
  simp only [get_last, List.getElem?_cons_zero, cellsOf, readX]

theorem load_boxA (h : Heap) (n m : Nat) (r sh : Bool) {cs : List AV} (hm : m = cs.length) : loadX (some m) (.ptr h.length 0 0) (h ++ [.arr ⟨n, r, sh, [.agg cs]⟩]) = some (.agg cs) := by
  unfold loadX
  simp only [get_last, List.getElem?_cons_zero]
  exact readX_all hm

@[simp] theorem fa_ptr (o id i off : Nat) : fieldAddrX o (.ptr id i off) = some (.ptr id i (off + o)) := nr rfl
@[simp] theorem fa_iptr (o off : Nat) (e : AV) : fieldAddrX o (.iptr e off) = some (.iptr e (off + o)) := nr rfl
theorem ixa_isl {sz : Nat} {f : Bool} {l : List AV} {k : IntKind} {n : Int} (hn : 0 ≤ n) (h : Heap) : indexAddrS sz (.isl sz f l) (.lit (.int k n)) h = (l[n.toNat]?).map (.iptr · 0) := by
  unfold indexAddrS intLit
  simp only [hn, if_true]
theorem load_iptr (off : Nat) (cs : List AV) (h : Heap) : loadX none (.iptr (.agg cs) off) h = cs[off]? := nr rfl
theorem load_iptrA {n : Nat} {cs : List AV} (h : Heap) (hn : n = cs.length) : loadX (some n) (.iptr (.agg cs) 0) h = some (.agg cs) := by
  exact readX_all hn

theorem snap1_lit (h : Heap) (v : Value) : snap1 h (.lit v) = some (.lit v, []) := nr rfl

/-! ### Calls -/
open Go.RowKit

def tabF : List (FuncId × How × FnF) → FuncId → Option (How × FnF)
  | [], _ => none
  | x :: l, f => bif Nat.beq f x.1 then some x.2 else tabF l f

def tabP : List (FuncId × (List AV → Option AV)) → FuncId → Option (List AV → Option AV)
  | [], _ => none
  | x :: l, f => bif Nat.beq f x.1 then some x.2 else tabP l f

def AllF [Nu] (P : Program) (T : Tr) : List (FuncId × How × FnF) → Prop
  | [] => True
  | x :: l => FnOk P T x.1 x.2.2 ∧ AllF P T l

def AllP [Nu] (P : Program) (T : Tr) : List (FuncId × (List AV → Option AV)) → Prop
  | [] => True
  | x :: l => PrimOk P T x.1 x.2 ∧ AllP P T l

theorem tabF_ok [Nu] {T : Tr} : ∀ {l : List (FuncId × How × FnF)}, AllF P T l → ∀ f w F, tabF l f = some (w, F) → FnOk P T f F
  | [], _, f, w, F, h => by cases h
  | x :: l, ha, f, w, F, h => by
    simp only [tabF] at h
    cases hb : Nat.beq f x.1 with
    | true =>
      rw [hb] at h
      simp only [cond_true, Option.some.injEq] at h
      have := Nat.eq_of_beq_eq_true hb
      have e : x.2.2 = F := by rw [h]
      rw [this, ← e]
      exact ha.1
    | false => rw [hb] at h; exact tabF_ok ha.2 f w F h

theorem tabP_ok [Nu] {T : Tr} : ∀ {l : List (FuncId × (List AV → Option AV))}, AllP P T l → ∀ f p, tabP l f = some p → PrimOk P T f p
  | [], _, f, p, h => by cases h
  | x :: l, ha, f, p, h => by
    simp only [tabP] at h
    cases hb : Nat.beq f x.1 with
    | true =>
      rw [hb] at h
      simp only [cond_true, Option.some.injEq] at h
      have := Nat.eq_of_beq_eq_true hb
      rw [this, ← h]
      exact ha.1
    | false => rw [hb] at h; exact tabP_ok ha.2 f p h

/-- The same as a tree, by the functions' numbers. -/
inductive TabT where
  | leaf
  | one (x : FuncId) (w : How) (F : FnF)
  | node (m : Nat) (l r : TabT)

def TabT.get : TabT → FuncId → Option (How × FnF)
  | .leaf, _ => none
  | .one x w F, f => bif Nat.beq f x then some (w, F) else none
  | .node m l r, f => bif Nat.blt f m then l.get f else r.get f

def TabT.All [Nu] (P : Program) (T : Tr) : TabT → Prop
  | .leaf => True
  | .one x _ F => FnOk P T x F
  | .node _ l r => l.All P T ∧ r.All P T

theorem TabT.ok [Nu] {T : Tr} : ∀ {t : TabT}, t.All P T → ∀ f w F, t.get f = some (w, F) → FnOk P T f F
  | .leaf, _, f, w, F, h => by cases h
  | .one x w' F', ha, f, w, F, h => by
    simp only [TabT.get] at h
    cases hb : Nat.beq f x with
    | true =>
      rw [hb] at h
      cases h
      rw [Nat.eq_of_beq_eq_true hb]
      exact ha
    | false => rw [hb] at h; cases h
  | .node m l r, ha, f, w, F, h => by
    simp only [TabT.get] at h
    cases hb : Nat.blt f m with
    | true => rw [hb] at h; exact TabT.ok ha.1 f w F h
    | false => rw [hb] at h; exact TabT.ok ha.2 f w F h

theorem alone_call {E : SEnv} {n : Nat} {f : FuncId} {F : FnF} {args : List AV} {h hc : Heap} {r0 r : AV} (hp : E.prim f = none) (hf : E.fns f = some (.alone, F)) (hs : snaps h args = some (args, []))
    (hb : F (scall E n) args [] = some (r0, hc)) (hr : ∃ ids, snapR hc r0 = some (r, ids)) : scall E (n + 1) f args h = some (r, h) := by
  obtain ⟨ids, hr⟩ := hr
  simp only [scall, hp, hf, hs, aloneX, hb, hr]
  rw [if_pos (.inr trivial)]

theorem prim_call {E : SEnv} {n : Nat} {f : FuncId} {p : List AV → Option AV} {args : List AV} {h : Heap} {r : AV} (hp : E.prim f = some p) (hs : snaps h args = some (args, []))
    (hr : p args = some r) : scall E (n + 1) f args h = some (r, h) := by
  simp only [scall, hp, hs, hr]
  by_cases hf : flat r = true
  · rw [if_pos hf]
  · rw [if_neg hf]; rfl

/-- A call whose arguments are plain values. -/
theorem scall_lits [Nu] {E : SEnv} (ok : SEnvOk E) {n : Nat} {f : FuncId} {args : List Value} (hargs : ∀ v ∈ args, isAggV v = false) {I : Nat → Nat → Prop} {r : Value} {h' : Heap}
    (hc : scall E n f (args.map .lit) [] = some (.lit r, h')) (w : World) (hI : ∀ b o, I b o → ∃ u, w.cell? ⟨b, o, none⟩ = some u) (hgl : GlobV E.gl ⟨fun _ => (0, 0), I⟩ [] w) : Calls E.P f args.toArray w fun e w' => e = .returned r ∧ Below w.heap.size w w' := by
  refine (scall_ok ok n f _ [] _ _ hc ⟨fun _ => (0, 0), I⟩ w args.toArray (R.nil _ hI) hgl (by simp) ?_).mono ?_
  · intro i c v hc hv
    rw [List.getElem?_map] at hc
    simp only [List.getElem?_toArray] at hv
    rw [hv] at hc
    cases hc
    exact .deep (.lit (hargs v (List.mem_of_getElem? hv)))
  · rintro e w' ⟨v, g', rfl, hv, hp, hr⟩
    exact ⟨by rw [hv.lit_eq], hp.below⟩

end Go.Am
