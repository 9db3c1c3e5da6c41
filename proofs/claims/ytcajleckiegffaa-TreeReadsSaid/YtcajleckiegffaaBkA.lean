import Derived.Test.YtcajleckiegffaaPlA
set_option linter.unusedSectionVars false
namespace Go.Proofs.Ytcajleckiegffaa
set_option linter.unusedSimpArgs false
set_option linter.unusedVariables false
open Go.Am
set_option maxRecDepth 100000

/-! ### TreeBack: the trees that are made -/

def absN (a : Int) : Nat := if a < 0 then (-(a + 1)).toNat else a.toNat

def atomOf (n : Nat) : List UInt8 := if n % 5 = 0 then [97] else if n % 5 = 1 then [110, 117, 109] else if n % 5 = 2 then [51, 105] else if n % 5 = 3 then [109, 46, 84] else [108, 101, 116]

def textOf (tx : List (List UInt8)) (n : Nat) : List UInt8 := ((if 0 < tx.length then (tx[n % tx.length]?).getD [] else [113])).take 40

/-- The kids, one by one. -/
def madeL (f : Nat → T × Nat) : Nat → Nat → List T → List T × Nat
  | 0, p, acc => (acc, p)
  | k + 1, p, acc => madeL f k (f p).2 (acc ++ [(f p).1])

def madeT (l : List Int) (tx : List (List UInt8)) : Nat → Nat → T × Nat
  | 0, p => (.mk 3 0 [120] [], p)
  | d + 1, p => match l[p]? with
    | none => (.mk 3 0 [120] [], p)
    | some a =>
      if absN a % 3 = 0 then (.mk 3 0 (atomOf (absN a)) [], p + 1)
      else if absN a % 3 = 1 then (.mk 4 0 (textOf tx (absN a)) [], p + 1)
      else (.mk 1 0 [] (madeL (madeT l tx d) (absN a % 4) (p + 1) []).1, (madeL (madeT l tx d) (absN a % 4) (p + 1) []).2)

theorem atomOf_good (n : Nat) : atomOf n ≠ [] ∧ (∀ c ∈ atomOf n, atomC c) ∧ (atomOf n).length ≤ 3 := by
  have key : ∀ l : List UInt8, l = [97] ∨ l = [110, 117, 109] ∨ l = [51, 105] ∨ l = [109, 46, 84] ∨ l = [108, 101, 116] → l ≠ [] ∧ (∀ c ∈ l, atomC c) ∧ l.length ≤ 3 := by
    intro l h
    have at_ : ∀ c : UInt8, special c = false → 33 ≤ c.toNat → c.toNat ≤ 126 → atomC c := fun c a b d => ⟨a, b, d⟩
    rcases h with rfl | rfl | rfl | rfl | rfl <;> refine ⟨by simp, ?_, by simp⟩ <;> intro c hc <;> simp at hc
    · subst hc; exact at_ _ (by decide) (by decide) (by decide)
    · rcases hc with rfl | rfl | rfl <;> exact at_ _ (by decide) (by decide) (by decide)
    · rcases hc with rfl | rfl <;> exact at_ _ (by decide) (by decide) (by decide)
    · rcases hc with rfl | rfl | rfl <;> exact at_ _ (by decide) (by decide) (by decide)
    · rcases hc with rfl | rfl | rfl <;> exact at_ _ (by decide) (by decide) (by decide)
  refine key _ ?_
  unfold atomOf
  split
  · exact .inl rfl
  split
  · exact .inr (.inl rfl)
  split
  · exact .inr (.inr (.inl rfl))
  split
  · exact .inr (.inr (.inr (.inl rfl)))
  · exact .inr (.inr (.inr (.inr rfl)))

/-- What holds of each made tree. -/
structure MadeOk (l : List Int) (d p : Nat) (x : T × Nat) : Prop where
  good : goodT x.1
  nest : nestT x.1 ≤ d
  ge : p ≤ x.2
  le : x.2 ≤ max p l.length
  w : wT x.1 + 500 * p ≤ 170 + 500 * x.2

theorem madeL_ok {l : List Int} {d : Nat} {f : Nat → T × Nat} (hf : ∀ p, MadeOk l d p (f p)) : ∀ (k p : Nat) (acc : List T), goodL acc → nestL acc ≤ d →
    goodL (madeL f k p acc).1 ∧ nestL (madeL f k p acc).1 ≤ d ∧ p ≤ (madeL f k p acc).2 ∧ (madeL f k p acc).2 ≤ max p l.length ∧ wL (madeL f k p acc).1 + 500 * p ≤ wL acc + 170 * k + 500 * (madeL f k p acc).2 ∧ (madeL f k p acc).1.length = acc.length + k := by
  intro k
  induction k with
  | zero => intro p acc hg hn; simp only [madeL]; exact ⟨hg, hn, Nat.le_refl _, by omega, by omega, rfl⟩
  | succ k ih =>
    intro p acc hg hn
    have h := hf p
    simp only [madeL]
    have nl : ∀ a b : List T, nestL (a ++ b) = max (nestL a) (nestL b) := by
      intro a b
      induction a with
      | nil => simp [nestL]
      | cons x a ih => simp only [List.cons_append, nestL, ih]; omega
    obtain ⟨a1, a2, a3, a4, a5, a6⟩ := ih (f p).2 (acc ++ [(f p).1]) (goodL_append hg (goodL_one h.good)) (by
      have := h.nest
      rw [nl]; simp only [nestL]; omega)
    have h1 := h.ge
    have h2 := h.le
    have h3 := h.w
    rw [wL_append] at a5
    simp only [wL] at a5
    refine ⟨a1, a2, by omega, by omega, by omega, by rw [a6]; simp; omega⟩

theorem madeT_ok (l : List Int) (tx : List (List UInt8)) : ∀ d p, MadeOk l d p (madeT l tx d p) := by
  have gx : goodT (.mk 3 0 [120] []) := by
    simp only [goodT]
    refine .inl ⟨trivial, by simp, fun c hc => ?_, trivial⟩
    simp at hc; subst hc
    exact ⟨by decide, by decide, by decide⟩
  intro d
  induction d with
  | zero =>
    intro p
    exact ⟨gx, by simp [madeT, nestT], Nat.le_refl _, by simp only [madeT]; omega, by simp [madeT, wT, wL]⟩
  | succ d ih =>
    intro p
    simp only [madeT]
    cases hp : l[p]? with
    | none => exact ⟨gx, by simp [nestT], Nat.le_refl _, by simp only; omega, by simp [wT, wL]⟩
    | some a =>
      have hlt : p < l.length := (List.getElem?_eq_some_iff.1 hp).1
      simp only
      generalize absN a = n
      by_cases h0 : n % 3 = 0
      · rw [if_pos h0]
        obtain ⟨b1, b2, b3⟩ := atomOf_good n
        refine ⟨by simp only [goodT]; exact .inl ⟨trivial, b1, b2, trivial⟩, by simp [nestT], by simp only; omega, by simp only; omega, by simp only [wT, wL]; omega⟩
      rw [if_neg h0]
      by_cases h1 : n % 3 = 1
      · rw [if_pos h1]
        have hl : (textOf tx n).length ≤ 40 := by unfold textOf; rw [List.length_take]; omega
        refine ⟨by simp only [goodT]; exact .inr (.inl ⟨trivial, by omega, trivial⟩), by simp [nestT], by simp only; omega, by simp only; omega, by simp only [wT, wL]; omega⟩
      rw [if_neg h1]
      obtain ⟨a1, a2, a3, a4, a5, a6⟩ := madeL_ok ih (n % 4) (p + 1) [] trivial (Nat.zero_le _)
      refine ⟨by simp only [goodT]; exact .inr (.inr ⟨trivial, trivial, a1⟩), by simp only [nestT, if_true]; omega, by simp only; omega, by simp only; omega, ?_⟩
      simp only [wT, wL, List.length_nil] at a5 ⊢
      omega

/-- A tree that is made, printed and read, where its text is not too long. -/
theorem back_law (l : List Int) (tx : List (List UInt8)) (hl : l.length ≤ 60) : let t := (madeT l tx 30 0).1
    wT t ≤ 31000 ∧ ((printT t).length ≤ 8192 → (parseF (printT t)).err = 0 ∧ bareT (parseF (printT t)).tree = bareT t) := by
  have h := madeT_ok l tx 30 0
  have h1 := h.le
  have h2 := h.w
  exact ⟨by omega, fun hp => parse_print h.good hp (by have := h.nest; omega)⟩

end Go.Proofs.Ytcajleckiegffaa

namespace Go.Proofs.Ytcajleckiegffaa
set_option linter.unusedSimpArgs false
set_option linter.unusedVariables false
open Go.Am
set_option maxRecDepth 100000

/-! ### TreeBack: the walk of 'made' -/

def HB (h : Heap) : Prop := ∀ x ∈ h, belowObj h.length x = true

theorem belowCell_mono {n m : Nat} (hm : n ≤ m) {v : AV} (h : belowCell n v = true) : belowCell m v = true := by
  have fa : ∀ l : List AV, (l.all fun | .ptr id _ _ => decide (id < n) | v => freeCell v) = true → (l.all fun | .ptr id _ _ => decide (id < m) | v => freeCell v) = true := by
    intro l hl
    rw [List.all_eq_true] at hl ⊢
    intro x hx
    have := hl x hx
    cases x <;> first | exact this | (simp only [decide_eq_true_eq] at this ⊢; omega)
  cases v with
  | sl => simp only [belowCell, decide_eq_true_eq] at h ⊢; omega
  | ptr => simp only [belowCell, decide_eq_true_eq] at h ⊢; omega
  | map => simp only [belowCell, decide_eq_true_eq] at h ⊢; omega
  | fn f a b =>
    simp only [belowCell, Bool.and_eq_true] at h ⊢
    exact ⟨fa _ h.1, fa _ h.2⟩
  | _ => exact h

theorem belowCells_mono {n m : Nat} (hm : n ≤ m) {cs : List AV} (h : cs.all (belowCell n) = true) : cs.all (belowCell m) = true := by
  rw [List.all_eq_true] at h ⊢
  exact fun x hx => belowCell_mono hm (h x hx)

theorem belowObj_mono {n m : Nat} (hm : n ≤ m) {x : AObj} (h : belowObj n x = true) : belowObj m x = true := by
  cases x with
  | arr A =>
    simp only [belowObj] at h ⊢
    rw [List.all_eq_true] at h ⊢
    intro y hy
    have := h y hy
    cases y <;> first | exact belowCells_mono hm this | exact belowCell_mono hm this
  | map es c =>
    simp only [belowObj] at h ⊢
    rw [List.all_eq_true] at h ⊢
    intro y hy
    have := h y hy
    obtain ⟨a, y, b⟩ := y
    cases y <;> first | exact belowCells_mono hm this | exact belowCell_mono hm this
  | _ => rfl

theorem HB.snoc {h : Heap} {x : AObj} (H : HB h) (hx : belowObj (h.length + 1) x = true) : HB (h ++ [x]) := by
  intro y hy
  rw [List.length_append, List.length_singleton]
  rcases List.mem_append.1 hy with hy | hy
  · exact belowObj_mono (by omega) (H y hy)
  · rw [List.mem_singleton] at hy; subst hy; exact hx

theorem HB.set {h : Heap} {x : AObj} {i : Nat} (H : HB h) (hx : belowObj h.length x = true) : HB (h.set i x) := by
  intro y hy
  rw [List.length_set]
  rcases List.mem_or_eq_of_mem_set hy with hy | hy
  · exact H y hy
  · subst hy; exact hx

theorem HB.kill {h : Heap} {o : Option Nat} (H : HB h) : HB (kill h o) := by
  cases o with
  | none => exact H
  | some i => exact H.set rfl

theorem HB.all {h : Heap} (H : HB h) : h.all (belowObj h.length) = true := List.all_eq_true.2 H

def intBox (n : Nat) : AObj := .arr ⟨1, false, false, [.lit (.int .i64 n)]⟩

theorem load_int {H : Heap} {p n : Nat} (hp : H[p]? = some (intBox n)) : loadX none (.ptr p 0 0) H = some (.lit (.int .i64 n)) := by
  unfold loadX
  simp only [hp, intBox, List.getElem?_cons_zero]
  rfl

theorem store_int {H : Heap} {p n m : Nat} (hp : H[p]? = some (intBox n)) : storeX 1 (.ptr p 0 0) (.lit (.int .i64 m)) H = some (H.set p (intBox m)) := by
  unfold storeX
  simp only [hp, intBox, Bool.false_eq_true, false_and, if_false, List.getElem?_cons_zero]
  exact if_pos ⟨rfl, Nat.le_refl _, rfl⟩

theorem store_cell {H : Heap} {b : Nat} {c0 c1 c2 kv u : AV} (hb : H[b]? = some (.arr ⟨4, false, false, [.agg [c0, c1, c2, kv]]⟩)) (hu : cellsOf u = [u]) (hok : okCell u = true) :
    storeX 1 (.ptr b 0 3) u H = some (H.set b (.arr ⟨4, false, false, [.agg [c0, c1, c2, u]]⟩)) := by
  unfold storeX
  simp only [hb, Bool.false_eq_true, false_and, if_false, List.getElem?_cons_zero]
  show (if 1 = (cellsOf u).length ∧ 3 + (cellsOf u).length ≤ 4 ∧ (cellsOf u).all okCell = true then _ else _) = _
  rw [hu, if_pos ⟨rfl, by simp, by simp [hok]⟩]
  rfl

def boxOf (v : AV) : AObj := .arr ⟨4, false, false, [v]⟩

theorem store_tree {H : Heap} {b : Nat} {cs : List AV} {c0 c1 c2 c3 : AV} (hb : H[b]? = some (boxOf (.agg cs))) (hc : cs.length = 4) (ok : [c0, c1, c2, c3].all okCell = true) :
    storeX 4 (.ptr b 0 0) (.agg [c0, c1, c2, c3]) H = some (H.set b (boxOf (.agg [c0, c1, c2, c3]))) := store_at hb hc.symm hc.symm (by decide) ok

theorem get_set_self {H : Heap} {b : Nat} {x y : AObj} (hb : H[b]? = some x) : (H.set b y)[b]? = some y := by
  rw [List.getElem?_set_self (List.getElem?_eq_some_iff.1 hb).1]

theorem get_set_ne {H : Heap} {b c : Nat} {y : AObj} (hne : b ≠ c) : (H.set b y)[c]? = H[c]? := List.getElem?_set_ne hne

/-! what 'made' answers -/

structure MadeR (h0 : Heap) (p : Nat) (r : AV) (H : Heap) (t : T) (q : Nat) : Prop where
  len : h0.length ≤ H.length
  frame : ∀ i, i < h0.length → H[i]? = (h0.set p (intBox q))[i]?
  snap : ∃ v ids, snapR H r = some (v, ids) ∧ (∀ id ∈ ids, h0.length ≤ id) ∧ TreeV v t

theorem MadeR.within {h0 H : Heap} {p q : Nat} {r : AV} {t : T} (m : MadeR h0 p r H t q) (hb : HB h0) {F : List AV → Heap → Res} {args : List AV} (hF : F args h0 = some (r, H)) :
    ∃ v, withinX F args h0 = some (v, h0.set p (intBox q)) ∧ TreeV v t := by
  obtain ⟨v, ids, h1, h2, h3⟩ := m.snap
  refine ⟨v, ?_, h3⟩
  have hk : (Am.mark ids H).take h0.length = h0.set p (intBox q) := by
    apply List.ext_getElem?
    intro i
    by_cases hi : i < h0.length
    · rw [List.getElem?_take, if_pos hi, mark_get (fun hm => by have := h2 i hm; omega), m.frame i hi]
    · rw [List.getElem?_take, if_neg hi, List.getElem?_eq_none (by simp; omega)]
  unfold withinX
  simp only [hF, h1, hk]
  rw [if_pos]
  have : HB (h0.set p (intBox q)) := hb.set rfl
  have := this.all
  rwa [List.length_set] at this

def MadeCall (call : CallF) (l : List Int) (tx : List (List UInt8)) (fl ft : Bool) (d : Nat) : Prop := ∀ (h : Heap) (p k : Nat), HB h → h[p]? = some (intBox k) → k ≤ 60 →
  ∃ v, call 18 [.isl 1 fl (l.map fun n => .lit (.int .i64 n)), .isl 1 ft (tx.map strAV), .ptr p 0 0, .lit (.int .i64 (d : Int))] h = some (v, h.set p (intBox (madeT l tx d k).2)) ∧ TreeV v (madeT l tx d k).1

/-! the kids -/

structure MLoop (h0 : Heap) (p : Nat) (H : Heap) (kv : AV) (ks : List T) (q : Nat) : Prop where
  bel : HB H
  len : h0.length + 2 ≤ H.length
  frame : ∀ i, i < h0.length → H[i]? = (h0.set p (intBox q))[i]?
  b8 : H[h0.length]? = some (boxOf zeroT4)
  b11 : H[h0.length + 1]? = some (boxOf (.agg [.lit (.int .i64 1), .lit (.int .i64 0), .lit (.string ⟨⟨[]⟩⟩), kv]))
  own : ∃ es o, OwnS H kv 4 es o ∧ ListV es ks ∧ ∀ id, o = some id → h0.length + 1 < id
  size : ks.length ≤ 4

theorem MLoop.done {h0 H : Heap} {p q k0 : Nat} {kv : AV} {ks : List T} (m : MLoop h0 p H kv ks q) (hp : h0[p]? = some (intBox k0)) (call : CallF) :
    ∃ r H', S18_0 call (.ptr h0.length 0 0) (.ptr (h0.length + 1) 0 0) H = some (r, H') ∧ MadeR h0 p r H' (.mk 1 0 [] ks) q := by
  obtain ⟨es, o, w, lv, ho⟩ := m.own
  have okc : [AV.lit (.int .i64 1), .lit (.int .i64 0), .lit (.string ⟨⟨[]⟩⟩), kv].all okCell = true := by
    cases o with
    | none => obtain ⟨rfl, _⟩ := w; rfl
    | some id => obtain ⟨rfl, _⟩ := w; rfl
  have l1 : loadX (some 4) (.ptr (h0.length + 1) 0 0) H = some (.agg [.lit (.int .i64 1), .lit (.int .i64 0), .lit (.string ⟨⟨[]⟩⟩), kv]) := loadA_at m.b11 rfl
  have s1 := store_tree (b := h0.length) m.b8 rfl okc
  have g1 : (H.set h0.length (boxOf (.agg [.lit (.int .i64 1), .lit (.int .i64 0), .lit (.string ⟨⟨[]⟩⟩), kv])))[h0.length]? = some (boxOf (.agg [.lit (.int .i64 1), .lit (.int .i64 0), .lit (.string ⟨⟨[]⟩⟩), kv])) := get_set_self m.b8
  have l2 := loadA_at (m := 4) g1 rfl
  simp only [S18_0, l1, opt_s, s1, optH_s, l2]
  refine ⟨_, _, rfl, by rw [List.length_set]; have := m.len; omega, fun i hi => ?_, ?_⟩
  · rw [get_set_ne (by omega)]; exact m.frame i hi
  · have w2 : OwnS (H.set h0.length (boxOf (.agg [.lit (.int .i64 1), .lit (.int .i64 0), .lit (.string ⟨⟨[]⟩⟩), kv]))) kv 4 es o := OwnS.mono w fun id e => get_set_ne (by have := ho id e; omega)
    cases o with
    | none =>
      obtain ⟨rfl, rfl⟩ := w2
      cases lv
      exact ⟨_, [], rfl, (fun _ h => by cases h), .mk .nil⟩
    | some id =>
      obtain ⟨rfl, hid⟩ := w2
      refine ⟨.agg [.lit (.int .i64 1), .lit (.int .i64 0), .lit (.string ⟨⟨[]⟩⟩), .isl 4 false es], [id], ?_, ?_, .mk (.isl lv)⟩
      · have e : snapCell (H.set h0.length (boxOf (.agg [.lit (.int .i64 1), .lit (.int .i64 0), .lit (.string ⟨⟨[]⟩⟩), .sl id 0 es.length false]))) (.sl id 0 es.length false) = some (.isl 4 false es, [id]) := by
          simp only [snapCell, hid]
          rw [if_pos (by simp)]
          simp [lv.free]
        simp only [snapR, snap1, snapCells, e, snapCell_free (v := .lit _) rfl, Option.map_some, List.nil_append, List.append_nil]
      · intro j hj
        rw [List.mem_singleton] at hj; subst hj
        have := ho j rfl; omega

theorem made_loop {call : CallF} {l : List Int} {tx : List (List UInt8)} {fl ft : Bool} {d : Nat} (hd : d ≤ 100) (hl : l.length ≤ 60) (C : MadeCall call l tx fl ft d) {h0 : Heap} {p k0 : Nat} (hp : h0[p]? = some (intBox k0)) :
    ∀ (k n : Nat) (H : Heap) (kv : AV) (ks : List T) (q : Nat), MLoop h0 p H kv ks q → q ≤ 60 → ks.length + n ≤ 4 → n < k →
      ∃ r H', S18_1l call k (.isl 1 fl (l.map fun n => .lit (.int .i64 n))) (.isl 1 ft (tx.map strAV)) (.ptr p 0 0) (.lit (.int .i64 ((d + 1 : Nat) : Int))) (.ptr h0.length 0 0) (.ptr (h0.length + 1) 0 0) (.lit (.int .i64 (n : Int))) H = some (r, H') ∧
        MadeR h0 p r H' (.mk 1 0 [] (madeL (madeT l tx d) n q ks).1) (madeL (madeT l tx d) n q ks).2 := by
  have hpl : p < h0.length := (List.getElem?_eq_some_iff.1 hp).1
  intro k
  induction k with
  | zero => intro n H kv ks q _ _ _ h; omega
  | succ k ih =>
    intro n H kv ks q m hq hn hk
    show ∃ r H', S18_2b call (S18_1l call k) _ _ _ _ _ _ _ H = _ ∧ _
    simp only [S18_2b, fb_gtr, opt_s, test_b, decide_eq_true_eq]
    cases n with
    | zero =>
      rw [if_neg (by omega)]
      exact m.done hp call
    | succ n =>
      rw [if_pos (by omega)]
      obtain ⟨es, o, w, lv, ho⟩ := m.own
      have hHp : H[p]? = some (intBox q) := by rw [m.frame p hpl, get_set_self hp]
      obtain ⟨v, c1, c2⟩ := C H p q m.bel hHp hq
      have l1 : loadX none (.ptr (h0.length + 1) 0 3) H = some kv := load_at m.b11
      have g11 : (H.set p (intBox (madeT l tx d q).2))[h0.length + 1]? = some (boxOf (.agg [.lit (.int .i64 1), .lit (.int .i64 0), .lit (.string ⟨⟨[]⟩⟩), kv])) := by rw [get_set_ne (by omega)]; exact m.b11
      have l2 : loadX none (.ptr (h0.length + 1) 0 3) (H.set p (intBox (madeT l tx d q).2)) = some kv := load_at g11
      have mo := madeT_ok l tx d q
      have hq' : (madeT l tx d q).2 ≤ 60 := by have := mo.le; omega
      have w1 : OwnS (H.set p (intBox (madeT l tx d q).2)) kv 4 es o := OwnS.mono w fun id e => get_set_ne (by have := ho id e; omega)
      obtain ⟨f1, f2, f3, f4⟩ := c2.cells
      have bs := bslice_one (sz := 4) (z := .agg [(.lit (.int .i64 0)), (.lit (.int .i64 0)), (.lit (.string ⟨⟨[]⟩⟩)), (.lit (.slice none 0 0))]) (t := v) (h := H.set p (intBox (madeT l tx d q).2)) f2 f3 (by rw [f4]; exact c2.snap _)
      rw [f4] at bs
      have hel := lv.length
      have ap := w1.append (ys := [v]) (bytes := 56) (f := true) (by simp) (by rw [hel]; simp only [List.length_singleton]; omega)
      have hb1 : HB (H.set p (intBox (madeT l tx d q).2)) := m.bel.set rfl
      have hlen1 : (H.set p (intBox (madeT l tx d q).2)).length = H.length := List.length_set
      have e0 : (fastWrap .i64 (((d + 1 : Nat) : Int) - 1)) = (d : Int) := by rw [wrap64 (by omega) (by omega)]; omega
      have e1 : (fastWrap .i64 (((n + 1 : Nat) : Int) - 1)) = (n : Int) := by rw [wrap64 (by omega) (by omega)]; omega
      simp only [fa_ptr, Nat.zero_add, opt_s, l1, eqH_s, fb_sub, e0, c1, opt2_s, l2, eqK_s, bs, ap]
      have hmlen := m.len
      generalize hH1 : H.set p (intBox (madeT l tx d q).2) = H1 at *
      -- the new row
      have b11' : (kill H1 o ++ [AObj.arr ⟨4, true, false, es ++ [v]⟩])[h0.length + 1]? = some (boxOf (.agg [.lit (.int .i64 1), .lit (.int .i64 0), .lit (.string ⟨⟨[]⟩⟩), kv])) :=
        get_kill g11 (fun e => by have := ho _ e; omega) _
      have sc := store_cell (u := .sl H1.length 0 (es.length + [v].length) false) b11' rfl rfl
      rw [sc]
      simp only [optH_s, opt_s, e1]
      have hkl : (kill H1 o).length = H1.length := kill_length _ _
      have key : MLoop h0 p ((kill H1 o ++ [AObj.arr ⟨4, true, false, es ++ [v]⟩]).set (h0.length + 1) (boxOf (.agg [.lit (.int .i64 1), .lit (.int .i64 0), .lit (.string ⟨⟨[]⟩⟩), .sl H1.length 0 (es.length + [v].length) false]))) (.sl H1.length 0 (es.length + [v].length) false) (ks ++ [(madeT l tx d q).1]) (madeT l tx d q).2 := by
        refine ⟨?_, ?_, ?_, ?_, ?_, ?_, ?_⟩
        · refine HB.set (HB.snoc hb1.kill ?_) ?_
          · have hfree : ∀ x ∈ es ++ [v], (match x with | .agg cs => cs.all (belowCell ((kill H1 o).length + 1)) | v => belowCell ((kill H1 o).length + 1) v) = true := by
              have tf : ∀ x t, TreeV x t → (match x with | .agg cs => cs.all (belowCell ((kill H1 o).length + 1)) | v => belowCell ((kill H1 o).length + 1) v) = true := by
                intro x t tv
                cases tv with
                | mk hk => cases hk <;> rfl
              have lf : ∀ (es : List AV) (ts : List T), ListV es ts → ∀ x ∈ es, (match x with | .agg cs => cs.all (belowCell ((kill H1 o).length + 1)) | v => belowCell ((kill H1 o).length + 1) v) = true := by
                intro es
                induction es with
                | nil => intro _ _ x hx; cases hx
                | cons a b ih =>
                  intro ts h x hx
                  cases h with
                  | cons h1 h2 =>
                    rcases List.mem_cons.1 hx with rfl | hx
                    · exact tf _ _ h1
                    · exact ih _ h2 x hx
              intro x hx
              rcases List.mem_append.1 hx with hx | hx
              · exact lf es ks lv x hx
              · rw [List.mem_singleton] at hx; subst hx; exact tf _ _ c2
            simp only [belowObj]
            exact List.all_eq_true.2 hfree
          · have : H1.length < (kill H1 o ++ [AObj.arr ⟨4, true, false, es ++ [v]⟩]).length := by simp [hkl]
            simp only [belowObj, boxOf, List.all_cons, List.all_nil, belowCell, freeCell, Bool.true_and, Bool.and_true, decide_eq_true_eq]
            exact this
        · simp [hkl]; omega
        · intro i hi
          rw [get_set_ne (by omega), kill_get (fun e => by have := ho _ e; omega) (by omega)]
          rw [← hH1]
          by_cases hip : i = p
          · subst hip; rw [get_set_self hHp, get_set_self hp]
          · rw [get_set_ne (fun e => hip e.symm), m.frame i hi, get_set_ne (fun e => hip e.symm), get_set_ne (fun e => hip e.symm)]
        · rw [get_set_ne (by omega), kill_get (fun e => by have := ho _ e; omega) (by omega), ← hH1, get_set_ne (by omega)]
          exact m.b8
        · exact get_set_self b11'
        · refine ⟨es ++ [v], some H1.length, ⟨by simp, ?_⟩, lv.append (.cons c2 .nil), fun id e => by cases e; omega⟩
          rw [get_set_ne (by omega), List.getElem?_append_right (by omega), hkl]
          simp
        · simp; omega
      have hl2 : (ks ++ [(madeT l tx d q).1]).length = ks.length + 1 := by simp
      exact ih n _ _ _ _ key hq' (by omega) (by omega)

end Go.Proofs.Ytcajleckiegffaa

namespace Go.Proofs.Ytcajleckiegffaa
set_option linter.unusedSimpArgs false
set_option linter.unusedVariables false
open Go.Am
set_option maxRecDepth 100000

theorem leaf_chain {H : Heap} {b kd : Nat} {tx : List UInt8} (h8 : H[b]? = some (boxOf zeroT4)) :
    (opt (buildX [(.lit (.int .i64 0)), (.lit (.int .i64 0)), (.lit (.string ⟨⟨[]⟩⟩)), (.lit (.slice none 0 0))] [(0, 1), (1, 1), (2, 1), (3, 1)] [(0, (.lit (.int .i64 (kd : Int)))), (2, (.lit (.string ⟨⟨tx⟩⟩)))]) fun t =>
      optH (storeX 4 (.ptr b 0 0) t H) fun h1 => opt (loadX (some 4) (.ptr b 0 0) h1) fun res => some (res, h1)) =
      some (.agg [.lit (.int .i64 kd), .lit (.int .i64 0), .lit (.string ⟨⟨tx⟩⟩), .lit (.slice none 0 0)], H.set b (boxOf (.agg [.lit (.int .i64 kd), .lit (.int .i64 0), .lit (.string ⟨⟨tx⟩⟩), .lit (.slice none 0 0)]))) := by
  have e : buildX [(.lit (.int .i64 0)), (.lit (.int .i64 0)), (.lit (.string ⟨⟨[]⟩⟩)), (.lit (.slice none 0 0))] [(0, 1), (1, 1), (2, 1), (3, 1)] [(0, (.lit (.int .i64 (kd : Int)))), (2, (.lit (.string ⟨⟨tx⟩⟩)))] = some (.agg [.lit (.int .i64 kd), .lit (.int .i64 0), .lit (.string ⟨⟨tx⟩⟩), .lit (.slice none 0 0)]) := rfl
  have l2 : loadX (some 4) (.ptr b 0 0) (H.set b (boxOf (.agg [.lit (.int .i64 kd), .lit (.int .i64 0), .lit (.string ⟨⟨tx⟩⟩), .lit (.slice none 0 0)]))) = some (.agg [.lit (.int .i64 kd), .lit (.int .i64 0), .lit (.string ⟨⟨tx⟩⟩), .lit (.slice none 0 0)]) := loadA_at (get_set_self h8) rfl
  rw [e, opt_s, store_tree h8 rfl rfl, optH_s, l2, opt_s]

theorem leaf_made {h0 H : Heap} {p q kd : Nat} {tx : List UInt8} (hl : h0.length + 1 ≤ H.length) (fr : ∀ i, i < h0.length → H[i]? = (h0.set p (intBox q))[i]?) (v : AV) :
    MadeR h0 p (.agg [.lit (.int .i64 kd), .lit (.int .i64 0), .lit (.string ⟨⟨tx⟩⟩), .lit (.slice none 0 0)]) (H.set h0.length (boxOf v)) (.mk kd 0 tx []) q where
  len := by rw [List.length_set]; omega
  frame := fun i hi => by rw [get_set_ne (by omega)]; exact fr i hi
  snap := ⟨_, [], rfl, (fun _ h => by cases h), .mk .nil⟩

theorem atom_ix (n : Nat) : ([AV.lit (.string ⟨⟨[97]⟩⟩), .lit (.string ⟨⟨[110, 117, 109]⟩⟩), .lit (.string ⟨⟨[51, 105]⟩⟩), .lit (.string ⟨⟨[109, 46, 84]⟩⟩), .lit (.string ⟨⟨[108, 101, 116]⟩⟩)])[n % 5]? = some (.lit (.string ⟨⟨atomOf n⟩⟩)) := by
  have h : n % 5 < 5 := Nat.mod_lt _ (by decide)
  unfold atomOf
  generalize n % 5 = m at h
  rcases (by omega : m = 0 ∨ m = 1 ∨ m = 2 ∨ m = 3 ∨ m = 4) with e | e | e | e | e <;> subst e <;> rfl

theorem atom_slice (h : Heap) : bsliceX 1 (.lit (.string ⟨⟨[]⟩⟩)) 5 [(0, (.lit (.string ⟨⟨[97]⟩⟩))), (1, (.lit (.string ⟨⟨[110, 117, 109]⟩⟩))), (2, (.lit (.string ⟨⟨[51, 105]⟩⟩))), (3, (.lit (.string ⟨⟨[109, 46, 84]⟩⟩))), (4, (.lit (.string ⟨⟨[108, 101, 116]⟩⟩)))] h =
    some (.isl 1 true [AV.lit (.string ⟨⟨[97]⟩⟩), .lit (.string ⟨⟨[110, 117, 109]⟩⟩), .lit (.string ⟨⟨[51, 105]⟩⟩), .lit (.string ⟨⟨[109, 46, 84]⟩⟩), .lit (.string ⟨⟨[108, 101, 116]⟩⟩)], h) := by rfl

theorem cut_to {l : List UInt8} {k : IntKind} {b : Int} (h0 : 0 ≤ b) (h2 : b ≤ l.length) :
    fastCut (.lit (.string ⟨⟨l⟩⟩)) none (some (.lit (.int k b))) none = some (.lit (.string ⟨⟨l.take b.toNat⟩⟩)) := by
  simp only [fastCut, bound, intLit, h0, if_true]
  rw [if_pos ⟨by omega, by show b.toNat ≤ l.length; omega⟩]
  simp

theorem absI (a : Int) (h1 : -9223372036854775808 ≤ a) (h2 : a ≤ 9223372036854775807) : (a < 0 → (0 - (a + 1)) = (absN a : Int)) ∧ (¬ a < 0 → a = (absN a : Int)) := by
  unfold absN
  constructor
  · intro h; rw [if_pos h]; omega
  · intro h; rw [if_neg h]; omega

theorem ntmod (n k : Nat) : ((n : Int)).tmod (k : Int) = ((n % k : Nat) : Int) := by
  rw [Int.tmod_eq_emod_of_nonneg (by omega)]; rfl

theorem F18_ok {call : CallF} {l : List Int} {tx : List (List UInt8)} {fl ft : Bool} (hl : l.length ≤ 60) (hr : ∀ a ∈ l, -9223372036854775808 ≤ a ∧ a ≤ 9223372036854775807) (htx : tx.length ≤ 9223372036854775807) {d : Nat} (hd : d ≤ 100)
    (C : ∀ e, d = e + 1 → MadeCall call l tx fl ft e) {h : Heap} {p k : Nat} (hb : HB h) (hp : h[p]? = some (intBox k)) (hk : k ≤ 60) :
    ∃ r H, F18 call (.isl 1 fl (l.map fun n => .lit (.int .i64 n))) (.isl 1 ft (tx.map strAV)) (.ptr p 0 0) (.lit (.int .i64 (d : Int))) h = some (r, H) ∧ MadeR h p r H (madeT l tx d k).1 (madeT l tx d k).2 := by
  have hpl : p < h.length := (List.getElem?_eq_some_iff.1 hp).1
  have bx : box (.agg [.lit (.int .i64 0), .lit (.int .i64 0), .lit (.string ⟨⟨[]⟩⟩), .lit (.slice none 0 0)]) h = some (.ptr h.length 0 0, h ++ [boxOf zeroT4]) := box_agg h (by simp) rfl
  have p1 : (h ++ [boxOf zeroT4])[p]? = some (intBox k) := by rw [List.getElem?_append_left hpl]; exact hp
  have b1 : (h ++ [boxOf zeroT4])[h.length]? = some (boxOf zeroT4) := get_last _ _
  have fr1 : ∀ i, i < h.length → (h ++ [boxOf zeroT4])[i]? = (h.set p (intBox k))[i]? := by
    intro i hi
    rw [List.getElem?_append_left hi]
    by_cases e : p = i
    · subst e; rw [get_set_self hp, hp]
    · rw [get_set_ne e]
  have hl1 : h.length + 1 ≤ (h ++ [boxOf zeroT4]).length := by simp
  have hb1 : HB (h ++ [boxOf zeroT4]) := hb.snoc rfl
  simp only [F18, bx, opt2_s, S18_19, nilCheckX, opt_s, load_int p1, lenS_isl, List.length_map, fb_geq, test_b, decide_eq_true_eq]
  have leaf : ∃ r H, S18_18 call (.isl 1 fl (l.map fun n => .lit (.int .i64 n))) (.isl 1 ft (tx.map strAV)) (.ptr p 0 0) (.lit (.int .i64 (d : Int))) (.ptr h.length 0 0) (.lit (.bool true)) (h ++ [boxOf zeroT4]) = some (r, H) ∧ MadeR h p r H (.mk 3 0 [120] []) k := by
    simp only [S18_18, test_b, if_true]
    have := leaf_chain (kd := 3) (tx := [120]) b1
    rw [show ((3 : Nat) : Int) = 3 from rfl] at this
    rw [this]
    exact ⟨_, _, rfl, leaf_made hl1 fr1 _⟩
  by_cases hge : l.length ≤ k
  · rw [if_pos (by omega)]
    have e : madeT l tx d k = (.mk 3 0 [120] [], k) := by
      cases d with
      | zero => rfl
      | succ d => simp only [madeT, List.getElem?_eq_none hge]
    rw [e]
    exact leaf
  rw [if_neg (by omega)]
  simp only [fb_leq, opt_s]
  cases d with
  | zero => exact leaf
  | succ d =>
  obtain ⟨a, ha⟩ : ∃ a, l[k]? = some a := ⟨l[k], List.getElem?_eq_getElem (by omega)⟩
  obtain ⟨ha1, ha2⟩ := hr a (List.mem_of_getElem? ha)
  have hw1 : fastWrap .i64 ((k : Int) + 1) = ((k + 1 : Nat) : Int) := by rw [wrap64 (by omega) (by omega)]; rfl
  have si := store_int (m := k + 1) p1
  have gl2 : (l.map fun n => AV.lit (.int .i64 n))[k]? = some (.lit (.int .i64 a)) := by rw [List.getElem?_map, ha]; rfl
  have ld : loadX none (.iptr (.lit (.int .i64 a)) 0) (h ++ [boxOf zeroT4]) = some (.lit (.int .i64 a)) := rfl
  rw [show decide (((d + 1 : Nat) : Int) ≤ 0) = false from decide_eq_false (by omega)]
  simp only [S18_18, test_b, Bool.false_eq_true, if_false, S18_17, nilCheckX, opt_s, load_int p1, ixa_isl (Int.natCast_nonneg _), Int.toNat_natCast, gl2, Option.map_some, ld, S18_16, fb_add, hw1, si, optH_s]
  have b2 : ((h ++ [boxOf zeroT4]).set p (intBox (k + 1)))[h.length]? = some (boxOf zeroT4) := by rw [get_set_ne (by omega)]; exact b1
  have fr2 : ∀ i, i < h.length → ((h ++ [boxOf zeroT4]).set p (intBox (k + 1)))[i]? = (h.set p (intBox (k + 1)))[i]? := by
    intro i hi
    by_cases e : p = i
    · subst e; rw [get_set_self p1, get_set_self hp]
    · rw [get_set_ne e, get_set_ne e, List.getElem?_append_left hi]
  have hl2 : h.length + 1 = ((h ++ [boxOf zeroT4]).set p (intBox (k + 1))).length := by rw [List.length_set]; simp
  have hb2 : HB ((h ++ [boxOf zeroT4]).set p (intBox (k + 1))) := hb1.set rfl
  have p2 : ((h ++ [boxOf zeroT4]).set p (intBox (k + 1)))[p]? = some (intBox (k + 1)) := get_set_self p1
  generalize (h ++ [boxOf zeroT4]).set p (intBox (k + 1)) = H2 at b2 fr2 hl2 hb2 p2
  have main : ∃ r H, S18_14 call (.isl 1 fl (l.map fun n => .lit (.int .i64 n))) (.isl 1 ft (tx.map strAV)) (.ptr p 0 0) (.lit (.int .i64 ((d + 1 : Nat) : Int))) (.ptr h.length 0 0) (.lit (.int .i64 (absN a : Int))) H2 = some (r, H) ∧ MadeR h p r H (madeT l tx (d + 1) k).1 (madeT l tx (d + 1) k).2 := by
    simp only [madeT, ha]
    have hab : (absN a : Int) ≤ 9223372036854775807 := by unfold absN; split <;> omega
    generalize absN a = n at hab
    have r3 := rem_int (P := Try.prog) (t := 3) (k := .i64) (a := (n : Int)) (b := 3) (by decide)
    rw [show (3 : Int) = ((3 : Nat) : Int) from rfl, ntmod] at r3
    simp only [S18_14]
    rw [show ((3 : Nat) : Int) = 3 from rfl] at r3
    rw [r3, opt_s]
    simp only [S18_13, fb_eql, opt_s, S18_12, test_b, decide_eq_true_eq, ceq]
    by_cases h0 : n % 3 = 0
    · rw [if_pos h0, if_pos h0, atom_slice, opt2_s]
      have r5 := rem_int (P := Try.prog) (t := 3) (k := .i64) (a := (n : Int)) (b := 5) (by decide)
      rw [show (5 : Int) = ((5 : Nat) : Int) from rfl, ntmod, show ((5 : Nat) : Int) = 5 from rfl] at r5
      rw [r5, opt_s, ixa_isl (Int.natCast_nonneg _), Int.toNat_natCast, atom_ix]
      simp only [Option.map_some, opt_s]
      rw [show loadX none (.iptr (.lit (.string ⟨⟨atomOf n⟩⟩)) 0) H2 = some (.lit (.string ⟨⟨atomOf n⟩⟩)) from rfl, opt_s]
      have := leaf_chain (kd := 3) (tx := atomOf n) b2
      rw [show ((3 : Nat) : Int) = 3 from rfl] at this
      rw [this]
      exact ⟨_, _, rfl, leaf_made (by omega) fr2 _⟩
    rw [if_neg h0, if_neg h0]
    simp only [S18_11, fb_eql, opt_s, S18_10, test_b, decide_eq_true_eq, ceq]
    by_cases h1 : n % 3 = 1
    · rw [if_pos h1, if_pos h1]
      have s6 : ∀ s : List UInt8, ∃ r H, S18_6 call (.ptr h.length 0 0) (.lit (.string ⟨⟨s⟩⟩)) H2 = some (r, H) ∧ MadeR h p r H (.mk 4 0 s []) (k + 1) := by
        intro s
        simp only [S18_6]
        have := leaf_chain (kd := 4) (tx := s) b2
        rw [show ((4 : Nat) : Int) = 4 from rfl] at this
        rw [this]
        exact ⟨_, _, rfl, leaf_made (by omega) fr2 _⟩
      have s7 : ∀ s : List UInt8, ∃ r H, S18_7 call (.ptr h.length 0 0) (.lit (.string ⟨⟨s⟩⟩)) H2 = some (r, H) ∧ MadeR h p r H (.mk 4 0 (s.take 40) []) (k + 1) := by
        intro s
        simp only [S18_7, lenStr_s, opt_s, fb_gtr, test_b, decide_eq_true_eq, clt2]
        by_cases h40 : 40 < s.length
        · rw [if_pos h40, cut_to (by omega) (by omega), opt_s]
          exact s6 _
        · rw [if_neg h40, List.take_of_length_le (by omega)]
          exact s6 s
      simp only [S18_9, S18_8, lenS_isl, List.length_map, opt_s, fb_gtr, test_b, decide_eq_true_eq, clt2]
      unfold textOf
      by_cases ht : 0 < tx.length
      · rw [if_pos ht, if_pos ht]
        have rt := rem_int (P := Try.prog) (t := 3) (k := .i64) (a := (n : Int)) (b := (tx.length : Int)) (by omega)
        rw [ntmod] at rt
        obtain ⟨s, hx⟩ : ∃ s, tx[n % tx.length]? = some s := ⟨_, List.getElem?_eq_getElem (Nat.mod_lt n ht)⟩
        have gs : (tx.map strAV)[n % tx.length]? = some (strAV s) := by rw [List.getElem?_map, hx]; rfl
        rw [rt, opt_s, ixa_isl (Int.natCast_nonneg _), Int.toNat_natCast, gs, hx]
        simp only [Option.map_some, opt_s, Option.getD_some]
        rw [show loadX none (.iptr (strAV s) 0) H2 = some (.lit (.string ⟨⟨s⟩⟩)) from rfl, opt_s]
        exact s7 s
      · rw [if_neg ht, if_neg ht]
        exact s7 [113]
    rw [if_neg h1, if_neg h1]
    have bz : buildX [(.lit (.int .i64 0)), (.lit (.int .i64 0)), (.lit (.string ⟨⟨[]⟩⟩)), (.lit (.slice none 0 0))] [(0, 1), (1, 1), (2, 1), (3, 1)] [(0, (.lit (.int .i64 1)))] = some (.agg [.lit (.int .i64 1), .lit (.int .i64 0), .lit (.string ⟨⟨[]⟩⟩), .lit (.slice none 0 0)]) := rfl
    have bx2 : box (.agg [.lit (.int .i64 0), .lit (.int .i64 0), .lit (.string ⟨⟨[]⟩⟩), .lit (.slice none 0 0)]) H2 = some (.ptr H2.length 0 0, H2 ++ [boxOf zeroT4]) := box_agg H2 (by simp) rfl
    have g11 : (H2 ++ [boxOf zeroT4])[H2.length]? = some (boxOf zeroT4) := get_last _ _
    have st := store_tree (c0 := .lit (.int .i64 1)) (c1 := .lit (.int .i64 0)) (c2 := .lit (.string ⟨⟨[]⟩⟩)) (c3 := .lit (.slice none 0 0)) g11 rfl rfl
    have r4 := rem_int (P := Try.prog) (t := 3) (k := .i64) (a := (n : Int)) (b := 4) (by decide)
    rw [show (4 : Int) = ((4 : Nat) : Int) from rfl, ntmod, show ((4 : Nat) : Int) = 4 from rfl] at r4
    simp only [S18_5, bz, opt_s, bx2, opt2_s, st, optH_s, S18_4, r4, S18_3]
    rw [← hl2]
    rw [← hl2] at g11 st
    have h4 : n % 4 < 4 := Nat.mod_lt _ (by decide)
    have mm : MLoop h p ((H2 ++ [boxOf zeroT4]).set (h.length + 1) (boxOf (.agg [.lit (.int .i64 1), .lit (.int .i64 0), .lit (.string ⟨⟨[]⟩⟩), .lit (.slice none 0 0)]))) (.lit (.slice none 0 0)) [] (k + 1) := by
      refine ⟨?_, ?_, ?_, ?_, get_set_self g11, ⟨[], none, ⟨rfl, rfl⟩, .nil, fun id e => by cases e⟩, by simp⟩
      · exact HB.set (hb2.snoc rfl) rfl
      · rw [List.length_set, List.length_append, ← hl2]; simp
      · intro i hi
        rw [get_set_ne (by omega), List.getElem?_append_left (by omega)]; exact fr2 i hi
      · rw [get_set_ne (by omega), List.getElem?_append_left (by omega)]; exact b2
    obtain ⟨r, H, e1, e2⟩ := made_loop (by omega) hl (C d rfl) hp rounds (n % 4) _ (.lit (.slice none 0 0)) [] (k + 1) mm (by omega) (by simp only [List.length_nil]; omega) (by simp only [rounds]; omega)
    exact ⟨r, H, e1, e2⟩
  simp only [S18_15, fb_lss, opt_s, test_b, decide_eq_true_eq]
  obtain ⟨i1, i2⟩ := absI a ha1 ha2
  by_cases hneg : a < 0
  · rw [if_pos hneg, fb_add, opt_s, wrap64 (by omega) (by omega), neg_int, opt_s, kwrap64 (by omega) (by omega), i1 hneg]
    exact main
  · rw [if_neg hneg]
    have := i2 hneg
    rw [← this] at main
    exact main

end Go.Proofs.Ytcajleckiegffaa

namespace Go.Proofs.Ytcajleckiegffaa
set_option linter.unusedSimpArgs false
set_option linter.unusedVariables false
open Go.Am
set_option maxRecDepth 100000

theorem len_wL : ∀ ts : List T, ts.length ≤ wL ts := by
  intro ts
  induction ts with
  | nil => simp
  | cons t ts ih =>
    cases t
    simp only [List.length_cons, wL, wT]; omega

theorem wL_mem {ts : List T} {t : T} (h : t ∈ ts) : wT t ≤ wL ts := by
  induction ts with
  | nil => cases h
  | cons a ts ih =>
    simp only [wL]
    rcases List.mem_cons.1 h with rfl | h
    · omega
    · have := ih h; omega

/-! ### plain -/

def PlainCall (call : CallF) (d : Nat) : Prop := ∀ (v : AV) (t : T) (h : Heap), TreeV v t → depthT t ≤ d → wT t ≤ 300000000 → ∃ v', call 19 [v] h = some (v', h) ∧ TreeV v' t

structure PlLoop (H : Heap) (x1 x2 x3 k p : Nat) (tx : List UInt8) (kv kw : AV) (ks : List T) : Prop where
  b1 : H[x1]? = some (boxOf (.agg [.lit (.int .i64 k), .lit (.int .i64 p), .lit (.string ⟨⟨tx⟩⟩), kv]))
  b2 : H[x2]? = some (boxOf zeroT4)
  b3 : H[x3]? = some (boxOf (.agg [.lit (.int .i64 k), .lit (.int .i64 p), .lit (.string ⟨⟨tx⟩⟩), kw]))
  own : ∃ es o, OwnS H kw 4 es o ∧ ListV es ks ∧ ∀ id, o = some id → id ≠ x1 ∧ id ≠ x2 ∧ id ≠ x3

theorem agg_snap {H : Heap} {k p : Nat} {tx : List UInt8} {kw : AV} {es : List AV} {ks : List T} {o : Option Nat} (w : OwnS H kw 4 es o) (lv : ListV es ks) :
    ∃ v ids, snapR H (.agg [.lit (.int .i64 k), .lit (.int .i64 p), .lit (.string ⟨⟨tx⟩⟩), kw]) = some (v, ids) ∧ TreeV v (.mk k p tx ks) := by
  cases o with
  | none =>
    obtain ⟨rfl, rfl⟩ := w
    cases lv
    exact ⟨_, [], rfl, .mk .nil⟩
  | some id =>
    obtain ⟨rfl, hid⟩ := w
    refine ⟨.agg [.lit (.int .i64 k), .lit (.int .i64 p), .lit (.string ⟨⟨tx⟩⟩), .isl 4 false es], [id], ?_, .mk (.isl lv)⟩
    have e : snapCell H (.sl id 0 es.length false) = some (.isl 4 false es, [id]) := by
      simp only [snapCell, hid]
      rw [if_pos (by simp)]
      simp [lv.free]
    simp only [snapR, snap1, snapCells, e, snapCell_free (v := .lit _) rfl, Option.map_some, List.nil_append, List.append_nil]

theorem plain_loop {call : CallF} {d : Nat} (C : PlainCall call d) {kv : AV} {ks : List T} (hv : KidsV kv ks) (hd : depthL ks ≤ d) (hw : wL ks ≤ 300000000) {b1 b2 b3 k p : Nat} {tx : List UInt8} (n12 : b1 ≠ b2) (n13 : b1 ≠ b3) (n23 : b2 ≠ b3) :
    ∀ (n i : Nat) (H : Heap) (kw : AV), PlLoop H b1 b2 b3 k p tx kv kw (ks.take i) → i ≤ ks.length → ks.length - i < n →
      ∃ r H', S19_1l call n (.ptr b1 0 0) (.ptr b2 0 0) (.ptr b3 0 0) (.lit (.int .i64 (i : Int))) H = some (r, H') ∧ ∃ v ids, snapR H' r = some (v, ids) ∧ TreeV v (.mk k p tx ks) := by
  have hkl := len_wL ks
  intro n
  induction n with
  | zero => intro i H kw _ _ h; omega
  | succ n ih =>
    intro i H kw m hi hn
    show ∃ r H', S19_2b call (S19_1l call n) _ _ _ _ H = _ ∧ _
    have l1 : loadX none (.ptr b1 0 3) H = some kv := load_at m.b1
    simp only [S19_2b, fa_ptr, Nat.zero_add, opt_s, l1, hv.len, fb_lss, test_b, decide_eq_true_eq]
    by_cases hlt : i < ks.length
    · rw [if_pos (by omega)]
      have a2 : ks.length - (i + 1) < n := by omega
      have a3 : i + 1 ≤ ks.length := hlt
      have hg : ks.take (i + 1) = ks.take i ++ [ks[i]] := List.take_succ_eq_append_getElem hlt
      have ht : ks[i]? = some ks[i] := List.getElem?_eq_getElem hlt
      generalize ks[i] = t at ht hg
      have hm := List.mem_of_getElem? ht
      have h1 := depthL_mem hm
      have h2 := wL_mem hm
      obtain ⟨u, i1, i2⟩ := hv.ix ht H
      obtain ⟨i3, _⟩ := i2.load H
      obtain ⟨v, c1, c2⟩ := C u t H i2 (by omega) (by omega)
      obtain ⟨es, o, w, lv, ho⟩ := m.own
      have l3 : loadX none (.ptr b3 0 3) H = some kw := load_at m.b3
      obtain ⟨f1, f2, f3, f4⟩ := c2.cells
      have bs := bslice_one (sz := 4) (z := .agg [(.lit (.int .i64 0)), (.lit (.int .i64 0)), (.lit (.string ⟨⟨[]⟩⟩)), (.lit (.slice none 0 0))]) (t := v) (h := H) f2 f3 (by rw [f4]; exact c2.snap _)
      rw [f4] at bs
      have hel := lv.length
      have htl : (ks.take i).length = i := by rw [List.length_take]; omega
      have ap := w.append (ys := [v]) (bytes := 56) (f := true) (by simp) (by rw [hel, htl]; simp only [List.length_singleton]; omega)
      have hw1 : fastWrap .i64 ((i : Int) + 1) = ((i + 1 : Nat) : Int) := by rw [wrap64 (by omega) (by omega)]; rfl
      have lt1 := (List.getElem?_eq_some_iff.1 m.b1).1
      have lt2 := (List.getElem?_eq_some_iff.1 m.b2).1
      have lt3 := (List.getElem?_eq_some_iff.1 m.b3).1
      have b3' : (kill H o ++ [AObj.arr ⟨4, true, false, es ++ [v]⟩])[b3]? = some (boxOf (.agg [.lit (.int .i64 k), .lit (.int .i64 p), .lit (.string ⟨⟨tx⟩⟩), kw])) := get_kill m.b3 (fun e => (ho _ e).2.2 rfl) _
      have sc := store_cell (u := .sl H.length 0 (es.length + [v].length) false) b3' rfl rfl
      simp only [l3, opt_s, eqH_s, i1, i3, c1, opt2_s, bs, ap, sc, optH_s, fb_add, hw1]
      refine ih (i + 1) _ _ ⟨?_, ?_, get_set_self b3', ⟨es ++ [v], some H.length, ⟨by simp, ?_⟩, by rw [hg]; exact lv.append (.cons c2 .nil), fun id e => by cases e; exact ⟨by omega, by omega, by omega⟩⟩⟩ a3 a2
      · rw [get_set_ne (fun e => n13 e.symm)]
        exact get_kill m.b1 (fun e => (ho _ e).1 rfl) _
      · rw [get_set_ne (fun e => n23 e.symm)]
        exact get_kill m.b2 (fun e => (ho _ e).2.1 rfl) _
      · rw [get_set_ne (by omega), List.getElem?_append_right (by rw [kill_length]; exact Nat.le_refl _), kill_length]
        simp
    · rw [if_neg (by omega)]
      have e : ks.take i = ks := List.take_of_length_le (by omega)
      rw [e] at m
      obtain ⟨es, o, w, lv, ho⟩ := m.own
      have okc : [AV.lit (.int .i64 k), .lit (.int .i64 p), .lit (.string ⟨⟨tx⟩⟩), kw].all okCell = true := by
        cases o with
        | none => obtain ⟨rfl, _⟩ := w; rfl
        | some id => obtain ⟨rfl, _⟩ := w; rfl
      have l3 : loadX (some 4) (.ptr b3 0 0) H = some (.agg [.lit (.int .i64 k), .lit (.int .i64 p), .lit (.string ⟨⟨tx⟩⟩), kw]) := loadA_at m.b3 rfl
      have s1 := store_tree m.b2 rfl okc
      have l4 : loadX (some 4) (.ptr b2 0 0) (H.set b2 (boxOf (.agg [.lit (.int .i64 k), .lit (.int .i64 p), .lit (.string ⟨⟨tx⟩⟩), kw]))) = some (.agg [.lit (.int .i64 k), .lit (.int .i64 p), .lit (.string ⟨⟨tx⟩⟩), kw]) := loadA_at (get_set_self m.b2) rfl
      simp only [S19_0, l3, opt_s, s1, optH_s, l4]
      have w2 : OwnS (H.set b2 (boxOf (.agg [.lit (.int .i64 k), .lit (.int .i64 p), .lit (.string ⟨⟨tx⟩⟩), kw]))) kw 4 es o := OwnS.mono w fun id e => get_set_ne (fun x => (ho id e).2.1 x.symm)
      exact ⟨_, _, rfl, agg_snap w2 lv⟩

theorem F19_ok {call : CallF} {d : Nat} (C : PlainCall call d) {v : AV} {t : T} (tv : TreeV v t) (hd : depthT t ≤ d + 1) (hw : wT t ≤ 300000000) (h : Heap) :
    ∃ r H, F19 call v h = some (r, H) ∧ ∃ v' ids, snapR H r = some (v', ids) ∧ TreeV v' t := by
  obtain ⟨f1, f2, f3, f4⟩ := tv.cells
  cases tv with
  | @mk k p tx kv ks hv =>
    simp only [depthT] at hd
    simp only [wT] at hw
    have bx1 : box (.agg [.lit (.int .i64 k), .lit (.int .i64 p), .lit (.string ⟨⟨tx⟩⟩), kv]) h = some (.ptr h.length 0 0, h ++ [boxOf (.agg [.lit (.int .i64 k), .lit (.int .i64 p), .lit (.string ⟨⟨tx⟩⟩), kv])]) := box_agg h (by simp) f3
    have g1 : (h ++ [boxOf (.agg [.lit (.int .i64 k), .lit (.int .i64 p), .lit (.string ⟨⟨tx⟩⟩), kv])])[h.length]? = some (boxOf (.agg [.lit (.int .i64 k), .lit (.int .i64 p), .lit (.string ⟨⟨tx⟩⟩), kv])) := get_last _ _
    simp only [F19, bx1, opt2_s]
    have L1 : h.length < (h ++ [boxOf (.agg [.lit (.int .i64 k), .lit (.int .i64 p), .lit (.string ⟨⟨tx⟩⟩), kv])]).length := by simp
    generalize h ++ [boxOf (.agg [.lit (.int .i64 k), .lit (.int .i64 p), .lit (.string ⟨⟨tx⟩⟩), kv])] = H1 at g1 L1
    generalize h.length = b1 at g1 L1
    have bx2 : box (.agg [.lit (.int .i64 0), .lit (.int .i64 0), .lit (.string ⟨⟨[]⟩⟩), .lit (.slice none 0 0)]) H1 = some (.ptr H1.length 0 0, H1 ++ [boxOf zeroT4]) := box_agg H1 (by simp) rfl
    have g2 : (H1 ++ [boxOf zeroT4])[H1.length]? = some (boxOf zeroT4) := get_last _ _
    have g1' : (H1 ++ [boxOf zeroT4])[b1]? = _ := (List.getElem?_append_left L1).trans g1
    have L2 : H1.length < (H1 ++ [boxOf zeroT4]).length := by simp
    simp only [bx2, opt2_s]
    generalize H1 ++ [boxOf zeroT4] = H2 at g1' g2 L2
    have n12 : b1 ≠ H1.length := by omega
    generalize H1.length = b2 at g2 L2 n12
    have l0 : loadX none (.ptr b1 0 0) H2 = some (.lit (.int .i64 k)) := load_at g1'
    have l1 : loadX none (.ptr b1 0 1) H2 = some (.lit (.int .i64 p)) := load_at g1'
    have l2 : loadX none (.ptr b1 0 2) H2 = some (.lit (.string ⟨⟨tx⟩⟩)) := load_at g1'
    have bz : buildX [(.lit (.int .i64 0)), (.lit (.int .i64 0)), (.lit (.string ⟨⟨[]⟩⟩)), (.lit (.slice none 0 0))] [(0, 1), (1, 1), (2, 1), (3, 1)] [(0, (.lit (.int .i64 k))), (1, (.lit (.int .i64 p))), (2, (.lit (.string ⟨⟨tx⟩⟩)))] = some (.agg [.lit (.int .i64 k), .lit (.int .i64 p), .lit (.string ⟨⟨tx⟩⟩), .lit (.slice none 0 0)]) := rfl
    have bx3 : box (.agg [.lit (.int .i64 0), .lit (.int .i64 0), .lit (.string ⟨⟨[]⟩⟩), .lit (.slice none 0 0)]) H2 = some (.ptr H2.length 0 0, H2 ++ [boxOf zeroT4]) := box_agg H2 (by simp) rfl
    have g3 : (H2 ++ [boxOf zeroT4])[H2.length]? = some (boxOf zeroT4) := get_last _ _
    have b1lt := (List.getElem?_eq_some_iff.1 g1').1
    have g1'' : (H2 ++ [boxOf zeroT4])[b1]? = _ := (List.getElem?_append_left b1lt).trans g1'
    have g2' : (H2 ++ [boxOf zeroT4])[b2]? = _ := (List.getElem?_append_left L2).trans g2
    have s3 := store_tree (c0 := .lit (.int .i64 k)) (c1 := .lit (.int .i64 p)) (c2 := .lit (.string ⟨⟨tx⟩⟩)) (c3 := .lit (.slice none 0 0)) g3 rfl rfl
    simp only [S19_5, fa_ptr, Nat.zero_add, opt_s, l0, l1, l2, bz, bx3, opt2_s, s3, optH_s, S19_4, S19_3]
    have hkl := len_wL ks
    have pl : PlLoop ((H2 ++ [boxOf zeroT4]).set H2.length (boxOf (.agg [.lit (.int .i64 k), .lit (.int .i64 p), .lit (.string ⟨⟨tx⟩⟩), .lit (.slice none 0 0)]))) b1 b2 H2.length k p tx kv (.lit (.slice none 0 0)) (ks.take 0) := by
      refine ⟨?_, ?_, get_set_self g3, ⟨[], none, ⟨rfl, rfl⟩, .nil, fun id e => by cases e⟩⟩
      · rw [get_set_ne (by omega)]; exact g1''
      · rw [get_set_ne (by omega)]; exact g2'
    obtain ⟨r, H, e1, e2⟩ := plain_loop C hv (by omega) (by omega) (b1 := b1) (b2 := b2) (b3 := H2.length) n12 (by omega) (by omega) rounds 0 _ _ pl (Nat.zero_le _) (by simp only [rounds]; omega)
    exact ⟨r, H, e1, e2⟩

/-! ### same -/

/-- Alike, with their places or without. -/
def Alike (pl : Bool) (t u : T) : Prop := (pl = true → t = u) ∧ bareT t = bareT u

def SameCall (call : CallF) (d : Nat) : Prop := ∀ (pl : Bool) (v w : AV) (t u : T) (h : Heap), TreeV v t → TreeV w u → depthT t ≤ d → wT t ≤ 300000000 → Alike pl t u → call 16 [v, w, .lit (.bool pl)] h = some (.lit (.bool true), h)

theorem same_loop {call : CallF} {d : Nat} (C : SameCall call d) {pl : Bool} {kv kw : AV} {ks js : List T} (hv : KidsV kv ks) (hw : KidsV kw js) (hd : depthL ks ≤ d) (hb : wL ks ≤ 300000000) (e1 : pl = true → ks = js) (e2 : bareL ks = bareL js)
    {H : Heap} {b3 b4 k p k' p' : Nat} {tx tx' : List UInt8} (g3 : H[b3]? = some (boxOf (.agg [.lit (.int .i64 k), .lit (.int .i64 p), .lit (.string ⟨⟨tx⟩⟩), kv]))) (g4 : H[b4]? = some (boxOf (.agg [.lit (.int .i64 k'), .lit (.int .i64 p'), .lit (.string ⟨⟨tx'⟩⟩), kw]))) :
    ∀ (n i : Nat), i ≤ ks.length → ks.length - i < n → S16_1l call n (.lit (.bool pl)) (.ptr b3 0 0) (.ptr b4 0 0) (.lit (.int .i64 (i : Int))) H = some (.lit (.bool true), H) := by
  have hkl := len_wL ks
  have hlen : ks.length = js.length := by
    have := congrArg List.length e2
    rwa [bareL_map, bareL_map, List.length_map, List.length_map] at this
  have l3 : loadX none (.ptr b3 0 3) H = some kv := load_at g3
  have l4 : loadX none (.ptr b4 0 3) H = some kw := load_at g4
  intro n
  induction n with
  | zero => intro i _ h; omega
  | succ n ih =>
    intro i hi hn
    show S16_2b call (S16_1l call n) _ _ _ _ H = _
    simp only [S16_2b, fa_ptr, Nat.zero_add, opt_s, l3, hv.len, fb_lss, test_b, decide_eq_true_eq]
    by_cases hlt : i < ks.length
    · rw [if_pos (by omega)]
      have ht : ks[i]? = some ks[i] := List.getElem?_eq_getElem hlt
      have hu : js[i]? = some js[i] := List.getElem?_eq_getElem (by omega)
      have a1 : Alike pl ks[i] js[i] := by
        refine ⟨fun e => by have := e1 e; subst this; rfl, ?_⟩
        have h1 := congrArg (·[i]?) e2
        simp only [bareL_map, List.getElem?_map, ht, hu, Option.map_some] at h1
        exact Option.some.inj h1
      have a2 : ks.length - (i + 1) < n := by omega
      have a3 : i + 1 ≤ ks.length := hlt
      generalize ks[i] = t at ht a1
      generalize js[i] = u at hu a1
      have hm := List.mem_of_getElem? ht
      have h1 := depthL_mem hm
      have h2 := wL_mem hm
      obtain ⟨x, i1, i2⟩ := hv.ix ht H
      obtain ⟨y, j1, j2⟩ := hw.ix hu H
      have c := C pl x y t u H i2 j2 (by omega) (by omega) a1
      have hw1 : fastWrap .i64 ((i : Int) + 1) = ((i + 1 : Nat) : Int) := by rw [wrap64 (by omega) (by omega)]; rfl
      simp only [i1, opt_s, (i2.load H).1, l4, j1, (j2.load H).1, eqH_s, c, opt2_s, not_b, test_b, Bool.not_true, Bool.false_eq_true, if_false, fb_add, hw1]
      exact ih (i + 1) a3 a2
    · rw [if_neg (by omega)]
      rfl

theorem F16_ok {call : CallF} {d : Nat} (C : SameCall call d) {pl : Bool} {v w : AV} {t u : T} (tv : TreeV v t) (tw : TreeV w u) (hd : depthT t ≤ d + 1) (hb : wT t ≤ 300000000) (al : Alike pl t u) (h : Heap) :
    ∃ H, F16 call v w (.lit (.bool pl)) h = some (.lit (.bool true), H) := by
  cases tv with
  | @mk k p tx kv ks hv =>
  cases tw with
  | @mk k' p' tx' kw js hw =>
    simp only [depthT] at hd
    simp only [wT] at hb
    obtain ⟨a1, a2⟩ := al
    simp only [bareT, T.mk.injEq] at a2
    obtain ⟨rfl, _, rfl, a2⟩ := a2
    have ap : pl = true → p = p' ∧ ks = js := fun e => by
      have := a1 e
      simp only [T.mk.injEq] at this
      exact ⟨this.2.1, this.2.2.2⟩
    have hlen : ks.length = js.length := by
      have := congrArg List.length a2
      rwa [bareL_map, bareL_map, List.length_map, List.length_map] at this
    have bx1 : box (.agg [.lit (.int .i64 k), .lit (.int .i64 p), .lit (.string ⟨⟨tx⟩⟩), kv]) h = some (.ptr h.length 0 0, h ++ [boxOf (.agg [.lit (.int .i64 k), .lit (.int .i64 p), .lit (.string ⟨⟨tx⟩⟩), kv])]) := box_agg h (by simp) (TreeV.mk (k := k) (p := p) (t := tx) hv).cells.2.2.1
    have g1 : (h ++ [boxOf (.agg [.lit (.int .i64 k), .lit (.int .i64 p), .lit (.string ⟨⟨tx⟩⟩), kv])])[h.length]? = some (boxOf (.agg [.lit (.int .i64 k), .lit (.int .i64 p), .lit (.string ⟨⟨tx⟩⟩), kv])) := get_last _ _
    simp only [F16, bx1, opt2_s]
    generalize h ++ [boxOf (.agg [.lit (.int .i64 k), .lit (.int .i64 p), .lit (.string ⟨⟨tx⟩⟩), kv])] = H1 at g1
    generalize h.length = b3 at g1
    have bx2 : box (.agg [.lit (.int .i64 k), .lit (.int .i64 p'), .lit (.string ⟨⟨tx⟩⟩), kw]) H1 = some (.ptr H1.length 0 0, H1 ++ [boxOf (.agg [.lit (.int .i64 k), .lit (.int .i64 p'), .lit (.string ⟨⟨tx⟩⟩), kw])]) := box_agg H1 (by simp) (TreeV.mk (k := k) (p := p') (t := tx) hw).cells.2.2.1
    have g4 : (H1 ++ [boxOf (.agg [.lit (.int .i64 k), .lit (.int .i64 p'), .lit (.string ⟨⟨tx⟩⟩), kw])])[H1.length]? = some (boxOf (.agg [.lit (.int .i64 k), .lit (.int .i64 p'), .lit (.string ⟨⟨tx⟩⟩), kw])) := get_last _ _
    have g3 : (H1 ++ [boxOf (.agg [.lit (.int .i64 k), .lit (.int .i64 p'), .lit (.string ⟨⟨tx⟩⟩), kw])])[b3]? = _ := (List.getElem?_append_left (List.getElem?_eq_some_iff.1 g1).1).trans g1
    simp only [bx2, opt2_s]
    generalize H1 ++ [boxOf (.agg [.lit (.int .i64 k), .lit (.int .i64 p'), .lit (.string ⟨⟨tx⟩⟩), kw])] = H at g3 g4
    generalize H1.length = b4 at g4
    have q0 : loadX none (.ptr b3 0 0) H = some (.lit (.int .i64 k)) := load_at g3
    have q1 : loadX none (.ptr b3 0 1) H = some (.lit (.int .i64 p)) := load_at g3
    have q2 : loadX none (.ptr b3 0 2) H = some (.lit (.string ⟨⟨tx⟩⟩)) := load_at g3
    have q3 : loadX none (.ptr b3 0 3) H = some kv := load_at g3
    have r0 : loadX none (.ptr b4 0 0) H = some (.lit (.int .i64 k)) := load_at g4
    have r1 : loadX none (.ptr b4 0 1) H = some (.lit (.int .i64 p')) := load_at g4
    have r2 : loadX none (.ptr b4 0 2) H = some (.lit (.string ⟨⟨tx⟩⟩)) := load_at g4
    have r3 : loadX none (.ptr b4 0 3) H = some kw := load_at g4
    have hkl := len_wL ks
    have fin := same_loop C hv hw (by omega) (by omega) (fun e => (ap e).2) a2 g3 g4 rounds 0 (Nat.zero_le _) (by simp only [rounds]; omega)
    have fin2 : S16_4 call (.lit (.bool pl)) (.ptr b3 0 0) (.ptr b4 0 0) H = some (.lit (.bool true), H) := by
      simp only [S16_4, S16_3]
      exact fin
    simp only [S16_5, fa_ptr, Nat.zero_add, opt_s, q0, q1, q2, q3, r0, r1, r2, r3, fb_neq, fb_neqs, test_b, ne_eq, not_true_eq_false, decide_false, Bool.false_eq_true, if_false, hv.len, hw.len, hlen, fin2]
    cases pl with
    | false => exact ⟨H, rfl⟩
    | true =>
      have := (ap rfl).1
      subst this
      simp only [not_true_eq_false, decide_false, Bool.false_eq_true, if_false, if_true]
      exact ⟨H, rfl⟩

end Go.Proofs.Ytcajleckiegffaa

namespace Go.Proofs.Ytcajleckiegffaa
set_option linter.unusedSimpArgs false
set_option linter.unusedVariables false
open Go.Am
set_option maxRecDepth 100000

theorem cut_isl {l : List AV} {f : Bool} {b : Int} (h0 : 0 ≤ b) (h2 : b ≤ l.length) (h : Heap) : cutX 1 (.isl 1 f l) none (some (.lit (.int .i64 b))) none h = some (.isl 1 (f && b.toNat == l.length) (l.take b.toNat)) := by
  have hb : b.toNat ≤ l.length := by omega
  simp [cutX, bound, intLit, h0, hb]

theorem len_depth (t : T) (h : wT t ≤ 300000000) : depthT t ≤ 300000000 := by
  have := depth_w t; omega

theorem back_run {call : CallF} (C : ParseCall call) (P : PrintOk call 300000000) {l : List Int} {tx : List (List UInt8)} {fl ft : Bool} (M : MadeCall call l tx fl ft 30) (Q : PlainCall call 300000000) (S : SameCall call 300000000)
    (hk : ∀ h, call 14 [] h = some (.lit (.bool true), h)) (hl : l.length ≤ 60) :
    ∃ h', S7_0 call (.isl 1 fl (l.map fun n => .lit (.int .i64 n))) (.isl 1 ft (tx.map strAV)) [] = some (.lit (.bool true), h') := by
  obtain ⟨b1, b2⟩ := back_law l tx hl
  obtain ⟨v, c1, c2⟩ := M [intBox 0] 0 0 (by intro x hx; rw [List.mem_singleton] at hx; subst hx; rfl) rfl (by omega)
  have bx : box (.lit (.int .i64 0)) [] = some (.ptr 0 0 0, [intBox 0]) := box_lit [] rfl
  have st : storeX 1 (.ptr 0 0 0) (.lit (.int .i64 0)) [intBox 0] = some [intBox 0] := store_int (n := 0) (m := 0) rfl
  rw [show ((30 : Nat) : Int) = 30 from rfl] at c1
  simp only [S7_0, bx, opt2_s, st, optH_s, c1]
  generalize (madeT l tx 30 0).2 = q
  generalize hwt : (madeT l tx 30 0).1 = t at b1 b2 c2
  rw [tree_box c2]
  have g6 : ([intBox 0].set 0 (intBox q) ++ [AObj.arr ⟨4, false, false, [v]⟩])[([intBox 0].set 0 (intBox q)).length]? = some (.arr ⟨4, false, false, [v]⟩) := get_last _ _
  generalize [intBox 0].set 0 (intBox q) ++ [AObj.arr ⟨4, false, false, [v]⟩] = H at g6
  generalize ([intBox 0].set 0 (intBox q)).length = b6 at g6
  have hd := len_depth t (by omega)
  have hpw := print_w t
  obtain ⟨u, d1, d2⟩ := Q v t H c2 hd (by omega)
  have p1 := P u t H d2 hd (by omega)
  simp only [tree_load c2 g6, opt_s, d1, opt2_s, p1, lenStr_s, fb_gtr, test_b, decide_eq_true_eq, clt2]
  by_cases hlen : 8192 < (printT t).length
  · rw [if_pos hlen, hk, opt2_s]; exact ⟨_, rfl⟩
  rw [if_neg hlen]
  obtain ⟨e1, e2⟩ := b2 (by omega)
  obtain ⟨x, f1, f2⟩ := C.parse (printT t) H
  have hw := parseF_w (printT t)
  generalize parseF (printT t) = R at e1 e2 f1 f2 hw
  obtain ⟨r, err, pos⟩ := R
  simp only at e1 e2 f2 hw
  subst e1
  simp only [f1, opt2_s, extract_tup, List.getElem?_cons_zero, List.getElem?_cons_succ, opt_s]
  rw [tree_box f2]
  have g8 : (H ++ [AObj.arr ⟨4, false, false, [x]⟩])[H.length]? = some (.arr ⟨4, false, false, [x]⟩) := get_last _ _
  have g6' : (H ++ [AObj.arr ⟨4, false, false, [x]⟩])[b6]? = some (.arr ⟨4, false, false, [v]⟩) := (List.getElem?_append_left (List.getElem?_eq_some_iff.1 g6).1).trans g6
  generalize H ++ [AObj.arr ⟨4, false, false, [x]⟩] = K at g8 g6'
  generalize H.length = b8 at g8
  have s1 := S false x v r t K f2 c2 (len_depth r hw) hw ⟨(fun h => by cases h), e2⟩
  have hpr : printT r = printT t := by rw [← printT_bare r, e2, printT_bare]
  have p2 := P x r K f2 (len_depth r hw) (by rw [hpr]; omega)
  rw [hpr] at p2
  simp only [fb_eql, opt_s, test_b, tree_load f2 g8, tree_load c2 g6', s1, opt2_s, p2, fb_eqls, hk, Int.natCast_zero, decide_true, if_true]
  exact ⟨_, rfl⟩

theorem F7_ok {call : CallF} (C : ParseCall call) (P : PrintOk call 300000000) {l : List Int} {tx : List (List UInt8)} {fl ft : Bool} (M : ∀ m fm, (∀ a ∈ m, a ∈ l) → m.length ≤ 60 → MadeCall call m tx fm ft 30) (Q : PlainCall call 300000000) (S : SameCall call 300000000)
    (hk : ∀ h, call 14 [] h = some (.lit (.bool true), h)) :
    ∃ h', F7 call (.isl 1 fl (l.map fun n => .lit (.int .i64 n))) (.isl 1 ft (tx.map strAV)) [] = some (.lit (.bool true), h') := by
  simp only [F7, S7_1, lenS_isl, List.length_map, opt_s, fb_gtr, test_b, decide_eq_true_eq, clt2]
  by_cases h60 : 60 < l.length
  · rw [if_pos h60, cut_isl (by omega) (by rw [List.length_map]; omega), opt_s, ← List.map_take]
    have hl : (l.take (60 : Int).toNat).length ≤ 60 := by rw [List.length_take]; omega
    exact back_run C P (M _ _ (fun a ha => List.mem_of_mem_take ha) hl) Q S hk hl
  · rw [if_neg h60]
    exact back_run C P (M l fl (fun a ha => ha) (by omega)) Q S hk (by omega)

/-! ### over a table -/

structure HasBack (E : SEnv) : Prop extends HasPrint E where
  p16 : E.prim 16 = none
  p18 : E.prim 18 = none
  p19 : E.prim 19 = none
  f16 : E.fns 16 = some (.alone, N16)
  f18 : E.fns 18 = some (.within, N18)
  f19 : E.fns 19 = some (.alone, N19)

theorem HasBack.made {E : SEnv} (H : HasBack E) {l : List Int} {tx : List (List UInt8)} {fl ft : Bool} (hl : l.length ≤ 60) (hr : ∀ a ∈ l, -9223372036854775808 ≤ a ∧ a ≤ 9223372036854775807) (htx : tx.length ≤ 9223372036854775807) (n : Nat) :
    ∀ d, d ≤ 100 → MadeCall (scall E (n + d + 1)) l tx fl ft d := by
  intro d
  induction d with
  | zero =>
    intro _ h p k hb hp hk
    obtain ⟨r, K, e1, e2⟩ := F18_ok (call := scall E n) (fl := fl) (ft := ft) hl hr htx (d := 0) (by omega) (fun e h => by omega) hb hp hk
    obtain ⟨v, w1, w2⟩ := e2.within hb (F := N18 (scall E n)) (args := [.isl 1 fl (l.map fun n => .lit (.int .i64 n)), .isl 1 ft (tx.map strAV), .ptr p 0 0, .lit (.int .i64 ((0 : Nat) : Int))]) e1
    refine ⟨v, ?_, w2⟩
    simp only [Nat.add_zero, scall, H.p18, H.f18]
    exact w1
  | succ d ih =>
    intro hd h p k hb hp hk
    obtain ⟨r, K, e1, e2⟩ := F18_ok (call := scall E (n + d + 1)) (fl := fl) (ft := ft) hl hr htx (d := d + 1) hd (fun e h => by cases h; exact ih (by omega)) hb hp hk
    obtain ⟨v, w1, w2⟩ := e2.within hb (F := N18 (scall E (n + d + 1))) (args := [.isl 1 fl (l.map fun n => .lit (.int .i64 n)), .isl 1 ft (tx.map strAV), .ptr p 0 0, .lit (.int .i64 ((d + 1 : Nat) : Int))]) e1
    refine ⟨v, ?_, w2⟩
    rw [← Nat.add_assoc n d 1]
    simp only [scall, H.p18, H.f18]
    exact w1

theorem HasBack.plain {E : SEnv} (H : HasBack E) (n : Nat) : ∀ d, PlainCall (scall E (n + d + 1)) d := by
  intro d
  induction d with
  | zero => intro v t h _ hd _; have := depth_pos t; omega
  | succ d ih =>
    intro v t h tv hd hw
    obtain ⟨r, K, h1, v', ids, h2, h3⟩ := F19_ok ih tv hd hw []
    have hs : snaps h [v] = some ([v], []) := by simp only [snaps, tv.snap, List.append_nil]
    exact ⟨v', alone_call (n := n + d + 1) H.p19 H.f19 hs h1 ⟨ids, h2⟩, h3⟩

theorem HasBack.same {E : SEnv} (H : HasBack E) (n : Nat) : ∀ d, SameCall (scall E (n + d + 1)) d := by
  intro d
  induction d with
  | zero => intro pl v w t u h _ _ hd; have := depth_pos t; omega
  | succ d ih =>
    intro pl v w t u h tv tw hd hw al
    obtain ⟨K, h1⟩ := F16_ok ih tv tw hd hw al []
    have hs : snaps h [v, w, .lit (.bool pl)] = some ([v, w, .lit (.bool pl)], []) := by simp only [snaps, tv.snap, tw.snap, snap1_lit, List.append_nil]
    exact alone_call (n := n + d + 1) H.p16 H.f16 hs h1 ⟨[], rfl⟩

end Go.Proofs.Ytcajleckiegffaa
