import Derived.Test.YtpgmeigheilanaaTy6
namespace Go.Proofs.Ytpgmeigheilanaa
set_option linter.unusedSimpArgs false
set_option linter.unusedVariables false
open Go.Am
set_option maxRecDepth 100000

/-! ### the walk of 'made' -/

def HB (h : Heap) : Prop := ∀ x ∈ h, belowObj h.length x = true

theorem belowCell_mono {n m : Nat} (hm : n ≤ m) {v : AV} (h : belowCell n v = true) : belowCell m v = true := by
  have fa : ∀ l : List AV, (l.all fun | .ptr id _ _ => decide (id < n) | v => freeCell v) = true → (l.all fun | .ptr id _ _ => decide (id < m) | v => freeCell v) = true := by
    intro l hl
    rw [List.all_eq_true] at hl ⊢
    intro x hx
    have := hl x hx
    cases x <;> first | exact this | (simp only [decide_eq_true_eq] at this ⊢; omega)
  cases v with
  | sl => simp only [belowCell, decide_eq_true_eq] at h ⊢; omega
  | ptr => simp only [belowCell, decide_eq_true_eq] at h ⊢; omega
  | map => simp only [belowCell, decide_eq_true_eq] at h ⊢; omega
  | fn f a b =>
    simp only [belowCell, Bool.and_eq_true] at h ⊢
    exact ⟨fa _ h.1, fa _ h.2⟩
  | _ => exact h

theorem belowCells_mono {n m : Nat} (hm : n ≤ m) {cs : List AV} (h : cs.all (belowCell n) = true) : cs.all (belowCell m) = true := by
  rw [List.all_eq_true] at h ⊢
  exact fun x hx => belowCell_mono hm (h x hx)

theorem belowObj_mono {n m : Nat} (hm : n ≤ m) {x : AObj} (h : belowObj n x = true) : belowObj m x = true := by
  cases x with
  | arr A =>
    simp only [belowObj] at h ⊢
    rw [List.all_eq_true] at h ⊢
    intro y hy
    have := h y hy
    cases y <;> first | exact belowCells_mono hm this | exact belowCell_mono hm this
  | map es c =>
    simp only [belowObj] at h ⊢
    rw [List.all_eq_true] at h ⊢
    intro y hy
    have := h y hy
    obtain ⟨a, y, b⟩ := y
    cases y <;> first | exact belowCells_mono hm this | exact belowCell_mono hm this
  | _ => rfl

theorem HB.snoc {h : Heap} {x : AObj} (H : HB h) (hx : belowObj (h.length + 1) x = true) : HB (h ++ [x]) := by
  intro y hy
  rw [List.length_append, List.length_singleton]
  rcases List.mem_append.1 hy with hy | hy
  · exact belowObj_mono (by omega) (H y hy)
  · rw [List.mem_singleton] at hy; subst hy; exact hx

theorem HB.set {h : Heap} {x : AObj} {i : Nat} (H : HB h) (hx : belowObj h.length x = true) : HB (h.set i x) := by
  intro y hy
  rw [List.length_set]
  rcases List.mem_or_eq_of_mem_set hy with hy | hy
  · exact H y hy
  · subst hy; exact hx

theorem HB.kill {h : Heap} {o : Option Nat} (H : HB h) : HB (kill h o) := by
  cases o with
  | none => exact H
  | some i => exact H.set rfl

theorem HB.all {h : Heap} (H : HB h) : h.all (belowObj h.length) = true := List.all_eq_true.2 H

def intBox (n : Nat) : AObj := .arr ⟨1, false, false, [.lit (.int .i64 n)]⟩

theorem load_int {H : Heap} {p n : Nat} (hp : H[p]? = some (intBox n)) : loadX none (.ptr p 0 0) H = some (.lit (.int .i64 n)) := by
  unfold loadX
  simp only [hp, intBox, List.getElem?_cons_zero]
  rfl

theorem store_int {H : Heap} {p n m : Nat} (hp : H[p]? = some (intBox n)) : storeX 1 (.ptr p 0 0) (.lit (.int .i64 m)) H = some (H.set p (intBox m)) := by
  unfold storeX
  simp only [hp, intBox, Bool.false_eq_true, false_and, if_false, List.getElem?_cons_zero]
  exact if_pos ⟨rfl, Nat.le_refl _, rfl⟩

theorem get_set_self {H : Heap} {b : Nat} {x y : AObj} (hb : H[b]? = some x) : (H.set b y)[b]? = some y := by
  rw [List.getElem?_set_self (List.getElem?_eq_some_iff.1 hb).1]

theorem get_set_ne {H : Heap} {b c : Nat} {y : AObj} (hne : b ≠ c) : (H.set b y)[c]? = H[c]? := List.getElem?_set_ne hne


theorem own_mono {h h' : Heap} {v : AV} {sz : Nat} {es : List AV} {o : Option Nat} (k : OwnS h v sz es o) (hh : ∀ id, o = some id → h'[id]? = h[id]?) : OwnS h' v sz es o := by
  cases o with
  | none => exact k
  | some id => exact ⟨k.1, by rw [hh id rfl]; exact k.2⟩

theorem kill_get {h : Heap} {o : Option Nat} {id : Nat} (hne : o ≠ some id) (hl : id < h.length) (y : List AObj) : (kill h o ++ y)[id]? = h[id]? := by
  rw [List.getElem?_append_left (by rw [kill_length]; exact hl)]
  cases o with
  | none => rfl
  | some j => simp only [kill]; rw [List.getElem?_set_ne (fun e => hne (by rw [e]))]

/-! what 'made' answers -/

structure MadeR (h0 : Heap) (p : Nat) (r : AV) (H : Heap) (s : List UInt8) (q : Nat) : Prop where
  len : h0.length ≤ H.length
  frame : ∀ i, i < h0.length → H[i]? = (h0.set p (intBox q))[i]?
  val : r = sv s

theorem MadeR.same {h0 : Heap} {p q : Nat} {s : List UInt8} (hp : h0[p]? = some (intBox q)) : MadeR h0 p (sv s) h0 s q where
  len := Nat.le_refl _
  frame := fun i hi => by
    by_cases e : p = i
    · subst e; rw [get_set_self hp, hp]
    · rw [get_set_ne e]
  val := rfl

theorem MadeR.back {h0 : Heap} {p k q : Nat} {x : AObj} {r : AV} {H : Heap} {s : List UInt8} (hp : h0[p]? = some x) (m : MadeR (h0.set p (intBox k)) p r H s q) : MadeR h0 p r H s q where
  len := by have := m.len; rwa [List.length_set] at this
  frame := fun i hi => by
    rw [m.frame i (by rw [List.length_set]; exact hi)]
    by_cases e : p = i
    · subst e; rw [get_set_self (get_set_self hp), get_set_self hp]
    · rw [get_set_ne e, get_set_ne e, get_set_ne e]
  val := m.val

theorem MadeR.within {h0 H : Heap} {p q : Nat} {r : AV} {s : List UInt8} (m : MadeR h0 p r H s q) (hb : HB h0) {F : List AV → Heap → Res} {args : List AV} (hF : F args h0 = some (r, H)) :
    withinX F args h0 = some (sv s, h0.set p (intBox q)) := by
  have hk : (Am.mark [] H).take h0.length = h0.set p (intBox q) := by
    apply List.ext_getElem?
    intro i
    by_cases hi : i < h0.length
    · rw [List.getElem?_take, if_pos hi, show Am.mark [] H = H from rfl, m.frame i hi]
    · rw [List.getElem?_take, if_neg hi, List.getElem?_eq_none (by simp; omega)]
  have hr := m.val
  subst hr
  unfold withinX
  rw [hF]
  show (if (List.take h0.length (Am.mark [] H)).all (belowObj h0.length) = true then some (sv s, List.take h0.length (Am.mark [] H)) else _) = _
  rw [hk, if_pos]
  have : HB (h0.set p (intBox q)) := hb.set rfl
  have := this.all
  rwa [List.length_set] at this

abbrev il (fl : Bool) (l : List Int) : AV := .isl 1 fl (l.map fun n => .lit (.int .i64 n))

/-- 'made', one storey further down. -/
def MadeCall (call : CallF) (l : List Int) (fl : Bool) (e : Nat) (f : Nat → Y × Nat) : Prop := ∀ (h : Heap) (p k : Nat), HB h → h[p]? = some (intBox k) → k ≤ l.length →
  call 7 [il fl l, .ptr p 0 0, iv e] h = some (sv (textY (f k).1), h.set p (intBox (f k).2))

def FuncCall (call : CallF) : Prop := ∀ (H : Heap) (v : AV) (ks : List Y) (o : Option Nat) (s : List UInt8), OwnS H v 1 (rowS ks) o → (joinY ks).length < 100000 → ks.length ≤ 100 → s.length < 100000 → call 8 [v, sv s] H = some (sv (40 :: (joinY ks ++ 41 :: s)), H)

/-- The trees of the storey below. -/
structure Below1 (l : List Int) (f : Nat → Y × Nat) (B : Nat) : Prop where
  le : ∀ q, q ≤ l.length → (f q).2 ≤ l.length
  len : ∀ q, (textY (f q).1).length ≤ B

theorem join_len {B : Nat} : ∀ ks : List Y, (∀ t ∈ ks, (textY t).length ≤ B) → (joinY ks).length ≤ ks.length * (B + 1) := by
  have tl : ∀ ks : List Y, (∀ t ∈ ks, (textY t).length ≤ B) → (tailY ks).length ≤ ks.length * (B + 1) := by
    intro ks
    induction ks with
    | nil => intro _; simp [tailY]
    | cons t ts ih =>
      intro h
      have a := h t (by simp)
      have b := ih fun x hx => h x (List.mem_cons_of_mem _ hx)
      simp only [tailY, List.length_cons, List.length_append, Nat.succ_mul]
      omega
  intro ks h
  cases ks with
  | nil => simp [joinY]
  | cons t ts =>
    have a := h t (by simp)
    have b := tl ts fun x hx => h x (List.mem_cons_of_mem _ hx)
    simp only [joinY, List.length_cons, List.length_append, Nat.succ_mul]
    omega

structure MLoop (h0 : Heap) (p : Nat) (H : Heap) (v : AV) (ks : List Y) (q : Nat) : Prop where
  bel : HB H
  len : h0.length ≤ H.length
  frame : ∀ i, i < h0.length → H[i]? = (h0.set p (intBox q))[i]?
  own : ∃ o, OwnS H v 1 (rowS ks) o ∧ ∀ id, o = some id → h0.length ≤ id

theorem MLoop.push {h0 H : Heap} {p q q' k0 : Nat} {v : AV} {ks : List Y} (m : MLoop h0 p H v ks q) (hp : h0[p]? = some (intBox k0)) (hk : ks.length ≤ 10) (t : Y) :
    ∃ v' H', appendX 1 16 v (.isl 1 true [sv (textY t)]) (H.set p (intBox q')) = some (v', H') ∧ MLoop h0 p H' v' (ks ++ [t]) q' := by
  have hpl : p < h0.length := (List.getElem?_eq_some_iff.1 hp).1
  have hml := m.len
  obtain ⟨o, w, ho⟩ := m.own
  have w1 : OwnS (H.set p (intBox q')) v 1 (rowS ks) o := own_mono w fun id e => get_set_ne (by have := ho id e; omega)
  have es : (rowS ks).length = ks.length := by simp [rowS]
  have ap := w1.append (ys := [sv (textY t)]) (bytes := 16) (f := true) (by simp) (by simp only [List.length_singleton]; omega)
  refine ⟨_, _, ap, ?_, ?_, ?_, ?_⟩
  · refine HB.snoc (HB.kill (m.bel.set rfl)) ?_
    simp only [belowObj]
    rw [List.all_eq_true]
    intro x hx
    have : ∃ s, x = sv s := by
      rcases List.mem_append.1 hx with hx | hx
      · obtain ⟨t, _, rfl⟩ := List.mem_map.1 hx; exact ⟨_, rfl⟩
      · rw [List.mem_singleton] at hx; exact ⟨_, hx⟩
    obtain ⟨s, rfl⟩ := this
    rfl
  · simp [kill_length]; omega
  · intro i hi
    rw [kill_get (fun e => by have := ho _ e; omega) (by rw [List.length_set]; omega)]
    by_cases e : p = i
    · subst e
      rw [List.getElem?_set_self (by omega), get_set_self hp]
    · rw [get_set_ne e, m.frame i hi, get_set_ne e, get_set_ne e]
  · refine ⟨some (H.set p (intBox q')).length, ?_, fun id e => by cases e; rw [List.length_set]; omega⟩
    rw [show rowS (ks ++ [t]) = rowS ks ++ [sv (textY t)] from by simp [rowS]]
    have := OwnS.appended (h := H.set p (intBox q')) (o := o) (sz := 1) (es := rowS ks ++ [sv (textY t)])
    rw [List.length_append] at this
    exact this

theorem made_loop {call : CallF} {l : List Int} {fl : Bool} {e : Nat} {f : Nat → Y × Nat} (C : MadeCall call l fl e f) (FC : FuncCall call) {B : Nat} (hB : B ≤ 4000) (b1 : Below1 l f B) (he : e ≤ 100) {h0 : Heap} {p k0 : Nat} (hp : h0[p]? = some (intBox k0)) :
    ∀ (n k : Nat) (H : Heap) (v : AV) (ks : List Y) (q : Nat), MLoop h0 p H v ks q → q ≤ l.length → ks.length + n ≤ 6 → (∀ t ∈ ks, (textY t).length ≤ B) → n < k →
      ∃ H', S7_1l call k (il fl l) (.ptr p 0 0) (iv ((e + 1 : Nat) : Int)) v (iv n) H = some (sv (textY (.fn (madeL f n q ks).1 (f (madeL f n q ks).2).1)), H') ∧
        MadeR h0 p (sv (textY (.fn (madeL f n q ks).1 (f (madeL f n q ks).2).1))) H' (textY (.fn (madeL f n q ks).1 (f (madeL f n q ks).2).1)) (f (madeL f n q ks).2).2 := by
  have hpl : p < h0.length := (List.getElem?_eq_some_iff.1 hp).1
  have e0 : (fastWrap .i64 (((e + 1 : Nat) : Int) - 1)) = (e : Int) := by rw [wrap64 (by omega) (by omega)]; omega
  intro n
  induction n with
  | zero =>
    intro k H v ks q m hq hn hks hk
    obtain ⟨k, rfl⟩ : ∃ k', k = k' + 1 := ⟨k - 1, by omega⟩
    have hHp : H[p]? = some (intBox q) := by rw [m.frame p hpl, get_set_self hp]
    have c1 := C H p q m.bel hHp hq
    obtain ⟨o, w, ho⟩ := m.own
    have w1 : OwnS (H.set p (intBox (f q).2)) v 1 (rowS ks) o := own_mono w fun id e => get_set_ne (by have := ho id e; omega)
    have hj := join_len ks hks
    have h6 : ks.length * (B + 1) ≤ 6 * 4001 := Nat.mul_le_mul (by omega) (by omega)
    have fc := FC _ v ks o (textY (f q).1) w1 (by omega) (by omega) (by have := b1.len q; omega)
    have et : (40 :: (joinY ks ++ 41 :: textY (f q).1) : List UInt8) = textY (.fn ks (f q).1) := by simp only [textY]
    show ∃ H', S7_2b call (S7_1l call k) _ _ _ _ _ H = _ ∧ _
    simp only [S7_2b, fb_gtr, opt_s, test_b, decide_eq_true_eq, madeL]
    rw [if_neg (by omega)]
    simp only [S7_0, fb_sub, e0, opt_s, c1, opt2_s, fc, et]
    refine ⟨_, rfl, by rw [List.length_set]; exact m.len, fun i hi => ?_, rfl⟩
    by_cases e : p = i
    · subst e; rw [get_set_self hHp, get_set_self hp]
    · rw [get_set_ne e, m.frame i hi, get_set_ne e, get_set_ne e]
  | succ n ih =>
    intro k H v ks q m hq hn hks hk
    obtain ⟨k, rfl⟩ : ∃ k', k = k' + 1 := ⟨k - 1, by omega⟩
    have hHp : H[p]? = some (intBox q) := by rw [m.frame p hpl, get_set_self hp]
    have c1 := C H p q m.bel hHp hq
    have bs := bslice_one (sz := 1) (z := sv []) (t := sv (textY (f q).1)) (h := H.set p (intBox (f q).2)) rfl rfl rfl
    obtain ⟨v', H', ap, m2⟩ := m.push (q' := (f q).2) hp (by omega) (f q).1
    have e1 : (fastWrap .i64 (((n + 1 : Nat) : Int) - 1)) = (n : Int) := by rw [wrap64 (by omega) (by omega)]; omega
    show ∃ H', S7_2b call (S7_1l call k) _ _ _ _ _ H = _ ∧ _
    simp only [S7_2b, fb_gtr, opt_s, test_b, decide_eq_true_eq, madeL]
    rw [if_pos (by omega)]
    simp only [fb_sub, e0, opt_s, c1, opt2_s, bs]
    rw [show (reElem (cellsOf (sv (textY (f q).1)))) = sv (textY (f q).1) from rfl, ap]
    simp only [opt2_s, e1, opt_s]
    exact ih k H' v' (ks ++ [(f q).1]) (f q).2 m2 (b1.le q hq) (by simp only [List.length_append, List.length_singleton]; omega) (fun t ht => by
      rcases List.mem_append.1 ht with ht | ht
      · exact hks t ht
      · rw [List.mem_singleton] at ht; subst ht; exact b1.len q) (by omega)

end Go.Proofs.Ytpgmeigheilanaa
