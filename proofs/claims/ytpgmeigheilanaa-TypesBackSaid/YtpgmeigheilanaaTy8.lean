import Derived.Test.YtpgmeigheilanaaTy7
namespace Go.Proofs.Ytpgmeigheilanaa
set_option linter.unusedSimpArgs false
set_option linter.unusedVariables false
open Go.Am Go.RowKit
set_option maxRecDepth 100000

theorem ntmod (n k : Nat) : ((n : Int)).tmod (k : Int) = ((n % k : Nat) : Int) := by
  rw [Int.tmod_eq_emod_of_nonneg (by omega)]; rfl

theorem rem_nat (n k : Nat) (hk : k ≠ 0) : binX Try.prog .none .rem 3 (iv n) (iv (k : Int)) = some (iv ((n % k : Nat) : Int)) := by
  have := rem_int (P := Try.prog) (t := 3) (k := .i64) (a := (n : Int)) (b := (k : Int)) (by omega)
  rw [ntmod] at this
  exact this

theorem named_slice (h : Heap) : bsliceX 1 (.lit (.string ⟨⟨[]⟩⟩)) 3 [(0, (.lit (.string ⟨⟨[109, 46, 84]⟩⟩))), (1, (.lit (.string ⟨⟨[97, 46, 66]⟩⟩))), (2, (.lit (.string ⟨⟨[120, 95, 49, 46, 89]⟩⟩)))] h =
    some (.isl 1 true [sv [109, 46, 84], sv [97, 46, 66], sv [120, 95, 49, 46, 89]], h) := by rfl

theorem named_ix (n : Nat) : ([sv [109, 46, 84], sv [97, 46, 66], sv [120, 95, 49, 46, 89]])[n % 3]? = some (sv (atomY (2 + n % 3))) := by
  have h : n % 3 < 3 := Nat.mod_lt _ (by decide)
  generalize n % 3 = m at h
  rcases (by omega : m = 0 ∨ m = 1 ∨ m = 2) with e | e | e <;> subst e <;> rfl

def ArrayCall (call : CallF) : Prop := ∀ s h, s.length < 1000000 → call 9 [sv s] h = some (sv (91 :: (s ++ [93])), h)

theorem kind_ok {call : CallF} {l : List Int} {fl : Bool} {d : Nat} {f : Nat → Y × Nat} (AC : ArrayCall call) (FC : FuncCall call) {B : Nat} (hB : B ≤ 4000) (b1 : Below1 l f B) {n q p : Nat} {K : Heap} (hb : HB K) (hp : K[p]? = some (intBox q)) (hq : q ≤ l.length)
    (hd : 3 ≤ n % 5 → ∃ e, d = e + 1 ∧ e ≤ 100 ∧ MadeCall call l fl e f) :
    ∃ H, S7_6 call (il fl l) (.ptr p 0 0) (iv d) (iv n) K = some (sv (textY (kindY f n q).1), H) ∧ MadeR K p (sv (textY (kindY f n q).1)) H (textY (kindY f n q).1) (kindY f n q).2 := by
  have r5 := rem_nat n 5 (by decide)
  have r3 := rem_nat n 3 (by decide)
  have r7 := rem_nat n 7 (by decide)
  rw [show ((5 : Nat) : Int) = 5 from rfl] at r5
  rw [show ((3 : Nat) : Int) = 3 from rfl] at r3
  rw [show ((7 : Nat) : Int) = 7 from rfl] at r7
  simp only [S7_6, r5, opt_s, fb_eql, test_b, decide_eq_true_eq, ceq, kindY]
  by_cases h0 : n % 5 = 0
  · rw [if_pos h0, if_pos h0]
    exact ⟨K, rfl, .same hp⟩
  rw [if_neg h0, if_neg h0]
  by_cases h1 : n % 5 = 1
  · rw [if_pos h1, if_pos h1]
    exact ⟨K, rfl, .same hp⟩
  rw [if_neg h1, if_neg h1]
  by_cases h2 : n % 5 = 2
  · rw [if_pos h2, if_pos h2, named_slice]
    simp only [opt2_s, r3, opt_s]
    rw [ixa_isl (Int.natCast_nonneg _), Int.toNat_natCast, named_ix]
    simp only [Option.map_some, opt_s]
    rw [show loadX none (.iptr (sv (atomY (2 + n % 3))) 0) K = some (sv (atomY (2 + n % 3))) from rfl, opt_s]
    refine ⟨K, ?_, .same hp⟩
    simp only [textY]
  rw [if_neg h2, if_neg h2]
  have h5 : n % 5 < 5 := Nat.mod_lt _ (by decide)
  obtain ⟨e, rfl, he, C⟩ := hd (by omega)
  have e0 : (fastWrap .i64 (((e + 1 : Nat) : Int) - 1)) = (e : Int) := by rw [wrap64 (by omega) (by omega)]; omega
  by_cases h3 : n % 5 = 3
  · rw [if_pos h3, if_pos h3]
    have c1 := C K p q hb hp hq
    have a1 := AC (textY (f q).1) (K.set p (intBox (f q).2)) (by have := b1.len q; omega)
    simp only [fb_sub, e0, opt_s, c1, opt2_s, a1]
    refine ⟨K.set p (intBox (f q).2), ?_, by rw [List.length_set]; exact Nat.le_refl _, fun i hi => rfl, rfl⟩
    simp only [textY]
  · rw [if_neg h3, if_neg h3]
    simp only [S7_5, S7_4, r7, opt_s, S7_3]
    have h7 : n % 7 < 7 := Nat.mod_lt _ (by decide)
    have m0 : MLoop K p K (.lit (.slice none 0 0)) [] q := ⟨hb, Nat.le_refl _, (MadeR.same (s := []) hp).frame, none, ⟨rfl, rfl⟩, fun id e => by cases e⟩
    exact made_loop C FC hB b1 he hp (n % 7) rounds K (.lit (.slice none 0 0)) [] q m0 hq (by simp only [List.length_nil]; omega) (fun t ht => by cases ht) (by simp only [rounds]; omega)

theorem absI (a : Int) : (a < 0 → (0 - (a + 1)) = (absN a : Int)) ∧ (¬ a < 0 → a = (absN a : Int)) := by
  unfold absN
  constructor
  · intro h; rw [if_pos h]; omega
  · intro h; rw [if_neg h]; omega

/-- The storey below the one whose number is d. -/
def lowerY (l : List Int) : Nat → Nat → Y × Nat
  | 0 => fun p => (.atom 0, p)
  | d + 1 => madeY l d

theorem F7_ok {call : CallF} {l : List Int} {fl : Bool} (hr : ∀ a ∈ l, -9223372036854775808 ≤ a ∧ a ≤ 9223372036854775807) (hl : l.length ≤ 9223372036854775807) (AC : ArrayCall call) (FC : FuncCall call) {d B : Nat} (hd : d ≤ 100) (hB : B ≤ 4000) (b1 : Below1 l (lowerY l d) B)
    (C : ∀ e, d = e + 1 → MadeCall call l fl e (madeY l e)) {h : Heap} {p k : Nat} (hb : HB h) (hp : h[p]? = some (intBox k)) (hk : k ≤ l.length) :
    ∃ H, F7 call (il fl l) (.ptr p 0 0) (iv d) h = some (sv (textY (madeY l d k).1), H) ∧ MadeR h p (sv (textY (madeY l d k).1)) H (textY (madeY l d k).1) (madeY l d k).2 := by
  -- from the number that was taken on
  have after : ∀ (n q : Nat) (K : Heap), HB K → K[p]? = some (intBox q) → q ≤ l.length → madeY l d k = kindY (lowerY l d) (if d = 0 then n % 3 else n) q →
      ∃ H, S7_7 call (il fl l) (.ptr p 0 0) (iv d) (iv n) K = some (sv (textY (madeY l d k).1), H) ∧ MadeR K p (sv (textY (madeY l d k).1)) H (textY (madeY l d k).1) (madeY l d k).2 := by
    intro n q K kb kp kq em
    rw [em]
    simp only [S7_7, fb_leq, opt_s, test_b, decide_eq_true_eq, cle1]
    by_cases h0 : d = 0
    · have r3 := rem_nat n 3 (by decide)
      rw [show ((3 : Nat) : Int) = 3 from rfl] at r3
      rw [if_pos (by omega), if_pos h0, r3, opt_s]
      exact kind_ok AC FC hB b1 kb kp kq fun h3 => by
        have : n % 3 < 3 := Nat.mod_lt _ (by decide)
        omega
    · rw [if_neg (by omega), if_neg h0]
      obtain ⟨e, rfl⟩ : ∃ e, d = e + 1 := ⟨d - 1, by omega⟩
      exact kind_ok AC FC hB b1 kb kp kq fun _ => ⟨e, rfl, by omega, C e rfl⟩
  have em : madeY l d k = kindY (lowerY l d) (if d = 0 then (takeN l k).1 % 3 else (takeN l k).1) (takeN l k).2 := by
    cases d with
    | zero => rfl
    | succ d => simp only [madeY, lowerY]; rw [if_neg (by omega)]
  simp only [F7, S7_10, S7_9, nilCheckX, opt_s, load_int hp, lenS_isl, List.length_map, fb_lss, test_b, decide_eq_true_eq]
  by_cases hlt : k < l.length
  · obtain ⟨a, ha⟩ : ∃ a, l[k]? = some a := ⟨l[k], List.getElem?_eq_getElem hlt⟩
    obtain ⟨ha1, ha2⟩ := hr a (List.mem_of_getElem? ha)
    have tk : takeN l k = (absN a, k + 1) := by unfold takeN; rw [ha]
    rw [tk] at em
    have gl2 : (l.map fun n => AV.lit (.int .i64 n))[k]? = some (.lit (.int .i64 a)) := by rw [List.getElem?_map, ha]; rfl
    have ld : loadX none (.iptr (.lit (.int .i64 a)) 0) h = some (.lit (.int .i64 a)) := rfl
    have hw1 : fastWrap .i64 ((k : Int) + 1) = ((k + 1 : Nat) : Int) := by rw [wrap64 (by omega) (by omega)]; rfl
    have si := store_int (m := k + 1) hp
    rw [if_pos (by omega)]
    simp only [ixa_isl (Int.natCast_nonneg _), Int.toNat_natCast, gl2, Option.map_some, opt_s, ld, fb_add, hw1, si, optH_s]
    have hp2 : (h.set p (intBox (k + 1)))[p]? = some (intBox (k + 1)) := get_set_self hp
    have hb2 : HB (h.set p (intBox (k + 1))) := hb.set rfl
    obtain ⟨H, a1, a2⟩ := after (absN a) (k + 1) (h.set p (intBox (k + 1))) hb2 hp2 (by omega) em
    refine ⟨H, ?_, a2.back hp⟩
    obtain ⟨i1, i2⟩ := absI a
    simp only [S7_8, fb_lss, opt_s, test_b, decide_eq_true_eq]
    by_cases hneg : a < 0
    · rw [if_pos hneg, fb_add, opt_s, wrap64 (by omega) (by omega), neg_int, opt_s, kwrap64 (by omega) (by omega), i1 hneg]
      exact a1
    · rw [if_neg hneg]
      have := i2 hneg
      rw [← this] at a1
      exact a1
  · rw [if_neg (by omega)]
    have tk : takeN l k = (0, k) := by unfold takeN; rw [List.getElem?_eq_none (by omega)]
    rw [tk] at em
    obtain ⟨H, a1, a2⟩ := after 0 k h hb hp hk em
    refine ⟨H, ?_, a2⟩
    simp only [S7_8, fb_lss, opt_s, test_b, decide_eq_true_eq]
    rw [if_neg (by omega)]
    exact a1

/-! how long -/

theorem madeL_len {f : Nat → Y × Nat} {B : Nat} (hf : ∀ q, (textY (f q).1).length ≤ B) : ∀ (k p : Nat) (acc : List Y), (∀ t ∈ acc, (textY t).length ≤ B) → (∀ t ∈ (madeL f k p acc).1, (textY t).length ≤ B) ∧ (madeL f k p acc).1.length = acc.length + k := by
  intro k
  induction k with
  | zero => intro p acc h; exact ⟨h, rfl⟩
  | succ k ih =>
    intro p acc h
    obtain ⟨a, b⟩ := ih (f p).2 (acc ++ [(f p).1]) fun t ht => by
      rcases List.mem_append.1 ht with ht | ht
      · exact h t ht
      · rw [List.mem_singleton] at ht; subst ht; exact hf p
    exact ⟨a, by simp only [madeL]; rw [b]; simp; omega⟩

theorem kindY_len {f : Nat → Y × Nat} {B : Nat} (h5 : 5 ≤ B) (hf : ∀ q, (textY (f q).1).length ≤ B) (n q : Nat) : (textY (kindY f n q).1).length ≤ 7 * B + 8 := by
  have at_ : ∀ k, (textY (.atom k)).length ≤ 7 * B + 8 := fun k => by simp only [textY]; have := (atom_len k).2; omega
  unfold kindY
  split
  · exact at_ 0
  split
  · exact at_ 1
  split
  · exact at_ _
  split
  · have := hf q
    simp only [textY, List.length_cons, List.length_append, List.length_nil]; omega
  · obtain ⟨a, b⟩ := madeL_len hf (n % 7) q [] (fun t ht => by cases ht)
    have j := join_len _ a
    have h7 : n % 7 < 7 := Nat.mod_lt _ (by decide)
    have hm : (madeL f (n % 7) q []).1.length * (B + 1) ≤ 6 * (B + 1) := Nat.mul_le_mul (by rw [b]; simp only [List.length_nil]; omega) (Nat.le_refl _)
    have := hf (madeL f (n % 7) q []).2
    simp only [textY, List.length_cons, List.length_append]
    omega

theorem below0 (l : List Int) : Below1 l (lowerY l 0) 5 := ⟨fun q h => h, fun q => by simp [lowerY, textY, atomY]⟩

theorem madeY_le (l : List Int) (d : Nat) {q : Nat} (hq : q ≤ l.length) : (madeY l d q).2 ≤ l.length := by
  have := (madeY_ok l d q).le
  omega

theorem below1 (l : List Int) : Below1 l (lowerY l 1) 43 := ⟨fun q h => madeY_le l 0 h, fun q => by simp only [lowerY, madeY]; exact kindY_len (B := 5) (by omega) (fun q => by simp [textY, atomY]) _ _⟩

theorem below2 (l : List Int) : Below1 l (lowerY l 2) 309 := ⟨fun q h => madeY_le l 1 h, fun q => by simp only [lowerY, madeY]; exact kindY_len (B := 43) (by omega) (below1 l).len _ _⟩

theorem below3 (l : List Int) : Below1 l (lowerY l 3) 2171 := ⟨fun q h => madeY_le l 2 h, fun q => by
  show (textY (madeY l 2 q).1).length ≤ _
  simp only [madeY]; exact kindY_len (B := 309) (by omega) (below2 l).len _ _⟩

/-! ### over a table -/

theorem alone_call2 {E : SEnv} {n : Nat} {f : FuncId} {F : FnF} {args args' : List AV} {ids : List Nat} {h hc : Heap} {r0 r : AV} (hp : E.prim f = none) (hf : E.fns f = some (.alone, F)) (hs : snaps h args = some (args', ids))
    (hb : F (scall E n) args' [] = some (r0, hc)) (hr : ∃ ids, snapR hc r0 = some (r, ids)) (hfl : flat r = true) : scall E (n + 1) f args h = some (r, h) := by
  obtain ⟨ids, hr⟩ := hr
  simp only [scall, hp, hf, hs, aloneX, hb, hr]
  rw [if_pos (.inl hfl)]

theorem strs_rowS (ks : List Y) : strs (rowS ks) = some (ks.map fun t => ⟨⟨textY t⟩⟩) := by
  induction ks with
  | nil => rfl
  | cons t ts ih => simp only [rowS, List.map_cons, strs]; rw [show strs (ts.map fun t => sv (textY t)) = _ from ih]

theorem join_prim (ks : List Y) {f : Bool} (h1 : ks.length ≤ 100) (h2 : (joinY ks).length < 100000) : joinPrim [.isl 1 f (rowS ks), sv [44]] = some (sv (joinY ks)) := by
  have e : joined (ks.map fun t => (⟨⟨textY t⟩⟩ : ByteArray)) ⟨⟨[44]⟩⟩ = joinY ks := by
    unfold joined
    rw [joinY_lib]
    simp [List.map_map, Function.comp_def]
  simp only [joinPrim, strs_rowS, e]
  rw [if_pos ⟨rfl, by simp; omega, by omega⟩]

theorem HasTypes.func {E : SEnv} (H : HasTypes E) (n : Nat) : FuncCall (scall E (n + 2)) := by
  intro h v ks o s w hj hk hs
  obtain ⟨ids, hsn⟩ := w.snap (rowS_free ks)
  have hs2 : snaps h [v, sv s] = some ([Am.frozen 1 (rowS ks) o, sv s], ids) := by
    simp only [snaps, snap1_lit, List.append_nil]
    rw [show snap1 h v = _ from hsn]
    simp only [List.append_nil]
  have hjc : scall E (n + 1) 21 [Am.frozen 1 (rowS ks) o, sv [44]] [] = some (sv (joinY ks), []) := by
    cases o with
    | none =>
      obtain ⟨_, e⟩ := w
      have : ks = [] := by simpa [rowS] using e
      subst this
      exact prim_call (p := joinPrim) H.p21 rfl rfl
    | some id =>
      refine prim_call (p := joinPrim) H.p21 ?_ (join_prim ks hk hj)
      simp only [Am.frozen, snaps, snap1_lit, List.append_nil]
      have : snap1 [] (.isl 1 false (rowS ks)) = some (.isl 1 false (rowS ks), []) := by simp [snap1, snapCell, freeCell]
      rw [this]; rfl
  refine alone_call2 (n := n + 1) H.p8 H.f8 hs2 (hc := []) (r0 := sv (40 :: (joinY ks ++ 41 :: s))) ?_ ⟨[], rfl⟩ rfl
  simp only [N8, F8, hjc, opt2_s]
  rw [fb_adds (by simp only [List.length_cons, List.length_nil]; omega), opt_s, fb_adds (by simp only [List.length_cons, List.length_nil, List.length_append]; omega), opt_s, fb_adds (by simp only [List.length_cons, List.length_nil, List.length_append]; omega), opt_s]
  simp

structure HasMade (E : SEnv) : Prop extends HasTypes E where
  p7 : E.prim 7 = none
  f7 : E.fns 7 = some (.within, N7)

theorem HasMade.made {E : SEnv} (H : HasMade E) {l : List Int} (fl : Bool) (hr : ∀ a ∈ l, -9223372036854775808 ≤ a ∧ a ≤ 9223372036854775807) (hl : l.length ≤ 9223372036854775807) (n : Nat) :
    ∀ d, d ≤ 2 → MadeCall (scall E (n + 3 + d)) l fl d (madeY l d) := by
  have step : ∀ d m, d ≤ 2 → (∀ e, d = e + 1 → MadeCall (scall E (m + 2)) l fl e (madeY l e)) → MadeCall (scall E (m + 2 + 1)) l fl d (madeY l d) := by
    intro d m hd C h p k hb hp hk
    have key : ∀ B, B ≤ 4000 → Below1 l (lowerY l d) B → scall E (m + 2 + 1) 7 [il fl l, .ptr p 0 0, iv d] h = some (sv (textY (madeY l d k).1), h.set p (intBox (madeY l d k).2)) := by
      intro B hB b1
      obtain ⟨K, e1, e2⟩ := F7_ok hr hl (fun s h hs => H.array (m + 1) hs h) (H.func m) (by omega) hB b1 C hb hp hk
      have := e2.within hb (F := N7 (scall E (m + 2))) (args := [il fl l, .ptr p 0 0, iv d]) e1
      simp only [scall, H.p7, H.f7]
      exact this
    rcases (by omega : d = 0 ∨ d = 1 ∨ d = 2) with e | e | e
    · subst e; exact key 5 (by omega) (below0 l)
    · subst e; exact key 43 (by omega) (below1 l)
    · subst e; exact key 309 (by omega) (below2 l)
  intro d
  induction d with
  | zero => intro hd; exact step 0 n hd fun e h => by cases h
  | succ d ih =>
    intro hd
    have h1 := ih (by omega)
    have e : n + 3 + d = (n + 1 + d) + 2 := by omega
    rw [e] at h1
    have := step (d + 1) (n + 1 + d) hd fun e h => by cases h; exact h1
    rw [show n + 3 + (d + 1) = n + 1 + d + 2 + 1 by omega]
    exact this

end Go.Proofs.Ytpgmeigheilanaa
