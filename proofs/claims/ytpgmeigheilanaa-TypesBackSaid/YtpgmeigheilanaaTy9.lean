import Derived.Test.YtpgmeigheilanaaTy8
namespace Go.Proofs.Ytpgmeigheilanaa
set_option linter.unusedSimpArgs false
set_option linter.unusedVariables false
open Go.Am Go.RowKit
set_option maxRecDepth 100000

/-! ### Parts, Same; TypesBack -/

theorem clone_two {call : CallF} (a b : AV) : ∃ v H, F23 call (.isl 1 false [a, b]) [] = some (v, H) ∧ OwnS H v 1 [a, b] (some 0) :=
  ⟨.sl 0 0 2 false, [.arr ⟨1, true, false, [a, b]⟩], rfl, rfl, rfl⟩

def two (a b : Y) : AV := .isl 1 false (rowS [a, b])

theorem snaps_two (a b : Y) (h : Heap) : snap1 h (two a b) = some (two a b, []) := by simp [two, snap1, snapCell, freeCell]

theorem HasTypes.clone {E : SEnv} (H : HasTypes E) (n : Nat) (a b : Y) (h : Heap) : scall E (n + 1) 23 [two a b] h = some (two a b, h) := by
  obtain ⟨v, K, r1, r2⟩ := clone_two (call := scall E n) (sv (textY a)) (sv (textY b))
  obtain ⟨ids, hs⟩ := r2.snap (rowS_free [a, b])
  refine alone_call (n := n) H.p23 H.f23 (by simp only [snaps, snaps_two, List.append_nil]) (r0 := v) (hc := K) r1 ⟨ids, ?_⟩
  have hv : v = .sl 0 0 [sv (textY a), sv (textY b)].length false := r2.1
  subst hv
  exact hs

structure PartsNeeds (call : CallF) : Prop where
  right : ∀ t h, goodY t → call 14 [sv (textY t)] h = some (.lit (.bool (decide ((textY t).length ≤ 200))), h)
  params : ParamsCall call 200
  clone : ∀ a b h, call 23 [two a b] h = some (two a b, h)

def partsA (a b r : Y) : AV := .tup [two a b, sv (textY r), .lit (.bool true)]

theorem fn_text (a b r : Y) : textY (.fn [a, b] r) = 40 :: (joinY [a, b] ++ 41 :: textY r) := by simp only [textY]

theorem F11_ok {call : CallF} (C : PartsNeeds call) {a b r : Y} (ga : goodY a) (gb : goodY b) (gr : goodY r) (hl : (textY (.fn [a, b] r)).length ≤ 200) : ∃ h', F11 call (sv (textY (.fn [a, b] r))) [] = some (partsA a b r, h') := by
  have gf : goodY (.fn [a, b] r) := by simp only [goodY, goodYs]; exact ⟨by simp, ⟨ga, gb, trivial⟩, gr⟩
  have e := fn_text a b r
  have el : (textY (.fn [a, b] r)).length = (joinY [a, b]).length + (textY r).length + 2 := by rw [e]; simp; omega
  have h40 : ((40 : UInt8).toNat : Int) = 40 := rfl
  have p1 := C.params [a, b] (textY r) [] (by simp) (by simp only [goodYs]; exact ⟨ga, gb, trivial⟩) (by omega) (text_asc r) (by rw [← e]; omega)
  have erow : rowP [a, b] = two a b := rfl
  rw [erow, ← e] at p1
  have ct : fastCut (sv (textY (.fn [a, b] r))) (some (iv (((joinY [a, b]).length + 2 : Nat) : Int))) none none = some (sv (textY r)) := by
    rw [cut_from (by omega) (by omega), Int.toNat_natCast, e]
    have : (40 :: (joinY [a, b] ++ 41 :: textY r) : List UInt8) = (40 :: (joinY [a, b] ++ [41])) ++ textY r := by simp
    rw [this, List.drop_left' (by simp)]
  have hd : (textY (.fn [a, b] r))[(0 : Int).toNat]? = some 40 := by rw [e]; rfl
  simp only [F11, S11_2, C.right _ _ gf, opt2_s, hl, decide_true, not_b, opt_s, test_b, Bool.not_true, Bool.false_eq_true, if_false]
  rw [ix_str (by omega), hd]
  simp only [Option.map_some, opt_s, fb_neq, h40, ne_eq, not_true_eq_false, decide_false, S11_1, test_b, Bool.false_eq_true, if_false, S11_0, p1, opt2_s, extract_tup, List.getElem?_cons_zero, List.getElem?_cons_succ, C.clone, eqH_s, ct]
  exact ⟨_, rfl⟩

theorem same_loop {call : CallF} (ks : List Y) (hk : ks.length ≤ 1000) (f1 f2 : Bool) (h : Heap) : ∀ (k j : Nat), j ≤ ks.length → ks.length - j < k → S13_1l call k (.isl 1 f1 (rowS ks)) (.isl 1 f2 (rowS ks)) (iv j) h = some (.lit (.bool true), h) := by
  intro k
  induction k with
  | zero => intro j _ hk; omega
  | succ k ih =>
    intro j hj hk2
    show S13_2b call (S13_1l call k) _ _ _ h = _
    have es : (rowS ks).length = ks.length := by simp [rowS]
    simp only [S13_2b, lenS_isl, es, opt_s, fb_lss, test_b, decide_eq_true_eq]
    by_cases hlt : j < ks.length
    · obtain ⟨t, ht⟩ : ∃ t, ks[j]? = some t := ⟨ks[j], List.getElem?_eq_getElem hlt⟩
      have hg : (rowS ks)[j]? = some (sv (textY t)) := by simp [rowS, ht]
      rw [if_pos (by omega), ixa_isl (Int.natCast_nonneg _), Int.toNat_natCast, hg]
      simp only [Option.map_some, opt_s, eqH_s]
      rw [show loadX none (.iptr (sv (textY t)) 0) h = some (sv (textY t)) from rfl]
      simp only [opt_s, eqH_s]
      rw [ixa_isl (Int.natCast_nonneg _), Int.toNat_natCast, hg]
      simp only [Option.map_some, opt_s, eqH_s]
      rw [show loadX none (.iptr (sv (textY t)) 0) h = some (sv (textY t)) from rfl]
      simp only [opt_s, eqH_s, fb_neqs, ne_eq, not_true_eq_false, decide_false, test_b, Bool.false_eq_true, if_false, fb_add]
      rw [wrap64 (by omega) (by omega)]
      exact ih (j + 1) (by omega) (by omega)
    · rw [if_neg (by omega)]
      rfl

theorem F13_ok {call : CallF} (ks : List Y) (hk : ks.length ≤ 1000) (f1 f2 : Bool) (h : Heap) : F13 call (.isl 1 f1 (rowS ks)) (.isl 1 f2 (rowS ks)) h = some (.lit (.bool true), h) := by
  have es : (rowS ks).length = ks.length := by simp [rowS]
  simp only [F13, S13_5, lenS_isl, es, opt_s, fb_neq, ne_eq, not_true_eq_false, decide_false, test_b, Bool.false_eq_true, if_false, S13_4, S13_3]
  exact same_loop ks hk f1 f2 h rounds 0 (by omega) (by simp only [rounds]; omega)

theorem HasTypes.same {E : SEnv} (H : HasTypes E) (n : Nat) (a b : Y) {h : Heap} {v : AV} {id : Nat} (w : OwnS h v 1 (rowS [a, b]) (some id)) : scall E (n + 1) 13 [v, two a b] h = some (.lit (.bool true), h) := by
  obtain ⟨ids, hs⟩ := w.snap (rowS_free [a, b])
  have hs2 : snaps h [v, two a b] = some ([two a b, two a b], ids) := by
    simp only [snaps, snaps_two, List.append_nil]
    rw [show snap1 h v = _ from hs]
    simp only [List.append_nil]
    rfl
  exact alone_call2 (n := n) H.p13 H.f13 hs2 (F13_ok (call := scall E n) [a, b] (by simp) false false []) ⟨[], rfl⟩ rfl

theorem HasTypes.parts {E : SEnv} (H : HasTypes E) (n : Nat) {a b r : Y} (ga : goodY a) (gb : goodY b) (gr : goodY r) (hl : (textY (.fn [a, b] r)).length ≤ 200) (h : Heap) : scall E (n + 404) 11 [sv (textY (.fn [a, b] r))] h = some (partsA a b r, h) := by
  have C : PartsNeeds (scall E (n + 403)) := ⟨fun t h hg => H.right n hg h, (H.both 200 (n + 400) (by omega)).2, fun a b h => H.clone (n + 402) a b h⟩
  obtain ⟨h', r1⟩ := F11_ok C ga gb gr hl
  refine alone_call (n := n + 403) H.p11 H.f11 rfl r1 ⟨[], ?_⟩
  simp only [partsA, snapR, snaps, snaps_two, snap1_lit, Option.map_some, List.append_nil]

/-! the law -/

structure BackCall (call : CallF) (l : List Int) (fl : Bool) : Prop where
  made : MadeCall call l fl 2 (madeY l 2)
  func : FuncCall call
  array : ArrayCall call
  right : ∀ t h, goodY t → call 14 [sv (textY t)] h = some (.lit (.bool (decide ((textY t).length ≤ 200))), h)
  elArr : ∀ u h, goodY u → call 12 [sv (textY (.arr u))] h = some (elemA (decide ((textY (.arr u)).length ≤ 200)) (textY u), h)
  elCore : ∀ t h, coreY t → goodY t → call 12 [sv (textY t)] h = some (elemA false [], h)
  parts : ∀ a b r h, goodY a → goodY b → goodY r → (textY (.fn [a, b] r)).length ≤ 200 → call 11 [sv (textY (.fn [a, b] r))] h = some (partsA a b r, h)
  same : ∀ a b h v id, OwnS h v 1 (rowS [a, b]) (some id) → call 13 [v, two a b] h = some (.lit (.bool true), h)
  known : ∀ h, call 10 [] h = some (.lit (.bool true), h)

theorem back_end {call : CallF} {l : List Int} {fl : Bool} (L : BackCall call l fl) {a b r : Y} (ga : goodY a) (gb : goodY b) (gr : goodY r) {h : Heap} {v : AV} {id : Nat} (w : OwnS h v 1 (rowS [a, b]) (some id)) :
    S3_2 call v (sv (textY r)) (sv (textY (.fn [a, b] r))) (sv (textY (.arr r))) h = some (.lit (.bool true), h) := by
  have gf : goodY (.fn [a, b] r) := by simp only [goodY, goodYs]; exact ⟨by simp, ⟨ga, gb, trivial⟩, gr⟩
  have gar : goodY (.arr r) := by simpa only [goodY] using gr
  simp only [S3_2, lenStr_s, opt_s, fb_gtr, test_b, decide_eq_true_eq, clt2]
  by_cases h1 : 200 < (textY (.fn [a, b] r)).length
  · rw [if_pos h1]
    simp only [S3_1, test_b, if_true, L.known, opt2_s]
  rw [if_neg h1]
  by_cases h2 : 200 < (textY (.arr r)).length
  · simp only [h2, decide_true, S3_1, test_b, if_true, L.known, opt2_s]
  have p1 := L.parts a b r h ga gb gr (by omega)
  have e1 := L.elArr r h gr
  have e2 := L.elCore (.fn [a, b] r) h trivial gf
  have r1 := L.right (.fn [a, b] r) h gf
  have r2 := L.right (.arr r) h gar
  have s1 := L.same a b h v id w
  have c1 : (textY (.arr r)).length ≤ 200 := by omega
  have c2 : (textY (.fn [a, b] r)).length ≤ 200 := by omega
  simp only [h2, decide_false, S3_1, test_b, Bool.false_eq_true, if_false, S3_0, p1, opt2_s, partsA, extract_tup, List.getElem?_cons_zero, List.getElem?_cons_succ, opt_s, e1, elemA, c1, decide_true, e2, if_true, s1, fb_eqls, not_b, Bool.not_false, r1, r2, c2, L.known]

theorem F3_ok {call : CallF} {l : List Int} {fl : Bool} (L : BackCall call l fl) : ∃ h', F3 call (il fl l) [] = some (.lit (.bool true), h') := by
  have bx : box (.lit (.int .i64 0)) [] = some (.ptr 0 0 0, [intBox 0]) := box_lit [] rfl
  have st : storeX 1 (.ptr 0 0 0) (.lit (.int .i64 0)) [intBox 0] = some [intBox 0] := store_int (n := 0) (m := 0) rfl
  have hp0 : ([intBox 0] : Heap)[0]? = some (intBox 0) := rfl
  have hb0 : HB [intBox 0] := by intro x hx; rw [List.mem_singleton] at hx; subst hx; rfl
  have good : ∀ q, goodY (madeY l 2 q).1 := fun q => (madeY_ok l 2 q).good
  have le : ∀ {q}, q ≤ l.length → (madeY l 2 q).2 ≤ l.length := fun h => madeY_le l 2 h
  have len : ∀ q, (textY (madeY l 2 q).1).length ≤ 2171 := (below3 l).len
  have m0 : MLoop [intBox 0] 0 [intBox 0] (.lit (.slice none 0 0)) [] 0 := ⟨hb0, Nat.le_refl _, (MadeR.same (s := []) hp0).frame, none, ⟨rfl, rfl⟩, fun id e => by cases e⟩
  -- a round of the loop
  have round : ∀ (k : Nat) (j : Nat) (H : Heap) (v : AV) (ks : List Y) (q : Nat), j < 2 → ks.length ≤ 10 → MLoop [intBox 0] 0 H v ks q → q ≤ l.length →
      ∃ v' H', S3_6l call (k + 1) (il fl l) (.ptr 0 0 0) v (iv j) H = S3_6l call k (il fl l) (.ptr 0 0 0) v' (iv ((j + 1 : Nat) : Int)) H' ∧ MLoop [intBox 0] 0 H' v' (ks ++ [(madeY l 2 q).1]) (madeY l 2 q).2 := by
    intro k j H v ks q hj hks m hq
    have hHp : H[0]? = some (intBox q) := by rw [m.frame 0 (by simp), get_set_self hp0]
    have c1 := L.made H 0 q m.bel hHp hq
    rw [show ((2 : Nat) : Int) = 2 from rfl] at c1
    have bs := bslice_one (sz := 1) (z := sv []) (t := sv (textY (madeY l 2 q).1)) (h := H.set 0 (intBox (madeY l 2 q).2)) rfl rfl rfl
    obtain ⟨v', H', ap, m2⟩ := m.push (q' := (madeY l 2 q).2) hp0 hks (madeY l 2 q).1
    refine ⟨v', H', ?_, m2⟩
    show S3_7b call (S3_6l call k) _ _ _ _ H = _
    simp only [S3_7b, fb_lss, opt_s, test_b, decide_eq_true_eq]
    rw [if_pos (by omega)]
    simp only [c1, opt2_s, bs]
    rw [show (reElem (cellsOf (sv (textY (madeY l 2 q).1)))) = sv (textY (madeY l 2 q).1) from rfl, ap]
    simp only [opt2_s, fb_add, opt_s]
    rw [wrap64 (by omega) (by omega)]
    rfl
  obtain ⟨R, hR⟩ : ∃ R, rounds = R + 1 + 1 + 1 := ⟨rounds - 3, by simp only [rounds]⟩
  obtain ⟨v1, H1, a1, m1⟩ := round (R + 1 + 1) 0 [intBox 0] (.lit (.slice none 0 0)) [] 0 (by omega) (by simp) m0 (Nat.zero_le _)
  have q1 := le (Nat.zero_le l.length)
  obtain ⟨v2, H2, a2, m2⟩ := round (R + 1) 1 H1 v1 _ _ (by omega) (by simp) m1 q1
  have q2 := le q1
  simp only [F3, S3_11, bx, opt2_s, st, optH_s, S3_10, S3_9, S3_8, hR]
  rw [show (0 : Int) = ((0 : Nat) : Int) from rfl, a1, a2]
  simp only [List.nil_append, List.cons_append] at m2
  generalize hA : (madeY l 2 0).1 = A at m2
  generalize hB : (madeY l 2 (madeY l 2 0).2).1 = B at m2
  generalize hq : (madeY l 2 (madeY l 2 0).2).2 = q at m2 q2
  have gA : goodY A := hA ▸ good 0
  have gB : goodY B := hB ▸ good _
  have lA : (textY A).length ≤ 2171 := hA ▸ len 0
  have lB : (textY B).length ≤ 2171 := hB ▸ len _
  show ∃ h', S3_7b call (S3_6l call R) _ _ _ _ H2 = _
  simp only [S3_7b, fb_lss, opt_s, test_b, decide_eq_true_eq]
  rw [if_neg (by decide)]
  have hHp : H2[0]? = some (intBox q) := by rw [m2.frame 0 (by simp), get_set_self hp0]
  have c3 := L.made H2 0 q m2.bel hHp q2
  rw [show ((2 : Nat) : Int) = 2 from rfl] at c3
  have gR := good q
  have lR := len q
  obtain ⟨o, w, ho⟩ := m2.own
  have w2 : OwnS (H2.set 0 (intBox (madeY l 2 q).2)) v2 1 (rowS [A, B]) o := own_mono w fun id e => get_set_ne (by have := ho id e; simp only [List.length_cons, List.length_nil] at this; omega)
  generalize (madeY l 2 q).1 = r at c3 gR lR
  generalize H2.set 0 (intBox (madeY l 2 q).2) = K at c3 w2
  have hj := join_len (B := 2171) [A, B] (by
    intro t ht
    simp only [List.mem_cons, List.not_mem_nil, or_false] at ht
    rcases ht with rfl | rfl <;> assumption)
  simp only [List.length_cons, List.length_nil] at hj
  have fc := L.func K v2 [A, B] o (textY r) w2 (by omega) (by simp) (by omega)
  have ar := L.array (textY r) K (by omega)
  have ef : (40 :: (joinY [A, B] ++ 41 :: textY r) : List UInt8) = textY (.fn [A, B] r) := (fn_text A B r).symm
  have ea : (91 :: (textY r ++ [93]) : List UInt8) = textY (.arr r) := by simp only [textY]
  rw [ef] at fc
  rw [ea] at ar
  obtain ⟨id, rfl⟩ : ∃ id, o = some id := by
    cases o with
    | none => obtain ⟨_, e⟩ := w2; simp [rowS] at e
    | some id => exact ⟨id, rfl⟩
  simp only [S3_5, c3, opt2_s, S3_4, fc, S3_3, ar]
  exact ⟨_, back_end L gA gB gR w2⟩

end Go.Proofs.Ytpgmeigheilanaa
