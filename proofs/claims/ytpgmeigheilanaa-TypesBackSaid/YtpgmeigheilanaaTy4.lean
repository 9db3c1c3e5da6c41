import Derived.Test.YtpgmeigheilanaaTy3
namespace Go.Proofs.Ytpgmeigheilanaa
set_option linter.unusedSimpArgs false
set_option linter.unusedVariables false
open Go.Am
set_option maxRecDepth 100000

/-! ### types.params -/

theorem params_first (call : CallF) (t0 t4 t5 : AV) (h : Heap) : S22_11 call t0 t4 t5 h = S22_5 call (S22_0g call rounds) t0 t4 t5 h := by
  simp only [S22_11, S22_10, S22_9, S22_8, S22_7, S22_5, S22_4, S22_3, S22_2, S22_1]

theorem params_rounds (call : CallF) (t0 t4 t5 : AV) (h : Heap) {k : Nat} : S22_0g call (k + 1) 0 t0 t4 t5 h = S22_5 call (S22_0g call k) t0 t4 t5 h := nr rfl

def rowS (ps : List Y) : List AV := ps.map fun t => sv (textY t)

theorem tail_ends (ts : List Y) (rest : List UInt8) : ends (tailY ts ++ 41 :: rest) := by
  cases ts with
  | nil => simp only [tailY, List.nil_append]; exact .inr (.inl rfl)
  | cons t ts => simp only [tailY, List.cons_append]; exact .inr (.inr rfl)

theorem params_step {call : CallF} (r0 : Nat → AV → AV → AV → Heap → Res) (pre A tl : List UInt8) (c : UInt8) (H : Heap) (v : AV) (ds : List AV) (o : Option Nat) (w : OwnS H v 1 ds o) (hd : ds.length ≤ 5) (hA : 0 < A.length)
    (hl : pre.length + (A.length + (tl.length + 1)) < 1000000) (f1 : call 24 [sv (A ++ c :: tl)] H = some (iv (A.length : Int), H)) :
    S22_5 call r0 (sv (pre ++ (A ++ c :: tl))) v (iv pre.length) H =
      if (c.toNat : Int) = 44 then r0 0 (sv (pre ++ (A ++ c :: tl))) (.sl H.length 0 (ds ++ [sv A]).length false) (iv ((pre.length + A.length + 1 : Nat) : Int)) (kill H o ++ [.arr ⟨1, true, false, ds ++ [sv A]⟩])
      else if (c.toNat : Int) = 41 then some (.tup [.sl H.length 0 (ds ++ [sv A]).length false, iv ((pre.length + A.length + 1 : Nat) : Int)], kill H o ++ [.arr ⟨1, true, false, ds ++ [sv A]⟩])
      else some (.tup [.lit (.slice none 0 0), iv 0], kill H o ++ [.arr ⟨1, true, false, ds ++ [sv A]⟩]) := by
  have hT : (pre ++ (A ++ c :: tl)).length = pre.length + (A.length + (tl.length + 1)) := by simp only [List.length_append, List.length_cons]
  have ed : (pre ++ (A ++ c :: tl)).drop pre.length = A ++ c :: tl := List.drop_left' rfl
  have ew : fastWrap .i64 ((pre.length : Int) + (A.length : Int)) = ((pre.length + A.length : Nat) : Int) := by rw [wrap64 (by omega) (by omega)]; omega
  have ew2 : fastWrap .i64 (((pre.length + A.length : Nat) : Int) + 1) = ((pre.length + A.length + 1 : Nat) : Int) := by rw [wrap64 (by omega) (by omega)]; omega
  have ct := cut_str (l := pre ++ (A ++ c :: tl)) (k := .i64) (k' := .i64) (a := (pre.length : Int)) (b := ((pre.length + A.length : Nat) : Int)) (by omega) (by omega) (by rw [hT]; omega)
  simp only [Int.toNat_natCast, ed] at ct
  rw [show pre.length + A.length - pre.length = A.length by omega, List.take_left' rfl] at ct
  have hix : (pre ++ (A ++ c :: tl))[pre.length + A.length]? = some c := by
    rw [List.getElem?_append_right (by omega), List.getElem?_append_right (by omega)]
    simp
  have bs := bslice_one (sz := 1) (z := sv []) (t := sv A) (h := H) rfl rfl rfl
  have ap := w.append (ys := [sv A]) (bytes := 16) (f := true) (by simp) (by simp only [List.length_singleton]; omega)
  have c0 : (pre.length : Int) < ((pre ++ (A ++ c :: tl)).length : Int) := by rw [hT]; omega
  have c1 : ¬ (((pre ++ (A ++ c :: tl)).length : Int) ≤ ((pre.length + A.length : Nat) : Int)) := by rw [hT]; omega
  have c2 : (pre.length : Int) ≤ ((pre ++ (A ++ c :: tl)).length : Int) := by omega
  have c3 : ¬ ((A.length : Int) = 0) := by omega
  have e1 : ds.length + [sv A].length = (ds ++ [sv A]).length := by simp
  rw [e1] at ap
  simp only [S22_5, S22_4, lenStr_s, opt_s, fb_lss, test_b, decide_eq_true_eq]
  rw [if_pos c0, cut_from (Int.natCast_nonneg _) c2, opt_s, Int.toNat_natCast, ed, f1, opt2_s]
  simp only [S22_3, fb_eql, opt_s, test_b, decide_eq_true_eq, fb_add, ew, lenStr_s, fb_geq, w.len]
  rw [if_neg c3, if_neg c1]
  rw [show decide ((ds.length : Int) = 6) = false from decide_eq_false (by omega)]
  simp only [S22_2, test_b, Bool.false_eq_true, if_false, S22_1, fb_add, opt_s, ew, ct, bs, opt2_s]
  rw [show (reElem (cellsOf (sv A))) = sv A from rfl, ap]
  simp only [opt2_s, ix_str (Int.natCast_nonneg _), Int.toNat_natCast, hix, Option.map_some, opt_s, fb_eql, test_b, decide_eq_true_eq, fb_add, ew2]

theorem params_loop {call : CallF} {N : Nat} (F : FirstCall call N) (rest : List UInt8) (ha : asc rest) : ∀ (ts : List Y) (t : Y) (k : Nat) (pre : List UInt8) (ds : List Y) (H : Heap) (v : AV) (o : Option Nat), OwnS H v 1 (rowS ds) o →
    ds.length + 1 + ts.length ≤ 6 → goodY t → goodYs ts → (textY t).length + (tailY ts).length ≤ N → pre.length + ((textY t).length + ((tailY ts).length + (rest.length + 1))) < 1000000 → ts.length < k →
    ∃ v' H' o', S22_5 call (S22_0g call k) (sv (pre ++ (textY t ++ (tailY ts ++ 41 :: rest)))) v (iv pre.length) H = some (.tup [v', iv ((pre.length + (textY t).length + (tailY ts).length + 1 : Nat) : Int)], H') ∧ OwnS H' v' 1 (rowS (ds ++ t :: ts)) (some o') := by
  intro ts
  induction ts with
  | nil =>
    intro t k pre ds H v o w hn hg hgs hN hl hk
    simp only [tailY, List.nil_append, List.length_nil] at hN hl hn ⊢
    have f1 := F t (41 :: rest) H hg (by omega) (.inr (.inl rfl)) (.cons (by decide) ha) (by rw [List.length_append, List.length_cons]; omega)
    have es : (rowS ds).length = ds.length := by simp [rowS]
    rw [params_step (S22_0g call k) pre (textY t) rest 41 H v (rowS ds) o w (by omega) (text_pos t) (by omega) f1]
    rw [if_neg (by decide), if_pos (by decide)]
    refine ⟨_, _, H.length, rfl, ?_⟩
    rw [show rowS (ds ++ [t]) = rowS ds ++ [sv (textY t)] from by simp [rowS]]
    exact OwnS.appended
  | cons u ts ih =>
    intro t k pre ds H v o w hn hg hgs hN hl hk
    obtain ⟨k, rfl⟩ : ∃ k', k = k' + 1 := ⟨k - 1, by simp only [List.length_cons] at hk; omega⟩
    have eT : tailY (u :: ts) = 44 :: (textY u ++ tailY ts) := by simp only [tailY]
    have lT : (tailY (u :: ts)).length = (textY u).length + (tailY ts).length + 1 := by rw [eT, List.length_cons, List.length_append]
    simp only [goodYs] at hgs
    have f1 := F t (44 :: (textY u ++ (tailY ts ++ 41 :: rest))) H hg (by omega) (.inr (.inr rfl)) (.cons (by decide) ((text_asc u).append ((tail_asc ts).append (.cons (by decide) ha)))) (by
      rw [List.length_append, List.length_cons, List.length_append, List.length_append, List.length_cons]; omega)
    have es : (rowS ds).length = ds.length := by simp [rowS]
    have e0 : (tailY (u :: ts) ++ 41 :: rest) = 44 :: (textY u ++ (tailY ts ++ 41 :: rest)) := by rw [eT]; simp
    have lr : (textY u ++ (tailY ts ++ 41 :: rest)).length = (textY u).length + ((tailY ts).length + (rest.length + 1)) := by rw [List.length_append, List.length_append, List.length_cons]
    rw [List.length_cons] at hn hk
    rw [e0, params_step (S22_0g call (k + 1)) pre (textY t) _ 44 H v (rowS ds) o w (by omega) (text_pos t) (by rw [lr]; omega) f1]
    rw [if_pos (by decide), params_rounds]
    have w2 : OwnS (kill H o ++ [.arr ⟨1, true, false, rowS ds ++ [sv (textY t)]⟩]) (.sl H.length 0 (rowS ds ++ [sv (textY t)]).length false) 1 (rowS (ds ++ [t])) (some H.length) := by
      rw [show rowS (ds ++ [t]) = rowS ds ++ [sv (textY t)] from by simp [rowS]]
      exact OwnS.appended
    have e : pre ++ (textY t ++ 44 :: (textY u ++ (tailY ts ++ 41 :: rest))) = (pre ++ (textY t ++ [44])) ++ (textY u ++ (tailY ts ++ 41 :: rest)) := by simp
    have el : (pre ++ (textY t ++ [44])).length = pre.length + (textY t).length + 1 := by simp; omega
    obtain ⟨v', H', o', r1, r2⟩ := ih u k (pre ++ (textY t ++ [44])) (ds ++ [t]) _ _ _ w2 (by simp only [List.length_append, List.length_singleton]; omega) hgs.1 hgs.2 (by omega) (by rw [el]; omega) (by omega)
    rw [← e, el] at r1
    refine ⟨v', H', o', ?_, by simpa using r2⟩
    rw [r1, lT]
    congr 6
    omega

theorem text_head (t : Y) : ∃ b l, textY t = b :: l ∧ b ≠ 41 := by
  cases t with
  | atom k =>
    simp only [textY]
    rcases atom_cases k with h | h | h | h | h <;> rw [h] <;> exact ⟨_, _, rfl, by decide⟩
  | arr t => exact ⟨91, textY t ++ [93], by simp only [textY], by decide⟩
  | fn ps r => exact ⟨40, joinY ps ++ 41 :: textY r, by simp only [textY], by decide⟩

theorem F22_ok {call : CallF} (L : LeafCall call) {N : Nat} (F : FirstCall call N) (ps : List Y) (rest : List UInt8) (h : Heap) (h6 : ps.length ≤ 6) (hg : goodYs ps) (hN : (joinY ps).length ≤ N) (ha : asc rest) (hl : (40 :: (joinY ps ++ 41 :: rest)).length < 1000000) :
    ∃ v H o, F22 call (sv (40 :: (joinY ps ++ 41 :: rest))) h = some (.tup [v, iv (((joinY ps).length + 2 : Nat) : Int)], H) ∧ OwnS H v 1 (rowS ps) o ∧ (o = none ↔ ps = []) := by
  have hpre := L.pre (40 :: (joinY ps ++ 41 :: rest)) h (by omega)
  simp only [F22, S22_15, S22_14, S22_13, hpre, opt2_s, test_b]
  cases ps with
  | nil =>
    simp only [joinY, List.nil_append, List.take_succ_cons, List.take_zero, decide_true, if_true]
    exact ⟨_, _, none, rfl, ⟨rfl, rfl⟩, by simp⟩
  | cons t ts =>
    obtain ⟨b, l, hb, hne⟩ := text_head t
    have hne2 : ¬ (List.take 2 (40 :: (joinY (t :: ts) ++ 41 :: rest)) = [40, 41]) := by
      simp only [joinY, hb, List.cons_append, List.take_succ_cons, List.take_zero]
      intro e
      exact hne (by simpa using e)
    simp only [hne2, decide_false, Bool.false_eq_true, if_false, S22_12, params_first]
    simp only [goodYs] at hg
    simp only [List.length_cons, joinY, List.length_append] at h6 hN hl
    have e : (40 :: (joinY (t :: ts) ++ 41 :: rest) : List UInt8) = [40] ++ (textY t ++ (tailY ts ++ 41 :: rest)) := by simp [joinY]
    obtain ⟨v', H', o', r1, r2⟩ := params_loop F rest ha ts t rounds [40] [] h (.lit (.slice none 0 0)) none ⟨rfl, rfl⟩ (by simp only [List.length_nil]; omega) hg.1 hg.2 hN (by rw [show ([40] : List UInt8).length = 1 from rfl]; omega) (by simp only [rounds]; omega)
    rw [← e] at r1
    refine ⟨v', H', some o', ?_, by simpa using r2, by simp⟩
    rw [show ((([40] : List UInt8).length : Nat) : Int) = 1 from rfl] at r1
    rw [r1]
    congr 6
    simp only [joinY, List.length_append, List.length_cons, List.length_nil]
    omega

end Go.Proofs.Ytpgmeigheilanaa
