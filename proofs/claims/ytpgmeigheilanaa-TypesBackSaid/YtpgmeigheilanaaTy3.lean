import Derived.Test.YtpgmeigheilanaaTy2
namespace Go.Proofs.Ytpgmeigheilanaa
set_option linter.unusedSimpArgs false
set_option linter.unusedVariables false
open Go.Am
set_option maxRecDepth 100000

def FirstCall (call : CallF) (N : Nat) : Prop := ∀ (t : Y) (rest : List UInt8) (h : Heap), goodY t → (textY t).length ≤ N → ends rest → asc rest → (textY t ++ rest).length < 1000000 →
  call 24 [sv (textY t ++ rest)] h = some (iv ((textY t).length : Int), h)

def rowP (ps : List Y) : AV := if ps = [] then .lit (.slice none 0 0) else .isl 1 false (ps.map fun t => sv (textY t))

def ParamsCall (call : CallF) (N : Nat) : Prop := ∀ (ps : List Y) (rest : List UInt8) (h : Heap), ps.length ≤ 6 → goodYs ps → (joinY ps).length ≤ N → asc rest → (40 :: (joinY ps ++ 41 :: rest)).length < 1000000 →
  call 22 [sv (40 :: (joinY ps ++ 41 :: rest))] h = some (.tup [rowP ps, iv (((joinY ps).length + 2 : Nat) : Int)], h)

theorem close_at (call : CallF) (h : Heap) (rest X : List UInt8) (k R : Nat) (hR : k + 1 < R) (hl : (List.replicate k 91 ++ (X ++ (List.replicate k 93 ++ rest))).length < 1000000) :
    S24_0g call R 0 (sv (List.replicate k 91 ++ (X ++ (List.replicate k 93 ++ rest)))) (iv ((k + X.length : Nat) : Int)) (iv k) h = some (iv ((k + X.length + k : Nat) : Int), h) ∧
    S24_4 call (S24_0g call R) (sv (List.replicate k 91 ++ (X ++ (List.replicate k 93 ++ rest)))) (iv ((k + X.length : Nat) : Int)) (iv k) h = some (iv ((k + X.length + k : Nat) : Int), h) := by
  have e : List.replicate k (91 : UInt8) ++ (X ++ (List.replicate k 93 ++ rest)) = (List.replicate k 91 ++ X) ++ (List.replicate k 93 ++ rest) := by simp
  have el : k + X.length = (List.replicate k (91 : UInt8) ++ X).length := by simp
  rw [e] at hl ⊢
  rw [el]
  obtain ⟨r, rfl⟩ : ∃ r, R = r + 1 := ⟨R - 1, by omega⟩
  refine ⟨?_, close_ok call h rest k (r + 1) _ (by omega) hl⟩
  rw [close_rounds]
  exact close_ok call h rest k r _ (by omega) hl

theorem word_ok {call : CallF} (L : LeafCall call) (m k : Nat) (rest : List UInt8) (h : Heap) (he : ends rest) (ha : asc rest) (hl : (List.replicate k 91 ++ (atomY m ++ (List.replicate k 93 ++ rest))).length < 1000000) :
    S24_15 call (sv (List.replicate k 91 ++ (atomY m ++ (List.replicate k 93 ++ rest)))) (iv k) (iv k) h = some (iv ((k + (atomY m).length + k : Nat) : Int), h) := by
  have hl' := hl
  simp only [List.length_append, List.length_replicate] at hl'
  obtain ⟨p1, p2⟩ := atom_len m
  have hc : S24_10 call (sv (List.replicate k 91 ++ (atomY m ++ (List.replicate k 93 ++ rest)))) (iv ((k + (atomY m).length : Nat) : Int)) (iv k) h = some (iv ((k + (atomY m).length + k : Nat) : Int), h) := by
    rw [close_first]
    exact (close_at call h rest (atomY m) k rounds (by simp only [rounds]; omega) hl).2
  have ed : (List.replicate k (91 : UInt8) ++ (atomY m ++ (List.replicate k 93 ++ rest))).drop k = atomY m ++ (List.replicate k 93 ++ rest) := by
    rw [List.drop_append_of_le_length (by simp)]; simp
  have e93 : asc (List.replicate k 93 ++ rest) := by
    refine asc.append (fun b hb => ?_) ha
    rw [List.eq_of_mem_replicate hb]; decide
  have h13 : S24_13 call (sv (List.replicate k 91 ++ (atomY m ++ (List.replicate k 93 ++ rest)))) (iv k) (iv k) (iv ((atomY m).length : Int)) h = some (iv ((k + (atomY m).length + k : Nat) : Int), h) := by
    have ew : fastWrap .i64 ((k : Int) + ((atomY m).length : Int)) = ((k + (atomY m).length : Nat) : Int) := by rw [wrap64 (by omega) (by omega)]; omega
    have ct := cut_str (l := List.replicate k (91 : UInt8) ++ (atomY m ++ (List.replicate k 93 ++ rest))) (k := .i64) (k' := .i64) (a := (k : Int)) (b := ((k + (atomY m).length : Nat) : Int)) (by omega) (by omega) (by simp only [List.length_append, List.length_replicate]; omega)
    simp only [Int.toNat_natCast, ed] at ct
    rw [show k + (atomY m).length - k = (atomY m).length by omega, List.take_left'] at ct
    · obtain ⟨a, b, n1⟩ := L.named m h
      have h11 : S24_11 call (sv (List.replicate k 91 ++ (atomY m ++ (List.replicate k 93 ++ rest)))) (iv k) (iv k) (iv ((atomY m).length : Int)) h = some (iv ((k + (atomY m).length + k : Nat) : Int), h) := by
        simp only [S24_11, fb_add, opt_s, ew, hc]
      simp only [S24_13, fb_add, opt_s, ew, ct, S24_12, n1, opt2_s, extract_tup, List.getElem?_cons_zero, List.getElem?_cons_succ, not_b, test_b]
      by_cases hm : 2 ≤ m
      · simp only [hm, decide_true, Bool.not_true, Bool.false_eq_true, if_false, h11]
      · simp only [hm, decide_false, Bool.not_false, if_true, L.plain m h, opt2_s, not_b, opt_s, test_b, show m < 2 from by omega, decide_true, Bool.not_true, Bool.false_eq_true, if_false, h11]
    · rfl
  simp only [S24_15]
  rw [cut_from (by omega) (by simp only [List.length_append, List.length_replicate]; omega), opt_s, Int.toNat_natCast, ed, L.any _ _ (by simp only [List.length_append, List.length_replicate]; omega) ((atom_asc m).append e93), opt2_s, any_atom m (ends_rep k he)]
  simp only [S24_14]
  by_cases hr : List.replicate k (93 : UInt8) ++ rest = []
  · have hn : k + rest.length = 0 := by
      have := congrArg List.length hr
      simpa using this
    rw [if_pos hr]
    simp only [fb_lss, opt_s, test_b, show decide ((-1 : Int) < 0) = true from rfl, if_true, lenStr_s, fb_sub]
    have ew : fastWrap .i64 (((List.replicate k (91 : UInt8) ++ (atomY m ++ (List.replicate k 93 ++ rest))).length : Int) - (k : Int)) = ((atomY m).length : Int) := by
      rw [wrap64 (by omega) (by omega)]
      simp only [List.length_append, List.length_replicate]
      omega
    rw [ew]
    exact h13
  · rw [if_neg hr]
    simp only [fb_lss, opt_s, test_b, decide_eq_true_eq]
    rw [if_neg (by omega)]
    exact h13

theorem fn_ok {call : CallF} {N : Nat} (F : FirstCall call N) (P : ParamsCall call N) (ps : List Y) (r : Y) (k : Nat) (rest : List UInt8) (h : Heap) (hg : goodY (.fn ps r)) (hN : (textY (.fn ps r)).length ≤ N + 1) (he : ends rest) (ha : asc rest)
    (hl : (List.replicate k 91 ++ (textY (.fn ps r) ++ (List.replicate k 93 ++ rest))).length < 1000000) :
    S24_16 call (sv (List.replicate k 91 ++ (textY (.fn ps r) ++ (List.replicate k 93 ++ rest)))) (iv k) (iv k) (.lit (.bool true)) h = some (iv ((k + (textY (.fn ps r)).length + k : Nat) : Int), h) := by
  have hl' := hl
  simp only [List.length_append, List.length_replicate] at hl'
  have hlen : (textY (.fn ps r)).length = (joinY ps).length + (textY r).length + 2 := by simp [textY]; omega
  have hc := (close_at call h rest (textY (.fn ps r)) k rounds (by simp only [rounds]; omega) hl).1
  have ed : (List.replicate k (91 : UInt8) ++ (textY (.fn ps r) ++ (List.replicate k 93 ++ rest))).drop k = 40 :: (joinY ps ++ 41 :: (textY r ++ (List.replicate k 93 ++ rest))) := by
    rw [List.drop_append_of_le_length (by simp)]; simp [textY]
  have e93 : asc (List.replicate k 93 ++ rest) := by
    refine asc.append (fun b hb => ?_) ha
    rw [List.eq_of_mem_replicate hb]; decide
  have ed2 : (List.replicate k (91 : UInt8) ++ (textY (.fn ps r) ++ (List.replicate k 93 ++ rest))).drop (k + ((joinY ps).length + 2)) = textY r ++ (List.replicate k 93 ++ rest) := by
    rw [← List.drop_drop, ed, show (40 :: (joinY ps ++ 41 :: (textY r ++ (List.replicate k 93 ++ rest))) : List UInt8) = (40 :: (joinY ps ++ [41])) ++ (textY r ++ (List.replicate k 93 ++ rest)) from by simp]
    rw [List.drop_left' (by simp)]
  simp only [goodY] at hg
  obtain ⟨g1, g2, g3⟩ := hg
  have p1 := P ps (textY r ++ (List.replicate k 93 ++ rest)) h g1 g2 (by omega) ((text_asc r).append e93) (by rw [← ed, List.length_drop]; omega)
  have f1 := F r (List.replicate k 93 ++ rest) h g3 (by omega) (ends_rep k he) e93 (by rw [← ed2, List.length_drop]; omega)
  have hp := text_pos r
  have w1 : fastWrap .i64 ((k : Int) + (((joinY ps).length + 2 : Nat) : Int)) = ((k + ((joinY ps).length + 2) : Nat) : Int) := by rw [wrap64 (by omega) (by omega)]; omega
  have w2 : fastWrap .i64 ((((joinY ps).length + 2 : Nat) : Int) + ((textY r).length : Int)) = (((joinY ps).length + 2 + (textY r).length : Nat) : Int) := by rw [wrap64 (by omega) (by omega)]; omega
  have w3 : fastWrap .i64 ((k : Int) + (((joinY ps).length + 2 + (textY r).length : Nat) : Int)) = ((k + (textY (.fn ps r)).length : Nat) : Int) := by rw [wrap64 (by omega) (by omega)]; omega
  simp only [S24_16, test_b, if_true]
  rw [cut_from (by omega) (by simp only [List.length_append, List.length_replicate]; omega), opt_s, Int.toNat_natCast, ed, p1]
  simp only [opt2_s, extract_tup, List.getElem?_cons_zero, List.getElem?_cons_succ, opt_s, fb_eql, test_b, fb_add, w1]
  rw [show decide ((((joinY ps).length + 2 : Nat) : Int) = 0) = false from decide_eq_false (by omega)]
  simp only [Bool.false_eq_true, if_false]
  rw [cut_from (by omega) (by simp only [List.length_append, List.length_replicate]; omega), opt_s, Int.toNat_natCast, ed2, f1]
  simp only [opt2_s, fb_eql, opt_s, test_b, fb_add, w2, w3]
  rw [show decide (((textY r).length : Int) = 0) = false from decide_eq_false (by omega)]
  simp only [Bool.false_eq_true, if_false]
  exact hc

theorem F24_ok {call : CallF} (L : LeafCall call) {N : Nat} (F : FirstCall call N) (P : ParamsCall call N) (t : Y) (rest : List UInt8) (h : Heap) (hg : goodY t) (hN : (textY t).length ≤ N + 1) (he : ends rest) (ha : asc rest) (hl : (textY t ++ rest).length < 1000000) :
    F24 call (sv (textY t ++ rest)) h = some (iv ((textY t).length : Int), h) := by
  obtain ⟨k, c, rfl, hc⟩ := core_arr t
  have g := good_arrN hg
  rw [text_arrN] at hN hl ⊢
  have e : (List.replicate k (91 : UInt8) ++ (textY c ++ List.replicate k 93)) ++ rest = List.replicate k 91 ++ (textY c ++ (List.replicate k 93 ++ rest)) := by simp
  rw [e] at hl ⊢
  have hl' := hl
  simp only [List.length_append, List.length_replicate] at hl' hN
  have elen : ((List.replicate k (91 : UInt8) ++ (textY c ++ List.replicate k 93)).length : Int) = ((k + (textY c).length + k : Nat) : Int) := by simp; omega
  rw [elen]
  obtain ⟨b, l, hb, hne, hiff⟩ := core_head hc
  have eb : List.replicate k (91 : UInt8) ++ (textY c ++ (List.replicate k 93 ++ rest)) = List.replicate k 91 ++ b :: (l ++ (List.replicate k 93 ++ rest)) := by rw [hb]; simp
  have ho := open_ok call h hne (l ++ (List.replicate k 93 ++ rest)) k rounds 0 (by simp only [rounds]; omega) (by simpa [← eb] using hl)
  simp only [List.replicate_zero, List.nil_append, ← eb, Nat.zero_add] at ho
  simp only [F24, S24_23, S24_22]
  rw [show (0 : Int) = ((0 : Nat) : Int) from rfl, ho]
  have hg0 : (List.replicate k (91 : UInt8) ++ (textY c ++ (List.replicate k 93 ++ rest)))[k]? = some b := by
    rw [eb, List.getElem?_append_right (by simp)]; simp
  have hpos := text_pos c
  simp only [S24_18, S24_17, lenStr_s, opt_s, fb_lss, test_b, decide_eq_true_eq]
  rw [if_pos (by simp only [List.length_append, List.length_replicate]; omega), ix_str (by omega), Int.toNat_natCast, hg0]
  simp only [Option.map_some, opt_s, fb_eql]
  by_cases h40 : b = 40
  · obtain ⟨ps, r, rfl⟩ := hiff.1 h40
    subst h40
    rw [show decide (((40 : UInt8).toNat : Int) = 40) = true from rfl]
    exact fn_ok F P ps r k rest h g (by omega) he ha hl
  · have hn : decide ((b.toNat : Int) = 40) = false := decide_eq_false fun e => h40 (by
      apply UInt8.toNat_inj.1
      have : b.toNat = 40 := by omega
      rw [this]; decide)
    rw [hn]
    simp only [S24_16, test_b, Bool.false_eq_true, if_false]
    cases c with
    | atom m => simp only [textY] at hl ⊢; exact word_ok L m k rest h he ha hl
    | arr t => exact absurd hc id
    | fn ps r => exact absurd (hiff.2 ⟨ps, r, rfl⟩) h40

end Go.Proofs.Ytpgmeigheilanaa
