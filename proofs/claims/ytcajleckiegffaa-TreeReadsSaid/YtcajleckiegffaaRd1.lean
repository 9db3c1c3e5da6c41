import Derived.Test.YtcajleckiegffaaLxA
import Derived.Test.YtcajleckiegffaaGTree2
set_option linter.unusedSectionVars false
namespace Go.Proofs.Ytcajleckiegffaa
set_option linter.unusedSimpArgs false
set_option linter.unusedVariables false
open Go.Am
set_option maxRecDepth 100000

/-! ### The document's own lexer (hawserref3.Split) answers as splitF -/

abbrev rv (s : List UInt8) : AV := .lit (.string ⟨⟨s⟩⟩)
abbrev ri (n : Int) : AV := .lit (.int .i64 n)
abbrev rb (c : UInt8) : AV := .lit (.int .u8 c.toNat)

def HexCall (call : CallF) : Prop := ∀ (c : UInt8) h, call 37 [rb c] h = some (ri (hexD c), h)

theorem F37_ok (call : CallF) (c : UInt8) (h : Heap) : F37 call (rb c) h = some (ri (hexD c), h) := by
  have hc := c.toNat_lt
  simp only [F37, S37_3, opt_s, opt_n, opt2_s, opt2_n, optH_s, test_b, eqK_s, eqH_s, fb_add, fb_sub, fb_mul, fb_eql, fb_neq, fb_lss, fb_leq, fb_gtr, fb_geq, fb_eqls, fb_neqs, not_b, pick_b, convI_i, lenStr_s, lenS_isl, lenS_sl, lenS_nil, extract_tup, decide_eq_true_eq, if_true, if_false, Bool.false_eq_true, decide_false, decide_true, Option.map_some, Option.map_none, ceq, clt1, clt2, cle1, cle2]
  unfold hexD
  by_cases h1 : 48 ≤ c.toNat
  · rw [if_pos h1]
    by_cases h2 : c.toNat ≤ 57
    · simp only [S37_2, opt_s, opt_n, opt2_s, opt2_n, optH_s, test_b, eqK_s, eqH_s, fb_add, fb_sub, fb_mul, fb_eql, fb_neq, fb_lss, fb_leq, fb_gtr, fb_geq, fb_eqls, fb_neqs, not_b, pick_b, convI_i, lenStr_s, lenS_isl, lenS_sl, lenS_nil, extract_tup, decide_eq_true_eq, if_true, if_false, Bool.false_eq_true, decide_false, decide_true, Option.map_some, Option.map_none, ceq, clt1, clt2, cle1, cle2, h2, h1]
      rw [wrap8 (by omega) (by omega), wrap64 (by omega) (by omega)]
      simp
    · simp only [S37_2, opt_s, opt_n, opt2_s, opt2_n, optH_s, test_b, eqK_s, eqH_s, fb_add, fb_sub, fb_mul, fb_eql, fb_neq, fb_lss, fb_leq, fb_gtr, fb_geq, fb_eqls, fb_neqs, not_b, pick_b, convI_i, lenStr_s, lenS_isl, lenS_sl, lenS_nil, extract_tup, decide_eq_true_eq, if_true, if_false, Bool.false_eq_true, decide_false, decide_true, Option.map_some, Option.map_none, ceq, clt1, clt2, cle1, cle2, h2, S37_1]
      by_cases h3 : 97 ≤ c.toNat
      · rw [if_pos h3]
        by_cases h4 : c.toNat ≤ 102
        · simp only [S37_0, opt_s, opt_n, opt2_s, opt2_n, optH_s, test_b, eqK_s, eqH_s, fb_add, fb_sub, fb_mul, fb_eql, fb_neq, fb_lss, fb_leq, fb_gtr, fb_geq, fb_eqls, fb_neqs, not_b, pick_b, convI_i, lenStr_s, lenS_isl, lenS_sl, lenS_nil, extract_tup, decide_eq_true_eq, if_true, if_false, Bool.false_eq_true, decide_false, decide_true, Option.map_some, Option.map_none, ceq, clt1, clt2, cle1, cle2, h4, h3, h1]
          rw [wrap8 (by omega) (by omega), wrap64 (n := (c.toNat : Int) - 97) (by omega) (by omega), wrap64 (by omega) (by omega)]
          simp
          omega
        · simp only [S37_0, opt_s, opt_n, opt2_s, opt2_n, optH_s, test_b, eqK_s, eqH_s, fb_add, fb_sub, fb_mul, fb_eql, fb_neq, fb_lss, fb_leq, fb_gtr, fb_geq, fb_eqls, fb_neqs, not_b, pick_b, convI_i, lenStr_s, lenS_isl, lenS_sl, lenS_nil, extract_tup, decide_eq_true_eq, if_true, if_false, Bool.false_eq_true, decide_false, decide_true, Option.map_some, Option.map_none, ceq, clt1, clt2, cle1, cle2, h4]
          simp
      · rw [if_neg h3]
        simp only [S37_0, opt_s, opt_n, opt2_s, opt2_n, optH_s, test_b, eqK_s, eqH_s, fb_add, fb_sub, fb_mul, fb_eql, fb_neq, fb_lss, fb_leq, fb_gtr, fb_geq, fb_eqls, fb_neqs, not_b, pick_b, convI_i, lenStr_s, lenS_isl, lenS_sl, lenS_nil, extract_tup, decide_eq_true_eq, if_true, if_false, Bool.false_eq_true, decide_false, decide_true, Option.map_some, Option.map_none, ceq, clt1, clt2, cle1, cle2]
        simp [h3]
  · rw [if_neg h1]
    simp only [S37_2, opt_s, opt_n, opt2_s, opt2_n, optH_s, test_b, eqK_s, eqH_s, fb_add, fb_sub, fb_mul, fb_eql, fb_neq, fb_lss, fb_leq, fb_gtr, fb_geq, fb_eqls, fb_neqs, not_b, pick_b, convI_i, lenStr_s, lenS_isl, lenS_sl, lenS_nil, extract_tup, decide_eq_true_eq, if_true, if_false, Bool.false_eq_true, decide_false, decide_true, Option.map_some, Option.map_none, ceq, clt1, clt2, cle1, cle2, S37_1]
    rw [if_neg (by omega)]
    simp only [S37_0, opt_s, opt_n, opt2_s, opt2_n, optH_s, test_b, eqK_s, eqH_s, fb_add, fb_sub, fb_mul, fb_eql, fb_neq, fb_lss, fb_leq, fb_gtr, fb_geq, fb_eqls, fb_neqs, not_b, pick_b, convI_i, lenStr_s, lenS_isl, lenS_sl, lenS_nil, extract_tup, decide_eq_true_eq, if_true, if_false, Bool.false_eq_true, decide_false, decide_true, Option.map_some, Option.map_none, ceq, clt1, clt2, cle1, cle2]
    simp [h1]
    omega

theorem F32_ok (call : CallF) (c : UInt8) (h : Heap) : F32 call (rb c) h = some (.lit (.bool (spc c)), h) := by
  simp only [F32, opt_s, opt_n, opt2_s, opt2_n, optH_s, test_b, eqK_s, eqH_s, fb_add, fb_sub, fb_mul, fb_eql, fb_neq, fb_lss, fb_leq, fb_gtr, fb_geq, fb_eqls, fb_neqs, not_b, pick_b, convI_i, lenStr_s, lenS_isl, lenS_sl, lenS_nil, extract_tup, decide_eq_true_eq, if_true, if_false, Bool.false_eq_true, decide_false, decide_true, Option.map_some, Option.map_none, ceq, clt1, clt2, cle1, cle2]
  unfold spc
  by_cases h1 : c.toNat = 9
  · simp [h1]
  by_cases h2 : c.toNat = 10
  · simp [h2]
  by_cases h3 : c.toNat = 13
  · simp [h3]
  simp [h1, h2, h3]

/-- What hawserref3.quoted answers. -/
def QuotR (s : List UInt8) (n fr : Nat) (acc : List Tok) (r : LexR) (lo : Nat) (X : Res) (h : Heap) : Prop :=
  (∃ e p : Nat, r = ⟨[], e, p⟩ ∧ e ≠ 0 ∧ X = some (.tup [rv [], ri 0, ri e, ri p], h)) ∨
  (∃ (m j : Nat) (text : List UInt8), m < n ∧ j ≤ s.length ∧ lo ≤ j ∧ lexM s m 0 j fr text (acc ++ [⟨4, fr, text⟩]) = some r ∧ X = some (.tup [rv text, ri j, ri 0, ri 0], h))

theorem QuotR.up {s : List UInt8} {n m fr : Nat} {acc : List Tok} {r : LexR} {lo lo' : Nat} {X : Res} {h : Heap} (q : QuotR s m fr acc r lo X h) (hm : m ≤ n) (hl : lo' ≤ lo) : QuotR s n fr acc r lo' X h := by
  rcases q with q | ⟨a, j, t, h1, h2, h3, h4, h5⟩
  · exact .inl q
  · exact .inr ⟨a, j, t, by omega, h2, by omega, h4, h5⟩

theorem b2s_one (c : UInt8) (f : Bool) (h : Heap) : b2sX (.isl 1 f [rb c]) h = some (rv [c]) := by
  simp only [b2sX, elemsOf]
  rw [if_pos trivial]
  show Option.map _ (bytesOf ([c].map byteAV)) = _
  rw [bytes_map]; rfl

theorem bad2 (call : CallF) (r1 : AV → AV → AV → AV → Heap → Res) (t0 t1 t8 : AV) (j : Nat) (h : Heap) : S33_2 call r1 t0 t1 t8 (ri j) (.lit (.bool false)) h = some (.tup [rv [], ri 0, ri ((12 : Nat) : Int), ri j], h) := by
  simp only [S33_2, test_b, Bool.false_eq_true, if_false]
  rfl

theorem drop_got {s r : List UInt8} {i : Nat} {c : UInt8} (h : s.drop i = c :: r) : s[i]? = some c ∧ i < s.length ∧ s.drop (i + 1) = r := by
  have h1 : (s.drop i)[0]? = some c := by rw [h]; rfl
  rw [List.getElem?_drop, Nat.add_zero] at h1
  refine ⟨h1, (List.getElem?_eq_some_iff.1 h1).1, ?_⟩
  rw [← List.drop_drop, h]; rfl

theorem esc_step {call : CallF} (HX : HexCall call) {s : List UInt8} (hs : s.length ≤ 8192) (fr : Nat) (h : Heap) (n j k : Nat) (text : List UInt8) (acc : List Tok) (r : LexR)
    (ih : ∀ (j k : Nat) (text : List UInt8) (acc : List Tok) (r : LexR), lexM s n 2 j fr text acc = some r → j ≤ s.length → text.length ≤ j → s.length - j < k → QuotR s n fr acc r j (S33_1l call k (rv s) (ri fr) (rv text) (ri j) h) h)
    (hlt : j < s.length) (ht : text.length ≤ j) (hk : s.length - j < k + 1)
    (hr : (if (escF (List.drop (j + 1) s)).snd = 0 then some { toks := [], err := 12, pos := j }
      else lexM s n 2 (j + (1 + (escF (List.drop (j + 1) s)).snd.toNat)) fr (text ++ [escB (List.drop (j + 1) s)]) acc) = some r) :
    QuotR s (n + 1) fr acc r j (if ((j + 1 : Nat) : Int) < (s.length : Int) then
          opt (fastIndex (rv s) (AV.lit (Value.int IntKind.i64 ((j + 1 : Nat) : Int)))) fun t55 =>
            opt (fastBin BinOp.eql t55 (AV.lit (Value.int IntKind.u8 34))) fun t56 =>
              test t56 (S33_6 call (S33_1l call k) (rv s) (ri fr) (rv text) (ri j) (AV.lit (Value.bool true)) h)
                (opt (fastIndex (rv s) (AV.lit (Value.int IntKind.i64 ((j + 1 : Nat) : Int)))) fun t61 =>
                  opt (fastBin BinOp.eql t61 (AV.lit (Value.int IntKind.u8 92))) fun t62 =>
                    S33_6 call (S33_1l call k) (rv s) (ri fr) (rv text) (ri j) t62 h)
        else S33_6 call (S33_1l call k) (rv s) (ri fr) (rv text) (ri j) (AV.lit (Value.bool false)) h) h := by
  have w1 : fastWrap .i64 ((j : Int) + 1) = ((j + 1 : Nat) : Int) := by rw [wrap64 (by omega) (by omega)]; rfl
  have w2 : fastWrap .i64 ((j : Int) + 2) = ((j + 2 : Nat) : Int) := by rw [wrap64 (by omega) (by omega)]; rfl
  have w3 : fastWrap .i64 ((j : Int) + 3) = ((j + 3 : Nat) : Int) := by rw [wrap64 (by omega) (by omega)]; rfl
  have w4 : fastWrap .i64 ((j : Int) + 4) = ((j + 4 : Nat) : Int) := by rw [wrap64 (by omega) (by omega)]; rfl
  have err : ∀ X : Res, X = some (.tup [rv [], ri 0, ri ((12 : Nat) : Int), ri j], h) → some (⟨[], 12, j⟩ : LexR) = some r → QuotR s (n + 1) fr acc r j X h := by
    intro X hX hr
    cases hr
    exact .inl ⟨12, j, rfl, by decide, hX⟩
  cases hd : s.drop (j + 1) with
  | nil =>
    have hl : s.length ≤ j + 1 := by have := congrArg List.length hd; simp at this; omega
    rw [hd] at hr
    rw [if_neg (by omega)]
    refine err _ ?_ hr
    simp only [S33_6, test_b, Bool.false_eq_true, if_false, S33_5, fb_add, w1, lenStr_s, opt_s, fb_lss, decide_eq_true_eq]
    rw [if_neg (by omega)]
    simp only [S33_4, test_b, Bool.false_eq_true, if_false, S33_3, fb_add, w3, lenStr_s, opt_s, fb_lss, decide_eq_true_eq]
    rw [if_neg (by omega), bad2]
  | cons c1 r1 =>
    obtain ⟨g1, l1, d1⟩ := drop_got hd
    rw [hd] at hr
    rw [if_pos (by omega), ix_str (by omega), Int.toNat_natCast, g1]
    simp only [Option.map_some, opt_s, fb_eql, test_b, decide_eq_true_eq, ceq]
    -- a quote or a backslash
    have two : c1.toNat = 34 ∨ c1.toNat = 92 → QuotR s (n + 1) fr acc r j (S33_6 call (S33_1l call k) (rv s) (ri fr) (rv text) (ri j) (AV.lit (Value.bool true)) h) h := by
      intro hc
      have e : escF (c1 :: r1) = ((c1.toNat : Int), 1) := by simp only [escF]; rw [if_pos hc]
      have eb : escB (c1 :: r1) = c1 := by unfold escB; rw [e]; simp
      rw [eb, e, if_neg (show ¬ ((1 : Int) = 0) by decide)] at hr
      have ct : fastCut (rv s) (some (ri ((j + 1 : Nat) : Int))) (some (ri ((j + 2 : Nat) : Int))) none = some (rv [c1]) := by
        rw [cut_str (by omega) (by omega) (by omega), Int.toNat_natCast, Int.toNat_natCast, hd, show j + 2 - (j + 1) = 1 by omega]; rfl
      simp only [S33_6, test_b, if_true, fb_add, w1, w2, opt_s, ct]
      rw [fb_adds (by simp only [List.length_singleton]; omega)]
      simp only [opt_s]
      exact (ih (j + 2) k (text ++ [c1]) acc r hr (by omega) (by simp only [List.length_append, List.length_singleton]; omega) (by omega)).up (by omega) (by omega)
    by_cases h34 : c1.toNat = 34
    · rw [if_pos h34]; exact two (.inl h34)
    rw [if_neg h34]
    by_cases h92 : c1.toNat = 92
    · rw [decide_eq_true h92]; exact two (.inr h92)
    rw [decide_eq_false h92]
    have hno : ¬ (c1.toNat = 34 ∨ c1.toNat = 92) := by omega
    simp only [S33_6, test_b, Bool.false_eq_true, if_false, S33_5, fb_add, w1, lenStr_s, opt_s, fb_lss, decide_eq_true_eq]
    rw [if_pos (by omega), ix_str (by omega), Int.toNat_natCast, g1]
    simp only [Option.map_some, opt_s, fb_eql, ceq, S33_4, test_b, decide_eq_true_eq]
    by_cases h110 : c1.toNat = 110
    · have e : escF (c1 :: r1) = (10, 1) := by simp only [escF]; rw [if_neg hno, if_pos h110]
      have eb : escB (c1 :: r1) = 10 := by unfold escB; rw [e]; rfl
      rw [eb, e, if_neg (by decide)] at hr
      rw [if_pos h110, fb_adds (by simp only [List.length_singleton]; omega)]
      simp only [opt_s, fb_add, w2]
      exact (ih (j + 2) k (text ++ [10]) acc r hr (by omega) (by simp only [List.length_append, List.length_singleton]; omega) (by omega)).up (by omega) (by omega)
    rw [if_neg h110]
    simp only [S33_3, fb_add, w3, lenStr_s, opt_s, fb_lss, test_b, decide_eq_true_eq]
    by_cases h120 : c1.toNat = 120
    · match r1, d1, hd, hr with
      | [], d1, hd, hr =>
        have e : (escF [c1]).2 = 0 := by simp only [escF]; rw [if_neg hno, if_neg h110, if_pos h120]
        have hl : s.length ≤ j + 2 := by have := congrArg List.length d1; simp at this; omega
        rw [e, if_pos rfl] at hr
        rw [if_neg (by omega)]
        exact err _ (bad2 ..) hr
      | [a], d1, hd, hr =>
        have e : (escF [c1, a]).2 = 0 := by simp only [escF]; rw [if_neg hno, if_neg h110, if_pos h120]
        have hl : s.length ≤ j + 3 := by have := congrArg List.length d1; simp at this; omega
        rw [e, if_pos rfl] at hr
        rw [if_neg (by omega)]
        exact err _ (bad2 ..) hr
      | a :: b :: r2, d1, hd, hr =>
        obtain ⟨g2, l2, d2⟩ := drop_got d1
        obtain ⟨g3, l3, d3⟩ := drop_got d2
        have g2 : s[j + 2]? = some a := g2
        have g3 : s[j + 3]? = some b := g3
        have ha := hexD_lt a
        have hb := hexD_lt b
        rw [if_pos (by omega)]
        simp only [w1, w2, opt_s]
        rw [ix_str (by omega), Int.toNat_natCast, g1]
        simp only [Option.map_some, opt_s, fb_eql, ceq, test_b, decide_eq_true_eq]
        rw [if_pos h120, ix_str (by omega), Int.toNat_natCast, g2]
        simp only [Option.map_some, opt_s, HX a, opt2_s, fb_geq, test_b, decide_eq_true_eq]
        by_cases p1 : 0 ≤ hexD a
        · rw [if_pos p1, ix_str (by omega), Int.toNat_natCast, g3]
          simp only [Option.map_some, opt_s, HX b, opt2_s, fb_geq]
          by_cases p2 : 0 ≤ hexD b
          · have e : escF (c1 :: a :: b :: r2) = (hexD a * 16 + hexD b, 3) := by simp only [escF]; rw [if_neg hno, if_neg h110, if_pos h120, if_pos ⟨p1, p2⟩]
            have eb := escB_eq (c1 :: a :: b :: r2)
            rw [e] at eb hr
            simp only at eb
            rw [if_neg (show ¬ ((3 : Int) = 0) by decide)] at hr
            rw [decide_eq_true p2]
            simp only [S33_2, test_b, if_true, fb_add, w2, w3, w4, opt_s]
            rw [ix_str (by omega), Int.toNat_natCast, g2]
            simp only [Option.map_some, opt_s, HX a, opt2_s, eqH_s, fb_mul]
            rw [ix_str (by omega), Int.toNat_natCast, g3]
            simp only [Option.map_some, opt_s, HX b, opt2_s, eqH_s, fb_add, convI_i]
            rw [wrap64 (n := hexD a * 16) (by omega) (by omega), wrap64 (by omega) (by omega), wrap8 (by omega) (by omega), ← eb]
            rw [show bsliceX 1 (.lit (.int .u8 0)) 1 [(0, rb (escB (c1 :: a :: b :: r2)))] h = some (.isl 1 true [rb (escB (c1 :: a :: b :: r2))], h) from bslice_one rfl rfl rfl]
            simp only [opt2_s, eqH_s, b2s_one, opt_s]
            rw [fb_adds (by simp only [List.length_singleton]; omega)]
            simp only [opt_s]
            have hr' : lexM s n 2 (j + 4) fr (text ++ [escB (c1 :: a :: b :: r2)]) acc = some r := hr
            exact (ih (j + 4) k _ acc r hr' (by omega) (by simp only [List.length_append, List.length_singleton]; omega) (by omega)).up (by omega) (by omega)
          · have e : (escF (c1 :: a :: b :: r2)).2 = 0 := by simp only [escF]; rw [if_neg hno, if_neg h110, if_pos h120, if_neg (by omega)]
            rw [e, if_pos rfl] at hr
            rw [decide_eq_false p2]
            exact err _ (bad2 ..) hr
        · have e : (escF (c1 :: a :: b :: r2)).2 = 0 := by simp only [escF]; rw [if_neg hno, if_neg h110, if_pos h120, if_neg (by omega)]
          rw [e, if_pos rfl] at hr
          rw [if_neg p1]
          exact err _ (bad2 ..) hr
    · have e : (escF (c1 :: r1)).2 = 0 := by simp only [escF]; rw [if_neg hno, if_neg h110, if_neg h120]
      rw [e, if_pos rfl] at hr
      by_cases hl3 : j + 3 < s.length
      · rw [if_pos (by omega)]
        simp only [w1, opt_s]
        rw [ix_str (by omega), Int.toNat_natCast, g1]
        simp only [Option.map_some, opt_s, fb_eql, ceq, test_b, decide_eq_true_eq]
        rw [if_neg h120]
        exact err _ (bad2 ..) hr
      · rw [if_neg (by omega)]
        exact err _ (bad2 ..) hr

theorem quoted_loop {call : CallF} (HX : HexCall call) {s : List UInt8} (hs : s.length ≤ 8192) (fr : Nat) (h : Heap) : ∀ (n j k : Nat) (text : List UInt8) (acc : List Tok) (r : LexR), lexM s n 2 j fr text acc = some r → j ≤ s.length → text.length ≤ j → s.length - j < k →
    QuotR s n fr acc r j (S33_1l call k (rv s) (ri fr) (rv text) (ri j) h) h := by
  intro n
  induction n with
  | zero => intro j k text acc r hr; simp [lexM] at hr
  | succ n ih =>
    intro j k text acc r hr hj ht hk
    obtain ⟨k, rfl⟩ : ∃ k', k = k' + 1 := ⟨k - 1, by omega⟩
    have ej : S33_1l call (k + 1) (rv s) (ri fr) (rv text) (ri j) h = S33_12b call (S33_1l call k) (rv s) (ri fr) (rv text) (ri j) h := nr rfl
    rw [ej]
    have w1 : fastWrap .i64 ((j : Int) + 1) = ((j + 1 : Nat) : Int) := by rw [wrap64 (by omega) (by omega)]; rfl
    have w2 : fastWrap .i64 ((j : Int) + 2) = ((j + 2 : Nat) : Int) := by rw [wrap64 (by omega) (by omega)]; rfl
    have w3 : fastWrap .i64 ((j : Int) + 3) = ((j + 3 : Nat) : Int) := by rw [wrap64 (by omega) (by omega)]; rfl
    have w4 : fastWrap .i64 ((j : Int) + 4) = ((j + 4 : Nat) : Int) := by rw [wrap64 (by omega) (by omega)]; rfl
    simp only [S33_12b, lenStr_s, opt_s, fb_lss, test_b, decide_eq_true_eq]
    cases hc : s[j]? with
    | none =>
      have hge : s.length ≤ j := List.getElem?_eq_none_iff.1 hc
      simp only [lexM, hc, Option.some.injEq] at hr
      subst hr
      rw [if_neg (by omega)]
      simp only [S33_0, lenStr_s, opt_s, fb_geq, test_b, decide_eq_true_eq]
      rw [if_pos (by omega)]
      exact .inl ⟨10, fr, rfl, by decide, rfl⟩
    | some c =>
      have hlt : j < s.length := (List.getElem?_eq_some_iff.1 hc).1
      have hcl := c.toNat_lt
      simp only [lexM, hc] at hr
      rw [if_pos (by omega), ix_str (by omega), Int.toNat_natCast, hc]
      simp only [Option.map_some, opt_s, fb_neq, test_b, decide_eq_true_eq, ne_eq, ceq]
      by_cases h34 : c.toNat = 34
      · rw [if_pos h34] at hr
        rw [if_neg (by simp [h34])]
        simp only [S33_0, lenStr_s, opt_s, fb_geq, test_b, decide_eq_true_eq, fb_gtr, clt2, fb_add, w1]
        rw [if_neg (by omega)]
        by_cases h2 : 200 < text.length
        · rw [if_pos h2] at hr ⊢
          cases hr
          exact .inl ⟨3, fr, rfl, by decide, rfl⟩
        · rw [if_neg h2] at hr ⊢
          exact .inr ⟨n, j + 1, text, by omega, by omega, by omega, hr, rfl⟩
      rw [if_neg h34] at hr
      rw [if_pos h34]
      simp only [S33_11]
      rw [ix_str (by omega), Int.toNat_natCast, hc]
      simp only [Option.map_some, opt_s, S33_10, fb_lss, test_b, decide_eq_true_eq, clt1, fb_gtr, clt2]
      by_cases h92 : c.toNat = 92
      · rw [if_pos h92] at hr
        rw [if_neg (by omega)]
        simp only [S33_9, h92, test_b, S33_8, fb_neq, opt_s, S33_7, fb_add, w1, lenStr_s, fb_lss, decide_eq_true_eq]
        rw [if_neg (by decide), if_neg (by decide)]
        exact esc_step HX hs fr h n j k text acc r ih hlt ht hk hr
      · rw [if_neg h92] at hr
        by_cases hbad : c.toNat < 32 ∨ 126 < c.toNat
        · rw [if_pos hbad] at hr
          cases hr
          have : S33_9 call (S33_1l call k) (rv s) (ri fr) (rv text) (ri j) (rb c) (.lit (.bool true)) h = some (.tup [rv [], ri 0, ri (12 : Nat), ri j], h) := by simp only [S33_9, test_b, if_true]; rfl
          by_cases h32 : c.toNat < 32
          · rw [if_pos h32, this]; exact .inl ⟨12, j, rfl, by decide, rfl⟩
          · rw [if_neg h32, decide_eq_true (by omega : 126 < c.toNat), this]; exact .inl ⟨12, j, rfl, by decide, rfl⟩
        · rw [if_neg hbad] at hr
          rw [if_neg (by omega), decide_eq_false (by omega : ¬ 126 < c.toNat)]
          simp only [S33_9, test_b, Bool.false_eq_true, if_false, S33_8, fb_neq, opt_s, decide_eq_true_eq, ne_eq, ceq, fb_add, w1]
          rw [if_pos h92, cut_str (by omega) (by omega) (by omega)]
          have e1 : (s.drop (j : Int).toNat).take (((j + 1 : Nat) : Int).toNat - (j : Int).toNat) = [c] := by
            rw [Int.toNat_natCast, Int.toNat_natCast, show j + 1 - j = 1 by omega]
            rw [List.drop_eq_getElem_cons hlt]
            have : s[j] = c := (List.getElem?_eq_some_iff.1 hc).2
            simp [this]
          rw [e1, opt_s, fb_adds (by simp only [List.length_singleton]; omega), opt_s]
          exact (ih (j + 1) k (text ++ [c]) acc r hr (by omega) (by simp only [List.length_append, List.length_singleton]; omega) (by omega)).up (by omega) (by omega)

end Go.Proofs.Ytcajleckiegffaa
