import Derived.Test.YtcajleckiegffaaRd2
set_option linter.unusedSectionVars false
namespace Go.Proofs.Ytcajleckiegffaa
set_option linter.unusedSimpArgs false
set_option linter.unusedVariables false
open Go.Am
set_option maxRecDepth 100000

/-! ### hawserref3.Split -/

/-- What a loop of Split has answered. -/
def SplitR (X : Res) (r : LexR) : Prop := ∃ v h o, X = some (.tup [v, ri r.err, ri r.pos], h) ∧ OwnS h v 3 (r.toks.map tokAV) o

theorem ref_loop {call : CallF} (C : RefLex call) {s : List UInt8} (hs : s.length ≤ 8192) : ∀ (N n i k fr : Nat) (text : List UInt8) (acc : List Tok) (r : LexR) (v : AV) (o : Option Nat) (h : Heap), n < N → lexM s n 0 i fr text acc = some r → i ≤ s.length → acc.length ≤ i → s.length - i < k →
    OwnS h v 3 (acc.map tokAV) o → SplitR (S25_1l call k (rv s) v (ri i) h) r := by
  intro N
  induction N with
  | zero => intro n i k fr text acc r v o h hn; omega
  | succ N ih =>
    intro n i k fr text acc r v o h hn hr hi ha hk w
    obtain ⟨n, rfl⟩ : ∃ n', n = n' + 1 := by
      cases n with
      | zero => simp [lexM] at hr
      | succ n => exact ⟨n, rfl⟩
    obtain ⟨k, rfl⟩ : ∃ k', k = k' + 1 := ⟨k - 1, by omega⟩
    have ej : S25_1l call (k + 1) (rv s) v (ri i) h = S25_25b call (S25_1l call k) (rv s) v (ri i) h := nr rfl
    rw [ej]
    have w1 : fastWrap .i64 ((i : Int) + 1) = ((i + 1 : Nat) : Int) := by rw [wrap64 (by omega) (by omega)]; rfl
    simp only [S25_25b, lenStr_s, opt_s, fb_lss, test_b, decide_eq_true_eq]
    cases hc : s[i]? with
    | none =>
      have hge : s.length ≤ i := List.getElem?_eq_none_iff.1 hc
      simp only [lexM, hc, Option.some.injEq] at hr
      subst hr
      rw [if_neg (by omega)]
      exact ⟨v, h, o, rfl, w⟩
    | some c =>
      have hlt : i < s.length := (List.getElem?_eq_some_iff.1 hc).1
      have h0 := hr
      simp only [lexM, hc] at hr
      have own2 : ∀ (t : Tok), OwnS (kill h o ++ [.arr ⟨3, true, false, (acc ++ [t]).map tokAV⟩]) (.sl h.length 0 ((acc ++ [t]).map tokAV).length false) 3 ((acc ++ [t]).map tokAV) (some h.length) := fun t => OwnS.appended
      have al2 : ∀ (t : Tok), (acc ++ [t]).length = acc.length + 1 := fun t => by simp
      rw [if_pos (by omega)]
      simp only [S25_24]
      rw [ix_str (by omega), Int.toNat_natCast, hc]
      simp only [Option.map_some, opt_s, S25_23, C.parts, opt2_s, S25_22, test_b]
      by_cases hsp : spc c = true
      · rw [if_pos hsp] at hr ⊢
        simp only [fb_add, w1, opt_s]
        exact ih n (i + 1) k i text acc r v o h (by omega) hr (by omega) (by omega) (by omega) w
      rw [if_neg hsp] at hr ⊢
      simp only [S25_21, fb_eql, opt_s, ceq, S25_20, test_b, decide_eq_true_eq]
      by_cases h59 : c.toNat = 59
      · rw [if_pos h59] at hr ⊢
        simp only [S25_18]
        obtain ⟨n, rfl⟩ : ∃ n', n = n' + 1 := by
          cases n with
          | zero => simp [lexM] at hr
          | succ n => exact ⟨n, rfl⟩
        simp only [lexM, hc] at hr
        rw [if_neg (by omega)] at hr
        obtain ⟨R, hR⟩ : ∃ R, rounds = R + 1 := ⟨rounds - 1, by simp only [rounds]⟩
        have hRb : s.length < R := by
          have : rounds = R + 1 := hR
          simp only [rounds] at this
          omega
        rw [hR]
        have e2 : S25_2l call (S25_1l call k) (R + 1) (rv s) v (ri i) h = S25_4b call (S25_1l call k) (S25_2l call (S25_1l call k) R) (rv s) v (ri i) h := nr rfl
        rw [e2]
        simp only [S25_4b, lenStr_s, opt_s, fb_lss, test_b, decide_eq_true_eq]
        rw [if_pos (by omega), ix_str (by omega), Int.toNat_natCast, hc]
        simp only [Option.map_some, opt_s, fb_neq, test_b, decide_eq_true_eq, ne_eq, ceq]
        rw [if_pos (by omega)]
        simp only [S25_3, fb_add, w1, opt_s]
        obtain ⟨m, j, a1, a2, a3, a4, a5⟩ := remark_loop (S25_1l call k) hs v i text acc r h n (i + 1) R hr (by omega) (by omega)
        rw [a5]
        exact ih m j k i text acc r v o h (by omega) a4 a3 (by omega) (by omega) w
      rw [if_neg h59] at hr ⊢
      simp only [S25_19, fb_eql, opt_s, ceq, S25_17, test_b, decide_eq_true_eq]
      by_cases h40 : c.toNat = 40
      · rw [if_pos h40] at hr ⊢
        rw [push_tok w (by omega) 1 i [] 1 rfl]
        simp only [fb_add, w1, opt_s]
        exact ih n (i + 1) k i text _ r _ _ _ (by omega) hr (by omega) (by rw [al2]; omega) (by omega) (own2 _)
      rw [if_neg h40] at hr ⊢
      simp only [S25_16, fb_eql, opt_s, ceq, S25_15, test_b, decide_eq_true_eq]
      by_cases h41 : c.toNat = 41
      · rw [if_pos h41] at hr ⊢
        rw [push_tok w (by omega) 2 i [] 2 rfl]
        simp only [fb_add, w1, opt_s]
        exact ih n (i + 1) k i text _ r _ _ _ (by omega) hr (by omega) (by rw [al2]; omega) (by omega) (own2 _)
      rw [if_neg h41] at hr ⊢
      simp only [S25_14, fb_eql, opt_s, ceq, S25_13, test_b, decide_eq_true_eq]
      by_cases h34 : c.toNat = 34
      · rw [if_pos h34] at hr ⊢
        rcases C.quoted s i n acc r h hs hlt hr with ⟨e, p, q1, q2, q3⟩ | ⟨m, j, t, q1, q2, q3, q4, q5⟩
        · subst q1
          rw [q3]
          simp only [opt2_s, extract_tup, List.getElem?_cons_zero, List.getElem?_cons_succ, opt_s, fb_neq, test_b, decide_eq_true_eq]
          rw [if_pos (by omega)]
          exact ⟨_, _, none, rfl, rfl, rfl⟩
        · rw [q5]
          simp only [opt2_s, extract_tup, List.getElem?_cons_zero, List.getElem?_cons_succ, opt_s, fb_neq, test_b, ne_eq, not_true_eq_false, decide_false, Bool.false_eq_true, if_false]
          rw [push_tok w (by omega) 4 i t 4 rfl]
          exact ih m j k i t _ r _ _ _ (by omega) q4 q2 (by rw [al2]; omega) (by omega) (own2 _)
      rw [if_neg h34] at hr ⊢
      have hnsp : special c = false := by
        cases hq : special c with
        | false => rfl
        | true =>
          rcases (special_iff c).1 hq with e | e | e | e | e
          · exact absurd e hsp
          all_goals omega
      simp only [S25_12, fb_lss, opt_s, test_b, decide_eq_true_eq, clt1, fb_gtr, clt2]
      obtain ⟨n, rfl⟩ : ∃ n', n = n' + 1 := by
        cases n with
        | zero => simp [lexM] at hr
        | succ n => exact ⟨n, rfl⟩
      by_cases hb : c.toNat < 33 ∨ 126 < c.toNat
      · simp only [lexM, hc, hnsp, Bool.false_eq_true, if_false] at hr
        rw [if_pos hb] at hr
        cases hr
        have : S25_11 call (S25_1l call k) (rv s) v (ri i) (.lit (.bool true)) h = some (.tup [.lit (.slice none 0 0), ri ((12 : Nat) : Int), ri i], h) := by simp only [S25_11, test_b, if_true]; rfl
        by_cases h33 : c.toNat < 33
        · rw [if_pos h33, this]; exact ⟨_, _, none, rfl, rfl, rfl⟩
        · rw [if_neg h33, decide_eq_true (by omega : 126 < c.toNat), this]; exact ⟨_, _, none, rfl, rfl, rfl⟩
      · rw [if_neg (by omega), decide_eq_false (by omega : ¬ 126 < c.toNat)]
        simp only [S25_11, test_b, Bool.false_eq_true, if_false, S25_10, S25_9]
        -- the first byte is the atom's
        obtain ⟨R, hR⟩ : ∃ R, rounds = R + 1 := ⟨rounds - 1, by simp only [rounds]⟩
        have hRb : s.length < R := by
          have : rounds = R + 1 := hR
          simp only [rounds] at this
          omega
        simp only [lexM, hc, hnsp, Bool.false_eq_true, if_false] at hr
        rw [if_neg hb] at hr
        obtain ⟨n, rfl⟩ : ∃ n', n = n' + 1 := by
          cases n with
          | zero => simp [lexM] at hr
          | succ n => exact ⟨n, rfl⟩
        rw [hR]
        have e2 : S25_6l call (S25_1l call k) (R + 1) (rv s) v (ri i) (ri i) h = S25_8b call (S25_1l call k) (S25_6l call (S25_1l call k) R) (rv s) v (ri i) (ri i) h := nr rfl
        rw [e2]
        simp only [S25_8b, lenStr_s, opt_s, fb_lss, test_b, decide_eq_true_eq]
        rw [if_pos (by omega), ix_str (by omega), Int.toNat_natCast, hc]
        simp only [Option.map_some, opt_s, fb_geq, fb_leq, fb_neq, test_b, decide_eq_true_eq, ne_eq, ceq, cle1, cle2]
        rw [if_pos (by omega), if_pos (by omega), if_pos h59, if_pos h40, if_pos h41, if_pos h34]
        simp only [S25_7, fb_add, w1, opt_s]
        obtain ⟨j, a1, a2, a3, a4⟩ := atom_loop (call := call) (S25_1l call k) hs v i text acc r h (n + 1) (i + 1) R hr (by omega) (by omega)
        have hj : i < j := by omega
        rw [a3]
        simp only [S25_5]
        rw [cut_str (by omega) (by omega) (by omega), opt_s, Int.toNat_natCast, Int.toNat_natCast, push_tok w (by omega) 3 i _ 3 rfl]
        rcases a4 with ⟨m, b1, b2⟩ | ⟨c', b1, b2, b3, b4⟩
        · exact ih m j k i text _ r _ _ _ (by omega) b2 a2 (by rw [al2]; omega) (by omega) (own2 _)
        · subst b4
          -- a byte that may not be ends it
          have hj2 : j < s.length := (List.getElem?_eq_some_iff.1 b1).1
          have hl : lexM s 2 0 j i text (acc ++ [⟨3, i, (s.drop i).take (j - i)⟩]) = some ⟨[], 12, j⟩ := by
            have hn : ¬ (spc c' = true ∨ c'.toNat = 59 ∨ c'.toNat = 40 ∨ c'.toNat = 41 ∨ c'.toNat = 34) := fun e => by
              have := (special_iff c').2 e
              rw [b2] at this; cases this
            simp only [lexM, b1]
            rw [if_neg (fun e => hn (.inl e)), if_neg (by omega), if_neg (by omega), if_neg (by omega), if_neg (by omega), b2]
            simp only [Bool.false_eq_true, if_false]
            exact if_pos b3
          exact ih 2 j k i text _ _ _ _ _ (by omega) hl a2 (by rw [al2]; omega) (by omega) (own2 _)

theorem F25_ok {call : CallF} (C : RefLex call) (s : List UInt8) (h : Heap) : SplitR (F25 call (rv s) h) (splitF s) := by
  simp only [F25, S25_29, lenStr_s, opt_s, fb_gtr, test_b, decide_eq_true_eq, clt2]
  by_cases hs : 8192 < s.length
  · rw [if_pos hs]
    have : splitF s = ⟨[], 3, 0⟩ := if_pos hs
    rw [this]
    exact ⟨_, h, none, rfl, rfl, rfl⟩
  · rw [if_neg hs]
    simp only [S25_28, S25_27, S25_26]
    exact ref_loop C (by omega) (rounds + 1 + 1) (rounds + 1) 0 rounds 0 [] [] (splitF s) _ none h (by omega) (splitF_some (by omega)) (by omega) (by simp) (by simp only [rounds]; omega) ⟨rfl, rfl⟩

end Go.Proofs.Ytcajleckiegffaa
