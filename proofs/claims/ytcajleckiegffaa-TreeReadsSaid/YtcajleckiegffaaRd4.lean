import Derived.Test.YtcajleckiegffaaRd3
import Derived.Test.YtcajleckiegffaaPlA
set_option linter.unusedSectionVars false
namespace Go.Proofs.Ytcajleckiegffaa
set_option linter.unusedSimpArgs false
set_option linter.unusedVariables false
open Go.Am
set_option maxRecDepth 100000

/-! ### hawserref3.Quote -/

theorem hex_cut (n : Nat) (hn : n < 16) : fastCut (rv [48, 49, 50, 51, 52, 53, 54, 55, 56, 57, 97, 98, 99, 100, 101, 102]) (some (.lit (.int .u8 (n : Int)))) (some (.lit (.int .u8 ((n + 1 : Nat) : Int)))) none = some (rv [hexC1 n]) := by
  rw [cut_str (by omega) (by omega) (by simp only [List.length_cons, List.length_nil]; omega), Int.toNat_natCast, Int.toNat_natCast, show n + 1 - n = 1 by omega]
  rcases (by omega : n = 0 ∨ n = 1 ∨ n = 2 ∨ n = 3 ∨ n = 4 ∨ n = 5 ∨ n = 6 ∨ n = 7 ∨ n = 8 ∨ n = 9 ∨ n = 10 ∨ n = 11 ∨ n = 12 ∨ n = 13 ∨ n = 14 ∨ n = 15) with e | e | e | e | e | e | e | e | e | e | e | e | e | e | e | e <;> subst e <;> rfl

theorem flat_len (l : List UInt8) : (l.flatMap quoteC).length ≤ 4 * l.length := by
  induction l with
  | nil => simp
  | cons c l ih =>
    have := quoteC_len c
    simp only [List.flatMap_cons, List.length_append, List.length_cons]
    omega

theorem refquote_loop {call : CallF} {b : List UInt8} (hb : b.length ≤ 100000000000) (h : Heap) :
    ∀ (k i : Nat), i ≤ b.length → b.length - i < k → S27_1l call k (rv b) (rv (34 :: (b.take i).flatMap quoteC)) (ri i) h = some (rv (quoteF b), h) := by
  intro k
  induction k with
  | zero => intro i _ hk; omega
  | succ k ih =>
    intro i hi hk
    show S27_8b call (S27_1l call k) _ _ _ h = _
    have hfl := flat_len (b.take i)
    rw [List.length_take] at hfl
    have hL : (34 :: (b.take i).flatMap quoteC).length ≤ 400000000001 := by rw [List.length_cons]; omega
    simp only [S27_8b, lenStr_s, opt_s, fb_lss, test_b, decide_eq_true_eq]
    by_cases hlt : i < b.length
    · rw [if_pos (by omega)]
      obtain ⟨c, hc⟩ : ∃ c, b[i]? = some c := ⟨b[i], List.getElem?_eq_getElem hlt⟩
      have hcl := c.toNat_lt
      have hw : fastWrap .i64 ((i : Int) + 1) = ((i + 1 : Nat) : Int) := by rw [wrap64 (by omega) (by omega)]; rfl
      have ht : (34 :: (b.take (i + 1)).flatMap quoteC) = (34 :: (b.take i).flatMap quoteC) ++ quoteC c := by
        have hg : b[i] = c := (List.getElem?_eq_some_iff.1 hc).2
        rw [List.take_succ_eq_append_getElem hlt, hg]
        simp [List.flatMap_append]
      have next : S27_2 call (S27_1l call k) (rv b) (rv ((34 :: (b.take i).flatMap quoteC) ++ quoteC c)) (ri i) h = some (rv (quoteF b), h) := by
        simp only [S27_2, fb_add, opt_s, hw]
        rw [← ht]
        exact ih (i + 1) (by omega) (by omega)
      have ct : fastCut (rv b) (some (ri i)) (some (ri ((i + 1 : Nat) : Int))) none = some (rv [c]) := by
        rw [cut_str (by omega) (by omega) (by omega), Int.toNat_natCast, Int.toNat_natCast, show i + 1 - i = 1 by omega, List.drop_eq_getElem_cons hlt]
        have : b[i] = c := (List.getElem?_eq_some_iff.1 hc).2
        simp [this]
      generalize (34 :: (b.take i).flatMap quoteC) = L at hL next
      simp only [S27_7]
      rw [ix_str (by omega), Int.toNat_natCast, hc]
      simp only [Option.map_some, opt_s, S27_6, fb_eql, test_b, decide_eq_true_eq, ceq]
      have two : c.toNat = 34 ∨ c.toNat = 92 → S27_5 call (S27_1l call k) (rv b) (rv L) (ri i) (rb c) (.lit (.bool true)) h = some (rv (quoteF b), h) := by
        intro hq
        have e : quoteC c = [92, c] := if_pos hq
        rw [e] at next
        simp only [S27_5, test_b, if_true]
        rw [fb_adds (by simp only [List.length_singleton]; omega)]
        simp only [opt_s, fb_add, hw, ct]
        rw [fb_adds (by simp only [List.length_append, List.length_singleton]; omega)]
        simp only [opt_s, List.append_assoc, List.cons_append, List.nil_append]
        exact next
      by_cases h34 : c.toNat = 34
      · rw [if_pos h34]; exact two (.inl h34)
      rw [if_neg h34]
      by_cases h92 : c.toNat = 92
      · rw [decide_eq_true h92]; exact two (.inr h92)
      rw [decide_eq_false h92]
      have hno : ¬ (c.toNat = 34 ∨ c.toNat = 92) := by omega
      simp only [S27_5, test_b, Bool.false_eq_true, if_false, S27_4, fb_geq, opt_s, decide_eq_true_eq, cle2, fb_leq, cle1]
      have other : ¬ (32 ≤ c.toNat ∧ c.toNat ≤ 126) → S27_3 call (S27_1l call k) (rv b) (rv L) (ri i) (rb c) (.lit (.bool false)) h = some (rv (quoteF b), h) := by
        intro hr
        simp only [S27_3, test_b, Bool.false_eq_true, if_false, fb_eql, opt_s, decide_eq_true_eq, ceq]
        by_cases h10 : c.toNat = 10
        · have e : quoteC c = [92, 110] := by unfold quoteC; rw [if_neg hno, if_pos h10]
          rw [e] at next
          rw [if_pos h10, fb_adds (by simp only [List.length_cons, List.length_nil]; omega)]
          simp only [opt_s]
          exact next
        · have e : quoteC c = [92, 120, hexC1 (c.toNat / 16), hexC1 (c.toNat % 16)] := by unfold quoteC; rw [if_neg hno, if_neg h10, if_pos (by omega)]
          rw [e] at next
          obtain ⟨s1, s2⟩ := shrand c
          have k1 : fastWrap .u8 (((c.toNat / 16 : Nat) : Int) + 1) = ((c.toNat / 16 + 1 : Nat) : Int) := by rw [wrap8 (by omega) (by omega)]; rfl
          have k2 : fastWrap .u8 (((c.toNat % 16 : Nat) : Int) + 1) = ((c.toNat % 16 + 1 : Nat) : Int) := by rw [wrap8 (by omega) (by omega)]; rfl
          rw [if_neg h10, fb_adds (by simp only [List.length_cons, List.length_nil]; omega)]
          simp only [opt_s, s1, s2, fb_add, k1, k2, hex_cut (c.toNat / 16) (by omega), hex_cut (c.toNat % 16) (by omega), eqH_s]
          rw [fb_adds (by simp only [List.length_append, List.length_cons, List.length_nil]; omega)]
          simp only [opt_s]
          rw [fb_adds (by simp only [List.length_append, List.length_cons, List.length_nil]; omega)]
          simp only [opt_s, List.append_assoc, List.cons_append, List.nil_append]
          exact next
      by_cases h32 : 32 ≤ c.toNat
      · rw [if_pos h32]
        by_cases h126 : c.toNat ≤ 126
        · have e : quoteC c = [c] := by unfold quoteC; rw [if_neg hno, if_neg (by omega), if_neg (by omega)]
          rw [e] at next
          rw [decide_eq_true h126]
          simp only [S27_3, test_b, if_true, fb_add, hw, opt_s, ct]
          rw [fb_adds (by simp only [List.length_singleton]; omega)]
          simp only [opt_s]
          exact next
        · rw [decide_eq_false h126]; exact other (by omega)
      · rw [if_neg h32]; exact other (by omega)
    · rw [if_neg (by omega)]
      simp only [S27_0]
      rw [fb_adds (by simp only [List.length_singleton]; omega)]
      simp only [opt_s]
      have : b.take i = b := List.take_of_length_le (by omega)
      rw [this]
      rfl

theorem F27_ok {call : CallF} {b : List UInt8} (hb : b.length ≤ 100000000000) (h : Heap) : F27 call (rv b) h = some (rv (quoteF b), h) := by
  simp only [F27, S27_11, S27_10, S27_9]
  exact refquote_loop hb h rounds 0 (by omega) (by simp only [rounds]; omega)

end Go.Proofs.Ytcajleckiegffaa
