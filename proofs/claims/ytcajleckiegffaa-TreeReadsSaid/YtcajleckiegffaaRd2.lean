import Derived.Test.YtcajleckiegffaaRd1
set_option linter.unusedSectionVars false
namespace Go.Proofs.Ytcajleckiegffaa
set_option linter.unusedSimpArgs false
set_option linter.unusedVariables false
open Go.Am
set_option maxRecDepth 100000

theorem F33_ok {call : CallF} (HX : HexCall call) {s : List UInt8} (hs : s.length ≤ 8192) {fr n : Nat} {acc : List Tok} {r : LexR} (h : Heap) (hf : fr < s.length) (hr : lexM s n 2 (fr + 1) fr [] acc = some r) :
    QuotR s n fr acc r (fr + 1) (F33 call (rv s) (ri fr) h) h := by
  have := quoted_loop HX hs fr h n (fr + 1) rounds [] acc r hr (by omega) (by simp) (by simp only [rounds]; omega)
  simp only [F33, S33_15, S33_14, S33_13, fb_add, opt_s]
  rw [wrap64 (by omega) (by omega)]
  exact this

structure RefLex (call : CallF) : Prop where
  parts : ∀ (c : UInt8) h, call 32 [rb c] h = some (.lit (.bool (spc c)), h)
  quoted : ∀ (s : List UInt8) (fr n : Nat) (acc : List Tok) (r : LexR) h, s.length ≤ 8192 → fr < s.length → lexM s n 2 (fr + 1) fr [] acc = some r → QuotR s n fr acc r (fr + 1) (call 33 [rv s, ri fr] h) h

/-! a remark -/

theorem remark_loop {call : CallF} (r1 : AV → AV → AV → Heap → Res) {s : List UInt8} (hs : s.length ≤ 8192) (v : AV) (fr : Nat) (text : List UInt8) (acc : List Tok) (r : LexR) (h : Heap) : ∀ (n i k : Nat), lexM s n 1 i fr text acc = some r → i ≤ s.length → s.length - i < k →
    ∃ m j, m < n ∧ i ≤ j ∧ j ≤ s.length ∧ lexM s m 0 j fr text acc = some r ∧ S25_2l call r1 k (rv s) v (ri i) h = r1 (rv s) v (ri j) h := by
  intro n
  induction n with
  | zero => intro i k hr; simp [lexM] at hr
  | succ n ih =>
    intro i k hr hi hk
    obtain ⟨k, rfl⟩ : ∃ k', k = k' + 1 := ⟨k - 1, by omega⟩
    have ej : S25_2l call r1 (k + 1) (rv s) v (ri i) h = S25_4b call r1 (S25_2l call r1 k) (rv s) v (ri i) h := nr rfl
    rw [ej]
    simp only [S25_4b, lenStr_s, opt_s, fb_lss, test_b, decide_eq_true_eq]
    cases hc : s[i]? with
    | none =>
      have hge : s.length ≤ i := List.getElem?_eq_none_iff.1 hc
      simp only [lexM, hc] at hr
      rw [if_neg (by omega)]
      exact ⟨n, i, by omega, by omega, by omega, hr, rfl⟩
    | some c =>
      have hlt : i < s.length := (List.getElem?_eq_some_iff.1 hc).1
      simp only [lexM, hc] at hr
      rw [if_pos (by omega), ix_str (by omega), Int.toNat_natCast, hc]
      simp only [Option.map_some, opt_s, fb_neq, test_b, decide_eq_true_eq, ne_eq, ceq]
      by_cases h10 : c.toNat = 10
      · rw [if_pos h10] at hr
        rw [if_neg (by simp [h10])]
        exact ⟨n, i, by omega, by omega, by omega, hr, rfl⟩
      · rw [if_neg h10] at hr
        rw [if_pos h10]
        simp only [S25_3, fb_add, opt_s]
        rw [wrap64 (by omega) (by omega)]
        obtain ⟨m, j, a1, a2, a3, a4, a5⟩ := ih (i + 1) k hr (by omega) (by omega)
        exact ⟨m, j, by omega, by omega, a3, a4, a5⟩

/-! an atom -/

def badC (c : UInt8) : Prop := c.toNat < 33 ∨ 126 < c.toNat

theorem special_iff (c : UInt8) : special c = true ↔ (spc c = true ∨ c.toNat = 59 ∨ c.toNat = 40 ∨ c.toNat = 41 ∨ c.toNat = 34) := by
  unfold special; simp [or_assoc]

theorem spc_iff (c : UInt8) : spc c = true ↔ (c.toNat = 9 ∨ c.toNat = 10 ∨ c.toNat = 13 ∨ c.toNat = 32) := by
  unfold spc; simp [or_assoc]

theorem atom_loop {call : CallF} (r1 : AV → AV → AV → Heap → Res) {s : List UInt8} (hs : s.length ≤ 8192) (v : AV) (fr : Nat) (text : List UInt8) (acc : List Tok) (r : LexR) (h : Heap) : ∀ (n i k : Nat), lexM s n 3 i fr text acc = some r → i ≤ s.length → s.length - i < k →
    ∃ j, i ≤ j ∧ j ≤ s.length ∧ S25_6l call r1 k (rv s) v (ri fr) (ri i) h = S25_5 call r1 (rv s) v (ri fr) (ri j) h ∧
      ((∃ m, m < n ∧ lexM s m 0 j fr text (acc ++ [⟨3, fr, (s.drop fr).take (j - fr)⟩]) = some r) ∨ (∃ c, s[j]? = some c ∧ special c = false ∧ badC c ∧ r = ⟨[], 12, j⟩)) := by
  intro n
  induction n with
  | zero => intro i k hr; simp [lexM] at hr
  | succ n ih =>
    intro i k hr hi hk
    obtain ⟨k, rfl⟩ : ∃ k', k = k' + 1 := ⟨k - 1, by omega⟩
    have ej : S25_6l call r1 (k + 1) (rv s) v (ri fr) (ri i) h = S25_8b call r1 (S25_6l call r1 k) (rv s) v (ri fr) (ri i) h := nr rfl
    rw [ej]
    simp only [S25_8b, lenStr_s, opt_s, fb_lss, test_b, decide_eq_true_eq]
    cases hc : s[i]? with
    | none =>
      have hge : s.length ≤ i := List.getElem?_eq_none_iff.1 hc
      simp only [lexM, hc] at hr
      rw [if_neg (by omega)]
      exact ⟨i, by omega, by omega, rfl, .inl ⟨n, by omega, hr⟩⟩
    | some c =>
      have hlt : i < s.length := (List.getElem?_eq_some_iff.1 hc).1
      simp only [lexM, hc] at hr
      rw [if_pos (by omega), ix_str (by omega), Int.toNat_natCast, hc]
      simp only [Option.map_some, opt_s, fb_geq, fb_leq, fb_neq, test_b, decide_eq_true_eq, ne_eq, ceq, cle1, cle2]
      by_cases hsp : special c = true
      · rw [if_pos hsp] at hr
        have stop : ∀ A : Res, (if 33 ≤ c.toNat then if c.toNat ≤ 126 then if ¬ c.toNat = 59 then if ¬ c.toNat = 40 then if ¬ c.toNat = 41 then if ¬ c.toNat = 34 then A else S25_5 call r1 (rv s) v (ri fr) (ri i) h else S25_5 call r1 (rv s) v (ri fr) (ri i) h else S25_5 call r1 (rv s) v (ri fr) (ri i) h else S25_5 call r1 (rv s) v (ri fr) (ri i) h else S25_5 call r1 (rv s) v (ri fr) (ri i) h else S25_5 call r1 (rv s) v (ri fr) (ri i) h) = S25_5 call r1 (rv s) v (ri fr) (ri i) h := by
          intro A
          rcases (special_iff c).1 hsp with h1 | h1 | h1 | h1 | h1
          · have := (spc_iff c).1 h1
            rw [if_neg (by omega)]
          all_goals simp [h1]
        exact ⟨i, by omega, by omega, stop _, .inl ⟨n, by omega, hr⟩⟩
      · rw [if_neg hsp] at hr
        have hsf : special c = false := by simpa using hsp
        by_cases hb : c.toNat < 33 ∨ 126 < c.toNat
        · rw [if_pos hb] at hr
          cases hr
          refine ⟨i, by omega, by omega, ?_, .inr ⟨c, hc, hsf, hb, rfl⟩⟩
          by_cases h33 : 33 ≤ c.toNat
          · rw [if_pos h33, if_neg (by omega)]
          · rw [if_neg h33]
        · rw [if_neg hb] at hr
          have hn : ¬ (spc c = true ∨ c.toNat = 59 ∨ c.toNat = 40 ∨ c.toNat = 41 ∨ c.toNat = 34) := fun e => hsp ((special_iff c).2 e)
          rw [if_pos (by omega), if_pos (by omega), if_pos (by omega), if_pos (by omega), if_pos (by omega), if_pos (by omega)]
          simp only [S25_7, fb_add, opt_s]
          rw [wrap64 (by omega) (by omega)]
          obtain ⟨j, a1, a2, a3, a4⟩ := ih (i + 1) k hr (by omega) (by omega)
          refine ⟨j, by omega, a2, a3, ?_⟩
          rcases a4 with ⟨m, b1, b2⟩ | b
          · exact .inl ⟨m, by omega, b2⟩
          · exact .inr b

end Go.Proofs.Ytcajleckiegffaa
