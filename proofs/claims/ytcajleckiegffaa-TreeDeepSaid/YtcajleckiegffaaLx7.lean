import Derived.Test.YtcajleckiegffaaLx5
namespace Go.Proofs.Ytcajleckiegffaa
set_option linter.unusedSimpArgs false
set_option linter.unusedVariables false
open Go.Am
set_option maxRecDepth 100000

/-! ### The plain law of LexRemarks -/

theorem lexM_mono (s : List UInt8) : ∀ (k lab i fr : Nat) (text : List UInt8) (acc : List Tok) (R : LexR), lexM s k lab i fr text acc = some R → lexM s (k + 1) lab i fr text acc = some R := by
  intro k
  induction k with
  | zero => intro lab i fr text acc R h; simp [lexM] at h
  | succ k ih =>
    intro lab i fr text acc R h
    match lab with
    | 0 =>
      rw [lexM] at h ⊢
      cases hc : s[i]? with
      | none => rw [hc] at h; exact h
      | some c =>
        rw [hc] at h
        simp only at h ⊢
        repeat' (split at h <;> split <;> first | contradiction | skip)
        all_goals exact ih _ _ _ _ _ _ h
    | 1 =>
      rw [lexM] at h ⊢
      cases hc : s[i]? with
      | none => rw [hc] at h; exact ih _ _ _ _ _ _ h
      | some c =>
        rw [hc] at h
        simp only at h ⊢
        split at h <;> split <;> first | contradiction | exact ih _ _ _ _ _ _ h
    | 2 =>
      rw [lexM] at h ⊢
      cases hc : s[i]? with
      | none => rw [hc] at h; exact h
      | some c =>
        rw [hc] at h
        simp only at h ⊢
        by_cases h1 : c.toNat = 34
        · rw [if_pos h1] at h ⊢
          by_cases h2 : 200 < text.length
          · rw [if_pos h2] at h ⊢; exact h
          · rw [if_neg h2] at h ⊢; exact ih _ _ _ _ _ _ h
        rw [if_neg h1] at h ⊢
        by_cases h2 : c.toNat = 92
        · rw [if_pos h2] at h ⊢
          by_cases h3 : (escF (s.drop (i + 1))).2 = 0
          · rw [if_pos h3] at h ⊢; exact h
          · rw [if_neg h3] at h ⊢; exact ih _ _ _ _ _ _ h
        rw [if_neg h2] at h ⊢
        by_cases h3 : c.toNat < 32 ∨ 126 < c.toNat
        · rw [if_pos h3] at h ⊢; exact h
        · rw [if_neg h3] at h ⊢; exact ih _ _ _ _ _ _ h
    | 3 =>
      rw [lexM] at h ⊢
      cases hc : s[i]? with
      | none => rw [hc] at h; exact ih _ _ _ _ _ _ h
      | some c =>
        rw [hc] at h
        simp only at h ⊢
        by_cases h1 : special c = true
        · rw [if_pos h1] at h ⊢; exact ih _ _ _ _ _ _ h
        rw [if_neg h1] at h ⊢
        by_cases h2 : c.toNat < 33 ∨ 126 < c.toNat
        · rw [if_pos h2] at h ⊢; exact h
        · rw [if_neg h2] at h ⊢; exact ih _ _ _ _ _ _ h
    | lab + 4 => simp [lexM] at h

theorem lexM_more {s : List UInt8} {k m lab i fr : Nat} {text : List UInt8} {acc : List Tok} {R : LexR} (h : lexM s k lab i fr text acc = some R) (hm : k ≤ m) : lexM s m lab i fr text acc = some R := by
  obtain ⟨d, rfl⟩ := Nat.exists_eq_add_of_le hm
  induction d with
  | zero => exact h
  | succ d ih => exact lexM_mono s _ _ _ _ _ _ _ (ih (by omega))

theorem splitF_of {s : List UInt8} (hs : s.length ≤ 8192) {k : Nat} {R : LexR} (hk : k ≤ rounds + 1) (h : lexM s k 0 0 0 [] [] = some R) : splitF s = R := by
  have h1 := lexM_more h hk
  rw [splitF_some hs] at h1
  exact Option.some.inj h1

def shTok (b : Nat) (t : Tok) : Tok := ⟨t.kind, t.place + b, t.text⟩

theorem escF_append (l t : List UInt8) (h : (escF l).2 ≠ 0) : escF (l ++ t) = escF l := by
  match l with
  | [] => simp [escF] at h
  | c :: r =>
    by_cases h1 : c.toNat = 34 ∨ c.toNat = 92
    · simp only [List.cons_append, escF, if_pos h1]
    by_cases h2 : c.toNat = 110
    · simp only [List.cons_append, escF, if_neg h1, if_pos h2]
    by_cases h3 : c.toNat = 120
    · match r with
      | [] => simp only [escF, if_neg h1, if_neg h2, if_pos h3] at h; exact absurd rfl h
      | [a] => simp only [escF, if_neg h1, if_neg h2, if_pos h3] at h; exact absurd rfl h
      | a :: b :: r' => simp only [List.cons_append, escF, if_neg h1, if_neg h2, if_pos h3]
    · simp only [escF, if_neg h1, if_neg h2, if_neg h3] at h; exact absurd rfl h

theorem remark_run (s : List UInt8) : ∀ (d m i fr : Nat) (text : List UInt8) (acc : List Tok), s.length - i ≤ d → d + 2 ≤ m → (∀ (j : Nat) (c : UInt8), i ≤ j → s[j]? = some c → c.toNat ≠ 10) → lexM s m 1 i fr text acc = some ⟨acc, 0, 0⟩ := by
  intro d
  induction d with
  | zero =>
    intro m i fr text acc hd hm hn
    obtain ⟨m, rfl⟩ : ∃ q, m = q + 2 := ⟨m - 2, by omega⟩
    have hc : s[i]? = none := List.getElem?_eq_none_iff.2 (by omega)
    simp only [lexM, hc]
  | succ d ih =>
    intro m i fr text acc hd hm hn
    obtain ⟨m, rfl⟩ : ∃ q, m = q + 2 := ⟨m - 2, by omega⟩
    cases hc : s[i]? with
    | none => simp only [lexM, hc]
    | some c =>
      rw [lexM, hc]
      simp only
      rw [if_neg (hn i c (Nat.le_refl _) hc)]
      exact ih (m + 1) (i + 1) fr text acc (by omega) (by omega) (fun j c hj h => hn j c (by omega) h)

theorem lex_sim (a s t : List UInt8) (ht : ∀ c ∈ t, c.toNat ≠ 10) : ∀ (k lab i fr : Nat) (text : List UInt8) (acc : List Tok) (R : LexR), lexM s k lab i fr text acc = some R → R.err = 0 → i ≤ s.length → fr ≤ i →
    lexM (a ++ s ++ [10, 59] ++ t) (k + t.length + 6) lab (i + a.length) (fr + a.length) text (acc.map (shTok a.length)) = some ⟨R.toks.map (shTok a.length), 0, 0⟩ := by
  have hin : ∀ (i : Nat) (c : UInt8), s[i]? = some c → (a ++ s ++ [10, 59] ++ t)[i + a.length]? = some c := by
    intro i c h
    have hl := (List.getElem?_eq_some_iff.1 h).1
    rw [List.append_assoc, List.append_assoc, List.getElem?_append_right (by omega), Nat.add_sub_cancel, List.getElem?_append_left hl, h]
  have hend : (a ++ s ++ [10, 59] ++ t)[s.length + a.length]? = some 10 := by
    rw [List.append_assoc, List.append_assoc, List.getElem?_append_right (by omega), Nat.add_sub_cancel, List.getElem?_append_right (Nat.le_refl _), Nat.sub_self]; rfl
  have hend2 : (a ++ s ++ [10, 59] ++ t)[s.length + a.length + 1]? = some 59 := by
    rw [List.append_assoc, List.append_assoc, List.getElem?_append_right (by omega), show s.length + a.length + 1 - a.length = s.length + 1 by omega, List.getElem?_append_right (by omega), show s.length + 1 - s.length = 1 by omega]; rfl
  have hrest : ∀ (j : Nat) (c : UInt8), s.length + a.length + 1 ≤ j → (a ++ s ++ [10, 59] ++ t)[j]? = some c → c.toNat ≠ 10 := by
    intro j c hj h
    by_cases h1 : j = s.length + a.length + 1
    · subst h1; rw [hend2] at h; cases h; decide
    · rw [List.getElem?_append_right (by simp; omega)] at h
      exact ht c (List.mem_of_getElem? h)
  have hdone : ∀ (m fr : Nat) (text : List UInt8) (acc : List Tok), t.length + 6 ≤ m → lexM (a ++ s ++ [10, 59] ++ t) m 0 (s.length + a.length) fr text acc = some ⟨acc, 0, 0⟩ := by
    intro m fr text acc hm
    obtain ⟨m, rfl⟩ : ∃ q, m = q + 2 := ⟨m - 2, by omega⟩
    rw [lexM, hend]
    simp only
    rw [if_pos (by decide), lexM, hend2]
    simp only
    rw [if_neg (by decide), if_pos (by decide)]
    exact remark_run _ (t.length + 1) m _ _ _ _ (by simp; omega) (by omega) hrest
  have hesc : ∀ i, (escF (s.drop i)).2 ≠ 0 → i ≤ s.length → escF ((a ++ s ++ [10, 59] ++ t).drop (i + a.length)) = escF (s.drop i) := by
    intro i h hi
    have : (a ++ s ++ [10, 59] ++ t).drop (i + a.length) = s.drop i ++ ([10, 59] ++ t) := by
      rw [List.append_assoc, List.append_assoc, List.drop_append, List.drop_eq_nil_of_le (by omega), List.nil_append, Nat.add_sub_cancel, List.drop_append_of_le_length hi]
    rw [this, escF_append _ _ h]
  have hatom : ∀ i fr, i ≤ s.length → fr ≤ i → ((a ++ s ++ [10, 59] ++ t).drop (fr + a.length)).take (i + a.length - (fr + a.length)) = (s.drop fr).take (i - fr) := by
    intro i fr hi hf
    have : (a ++ s ++ [10, 59] ++ t).drop (fr + a.length) = s.drop fr ++ ([10, 59] ++ t) := by
      rw [List.append_assoc, List.append_assoc, List.drop_append, List.drop_eq_nil_of_le (by omega), List.nil_append, Nat.add_sub_cancel, List.drop_append_of_le_length (by omega)]
    rw [this, show i + a.length - (fr + a.length) = i - fr by omega, List.take_append_of_le_length (by rw [List.length_drop]; omega)]
  intro k
  induction k with
  | zero => intro lab i fr text acc R h; simp [lexM] at h
  | succ k ih =>
    intro lab i fr text acc R h he hi hf
    have hix : ∀ c, s[i]? = some c → i < s.length := fun c h => (List.getElem?_eq_some_iff.1 h).1
    rw [show k + 1 + t.length + 6 = (k + t.length + 6) + 1 by omega]
    match lab with
    | 0 =>
      rw [lexM] at h
      cases hc : s[i]? with
      | none =>
        rw [hc] at h
        cases h
        have : i = s.length := by have := List.getElem?_eq_none_iff.1 hc; omega
        subst this
        exact hdone _ _ _ _ (by omega)
      | some c =>
        have hlt := hix c hc
        rw [hc] at h
        rw [lexM, hin i c hc]
        simp only at h ⊢
        have e1 : i + a.length + 1 = i + 1 + a.length := by omega
        rw [e1]
        by_cases h1 : spc c = true
        · rw [if_pos h1] at h ⊢
          exact ih _ _ _ _ _ _ h he (by omega) (by omega)
        rw [if_neg h1] at h ⊢
        by_cases h2 : c.toNat = 59
        · rw [if_pos h2] at h ⊢
          exact ih _ _ _ _ _ _ h he (by omega) (by omega)
        rw [if_neg h2] at h ⊢
        by_cases h3 : c.toNat = 40
        · rw [if_pos h3] at h ⊢
          have := ih _ _ _ _ _ _ h he (by omega) (by omega)
          rw [List.map_append] at this
          exact this
        rw [if_neg h3] at h ⊢
        by_cases h4 : c.toNat = 41
        · rw [if_pos h4] at h ⊢
          have := ih _ _ _ _ _ _ h he (by omega) (by omega)
          rw [List.map_append] at this
          exact this
        rw [if_neg h4] at h ⊢
        by_cases h5 : c.toNat = 34
        · rw [if_pos h5] at h ⊢
          exact ih _ _ _ _ _ _ h he (by omega) (by omega)
        · rw [if_neg h5] at h ⊢
          exact ih _ _ _ _ _ _ h he (by omega) (by omega)
    | 1 =>
      rw [lexM] at h
      cases hc : s[i]? with
      | none =>
        rw [hc] at h
        have : i = s.length := by have := List.getElem?_eq_none_iff.1 hc; omega
        subst this
        rw [lexM, hend]
        simp only
        rw [if_pos (by decide)]
        exact ih _ _ _ _ _ _ h he (by omega) (by omega)
      | some c =>
        have hlt := hix c hc
        rw [hc] at h
        rw [lexM, hin i c hc]
        simp only at h ⊢
        by_cases h1 : c.toNat = 10
        · rw [if_pos h1] at h ⊢
          exact ih _ _ _ _ _ _ h he (by omega) (by omega)
        · rw [if_neg h1] at h ⊢
          have e1 : i + a.length + 1 = i + 1 + a.length := by omega
          rw [e1]
          exact ih _ _ _ _ _ _ h he (by omega) (by omega)
    | 2 =>
      rw [lexM] at h
      cases hc : s[i]? with
      | none => rw [hc] at h; cases h; simp at he
      | some c =>
        have hlt := hix c hc
        rw [hc] at h
        rw [lexM, hin i c hc]
        simp only at h ⊢
        have e1 : i + a.length + 1 = i + 1 + a.length := by omega
        rw [e1]
        by_cases h1 : c.toNat = 34
        · rw [if_pos h1] at h ⊢
          by_cases h2 : 200 < text.length
          · rw [if_pos h2] at h; cases h; simp at he
          · rw [if_neg h2] at h ⊢
            have := ih _ _ _ _ _ _ h he (by omega) (by omega)
            rw [List.map_append] at this
            exact this
        rw [if_neg h1] at h ⊢
        by_cases h2 : c.toNat = 92
        · rw [if_pos h2] at h ⊢
          by_cases h3 : (escF (s.drop (i + 1))).2 = 0
          · rw [if_pos h3] at h; cases h; simp at he
          · rw [if_neg h3] at h
            have er := escF_range (s.drop (i + 1))
            rw [List.length_drop] at er
            rw [hesc (i + 1) h3 (by omega), if_neg h3]
            have eb : escB ((a ++ s ++ [10, 59] ++ t).drop (i + 1 + a.length)) = escB (s.drop (i + 1)) := by unfold escB; rw [hesc (i + 1) h3 (by omega)]
            rw [eb, show i + a.length + (1 + (escF (s.drop (i + 1))).2.toNat) = i + (1 + (escF (s.drop (i + 1))).2.toNat) + a.length by omega]
            exact ih _ _ _ _ _ _ h he (by omega) (by omega)
        rw [if_neg h2] at h ⊢
        by_cases h3 : c.toNat < 32 ∨ 126 < c.toNat
        · rw [if_pos h3] at h; cases h; simp at he
        · rw [if_neg h3] at h ⊢
          exact ih _ _ _ _ _ _ h he (by omega) (by omega)
    | 3 =>
      rw [lexM] at h
      cases hc : s[i]? with
      | none =>
        rw [hc] at h
        have : i = s.length := by have := List.getElem?_eq_none_iff.1 hc; omega
        subst this
        rw [lexM, hend]
        simp only
        rw [if_pos (by decide), hatom _ _ (by omega) hf]
        have := ih _ _ _ _ _ _ h he (by omega) (by omega)
        rw [List.map_append] at this
        exact this
      | some c =>
        have hlt := hix c hc
        rw [hc] at h
        rw [lexM, hin i c hc]
        simp only at h ⊢
        by_cases h1 : special c = true
        · rw [if_pos h1] at h ⊢
          rw [hatom _ _ (by omega) hf]
          have := ih _ _ _ _ _ _ h he (by omega) (by omega)
          rw [List.map_append] at this
          exact this
        rw [if_neg h1] at h ⊢
        by_cases h2 : c.toNat < 33 ∨ 126 < c.toNat
        · rw [if_pos h2] at h; cases h; simp at he
        · rw [if_neg h2] at h ⊢
          have e1 : i + a.length + 1 = i + 1 + a.length := by omega
          rw [e1]
          exact ih _ _ _ _ _ _ h he (by omega) (by omega)
    | lab + 4 => simp [lexM] at h

theorem blanks_run (a r : List UInt8) (ha : ∀ c ∈ a, spc c = true) : ∀ (k i : Nat) (fr : Nat) (R : LexR), i ≤ a.length → (∀ fr, lexM (a ++ r) k 0 a.length fr [] [] = some R) → lexM (a ++ r) (k + (a.length - i)) 0 i fr [] [] = some R := by
  intro k i fr R hi h
  obtain ⟨d, hd⟩ : ∃ d, d = a.length - i := ⟨_, rfl⟩
  rw [← hd]
  induction d generalizing i fr with
  | zero =>
    have : i = a.length := by omega
    subst this
    exact h fr
  | succ d ih =>
    have hlt : i < a.length := by omega
    rw [show k + (d + 1) = (k + d) + 1 by omega, lexM, List.getElem?_append_left hlt, List.getElem?_eq_getElem hlt]
    simp only
    rw [if_pos (ha _ (List.getElem_mem hlt))]
    exact ih (i + 1) i (by omega) (by omega)

/-- A remark behind, blanks ahead: the tokens stand so much further. -/
theorem remarks_law (a s t : List UInt8) (ha : ∀ c ∈ a, spc c = true) (ht : ∀ c ∈ t, c.toNat ≠ 10) (he : (splitF s).err = 0) (hl : (a ++ s ++ [10, 59] ++ t).length ≤ 8192) :
    splitF (a ++ s ++ [10, 59] ++ t) = ⟨(splitF s).toks.map (shTok a.length), 0, 0⟩ := by
  have hs := splitF_small s he
  obtain ⟨R, hR⟩ := lexM_total s (4 * s.length + 3) 0 0 0 [] [] (by simp only [lexLeft]; omega) (by omega) (by omega) (by omega) (by omega) (by omega)
  have e : splitF s = R := splitF_of hs (by simp only [rounds]; omega) hR
  rw [e] at he ⊢
  have h1 : ∀ fr, lexM (a ++ (s ++ [10, 59] ++ t)) (4 * s.length + 3 + t.length + 6) 0 a.length fr [] [] = some ⟨R.toks.map (shTok a.length), 0, 0⟩ := by
    have := lex_sim a s t ht _ 0 0 0 [] [] R hR he (by omega) (by omega)
    simp only [Nat.zero_add, List.map_nil] at this
    intro fr
    rw [show a ++ (s ++ [10, 59] ++ t) = a ++ s ++ [10, 59] ++ t by simp]
    rw [show 4 * s.length + 3 + t.length + 6 = (4 * s.length + 3 + t.length + 5) + 1 by omega] at this ⊢
    rw [lexM] at this ⊢
    exact this
  have h2 := blanks_run a (s ++ [10, 59] ++ t) ha _ 0 0 _ (by omega) h1
  rw [show a ++ (s ++ [10, 59] ++ t) = a ++ s ++ [10, 59] ++ t by simp] at h2
  simp only [List.length_append, List.length_cons, List.length_nil] at hl
  exact splitF_of (by simp; omega) (by simp only [rounds]; omega) h2

end Go.Proofs.Ytcajleckiegffaa
