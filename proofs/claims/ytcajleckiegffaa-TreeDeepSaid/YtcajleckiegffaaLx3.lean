import Derived.Test.YtcajleckiegffaaLx2
namespace Go.Proofs.Ytcajleckiegffaa
set_option linter.unusedSimpArgs false
set_option linter.unusedVariables false
open Go.Am
set_option maxRecDepth 100000

/-! ### The plain law -/

/-- Where a token ends, if it stands behind a place and says what is there. -/
def tokEnd (s : List UInt8) (at_ : Nat) (t : Tok) : Option Nat :=
  if at_ ≤ t.place ∧ t.place < s.length then
    match t.kind with
    | 1 => if s[t.place]? = some 40 then some (t.place + 1) else none
    | 2 => if s[t.place]? = some 41 then some (t.place + 1) else none
    | 3 => if t.text ≠ [] ∧ t.place + t.text.length ≤ s.length ∧ (s.drop t.place).take t.text.length = t.text then some (t.place + t.text.length) else none
    | 4 => if s[t.place]? = some 34 then some (t.place + t.text.length + 2) else none
    | _ => none
  else none

def chain (s : List UInt8) : Nat → List Tok → Option Nat
  | a, [] => some a
  | a, t :: l => (tokEnd s a t).bind fun b => chain s b l

theorem chain_snoc (s : List UInt8) (t : Tok) : ∀ (l : List Tok) (a b c : Nat), chain s a l = some b → tokEnd s b t = some c → chain s a (l ++ [t]) = some c
  | [], a, b, c, h, h2 => by cases h; simp [chain, h2]
  | x :: l, a, b, c, h, h2 => by
    simp only [chain, List.cons_append] at h ⊢
    cases hx : tokEnd s a x with
    | none => rw [hx] at h; cases h
    | some d =>
      rw [hx] at h
      exact chain_snoc s t l d b c h h2

theorem tokEnd_le {s : List UInt8} {a b c : Nat} (h : a ≤ b) {t : Tok} (ht : tokEnd s b t = some c) : tokEnd s a t = some c := by
  unfold tokEnd at ht ⊢
  split at ht
  · rename_i h1
    rw [if_pos ⟨by omega, h1.2⟩]
    exact ht
  · cases ht

theorem lexM_chain (s : List UInt8) : ∀ (k lab i fr : Nat) (text : List UInt8) (acc : List Tok) (R : LexR) (e : Nat), lexM s k lab i fr text acc = some R → i ≤ s.length → chain s 0 acc = some e →
    (lab = 0 → e ≤ i) → (lab = 1 → e ≤ i) → (lab = 2 → e ≤ fr ∧ s[fr]? = some 34 ∧ fr + 1 + text.length ≤ i) → (lab = 3 → e ≤ fr ∧ fr ≤ i ∧ (i = fr → ∃ c, s[i]? = some c ∧ special c = false)) →
    (R.err = 0 ∧ ∃ e', chain s 0 R.toks = some e' ∧ e' ≤ s.length) ∨ (R.err ≠ 0 ∧ R.toks = []) := by
  intro k
  induction k with
  | zero => intro lab i fr text acc R e h; simp [lexM] at h
  | succ k ih =>
    intro lab i fr text acc R e hR hi he p0 p1 p2 p3
    have hix : ∀ c, s[i]? = some c → i < s.length := fun c h => (List.getElem?_eq_some_iff.1 h).1
    match lab with
    | 0 =>
      have p0 := p0 rfl
      simp only [lexM] at hR
      cases hc : s[i]? with
      | none => rw [hc] at hR; cases hR; exact .inl ⟨rfl, e, he, by omega⟩
      | some c =>
        have hlt := hix c hc
        rw [hc] at hR
        simp only at hR
        split at hR
        · exact ih 0 _ _ _ _ R e hR (by omega) he (by omega) (by omega) (by omega) (by omega)
        split at hR
        · exact ih 1 _ _ _ _ R e hR (by omega) he (by omega) (by omega) (by omega) (by omega)
        split at hR
        · rename_i h40
          refine ih 0 _ _ _ _ R (i + 1) hR (by omega) (chain_snoc s _ acc 0 e _ he ?_) (by omega) (by omega) (by omega) (by omega)
          have : c = 40 := UInt8.toNat_inj.1 h40
          subst this
          simp only [tokEnd]
          rw [if_pos ⟨p0, hlt⟩, if_pos hc]
        split at hR
        · rename_i h41
          refine ih 0 _ _ _ _ R (i + 1) hR (by omega) (chain_snoc s _ acc 0 e _ he ?_) (by omega) (by omega) (by omega) (by omega)
          have : c = 41 := UInt8.toNat_inj.1 h41
          subst this
          simp only [tokEnd]
          rw [if_pos ⟨p0, hlt⟩, if_pos hc]
        split at hR
        · rename_i h34
          have : c = 34 := UInt8.toNat_inj.1 h34
          exact ih 2 _ _ _ _ R e hR (by omega) he (by omega) (by omega) (fun _ => ⟨p0, by rw [hc, this], by simp⟩) (by omega)
        · rename_i a1 a2 a3 a4 a5
          exact ih 3 _ _ _ _ R e hR (by omega) he (by omega) (by omega) (by omega) (fun _ => ⟨p0, by omega, fun _ => ⟨c, hc, by simp [special, a1, a2, a3, a4, a5]⟩⟩)
    | 1 =>
      have p1 := p1 rfl
      simp only [lexM] at hR
      cases hc : s[i]? with
      | none => rw [hc] at hR; exact ih 0 _ _ _ _ R e hR hi he (by omega) (by omega) (by omega) (by omega)
      | some c =>
        have hlt := hix c hc
        rw [hc] at hR
        simp only at hR
        split at hR
        · exact ih 0 _ _ _ _ R e hR hi he (by omega) (by omega) (by omega) (by omega)
        · exact ih 1 _ _ _ _ R e hR (by omega) he (by omega) (by omega) (by omega) (by omega)
    | 2 =>
      obtain ⟨q1, q2, q3⟩ := p2 rfl
      simp only [lexM] at hR
      cases hc : s[i]? with
      | none => rw [hc] at hR; cases hR; exact .inr ⟨by simp, rfl⟩
      | some c =>
        have hlt := hix c hc
        have er := escF_range (s.drop (i + 1))
        rw [List.length_drop] at er
        rw [hc] at hR
        simp only at hR
        split at hR
        · split at hR
          · cases hR; exact .inr ⟨by simp, rfl⟩
          · refine ih 0 _ _ _ _ R (fr + text.length + 2) hR (by omega) (chain_snoc s _ acc 0 e _ he ?_) (by omega) (by omega) (by omega) (by omega)
            simp only [tokEnd]
            rw [if_pos ⟨by omega, by omega⟩, if_pos q2]
        split at hR
        · split at hR
          · cases hR; exact .inr ⟨by simp, rfl⟩
          · exact ih 2 _ _ _ _ R e hR (by omega) he (by omega) (by omega) (fun _ => ⟨q1, q2, by simp; omega⟩) (by omega)
        split at hR
        · cases hR; exact .inr ⟨by simp, rfl⟩
        · exact ih 2 _ _ _ _ R e hR (by omega) he (by omega) (by omega) (fun _ => ⟨q1, q2, by simp; omega⟩) (by omega)
    | 3 =>
      obtain ⟨q1, q2, q3⟩ := p3 rfl
      have don : i ≠ fr → lexM s k 0 i fr text (acc ++ [⟨3, fr, (s.drop fr).take (i - fr)⟩]) = some R → (R.err = 0 ∧ ∃ e', chain s 0 R.toks = some e' ∧ e' ≤ s.length) ∨ (R.err ≠ 0 ∧ R.toks = []) := by
        intro hne hR
        have hl : ((s.drop fr).take (i - fr)).length = i - fr := by rw [List.length_take, List.length_drop]; omega
        refine ih 0 _ _ _ _ R i hR hi (chain_snoc s _ acc 0 e _ he ?_) (by omega) (by omega) (by omega) (by omega)
        simp only [tokEnd]
        rw [if_pos ⟨by omega, by omega⟩, hl, if_pos ⟨fun h0 => by rw [h0] at hl; simp at hl; omega, by omega, rfl⟩]
        congr 1
        omega
      simp only [lexM] at hR
      cases hc : s[i]? with
      | none =>
        rw [hc] at hR
        exact don (fun h => by obtain ⟨c, h1, _⟩ := q3 h; rw [hc] at h1; cases h1) hR
      | some c =>
        have hlt := hix c hc
        rw [hc] at hR
        simp only at hR
        split at hR
        · rename_i hsp
          exact don (fun h => by obtain ⟨c', h1, h2⟩ := q3 h; rw [hc] at h1; cases h1; rw [hsp] at h2; cases h2) hR
        split at hR
        · cases hR; exact .inr ⟨by simp, rfl⟩
        · exact ih 3 _ _ _ _ R e hR (by omega) he (by omega) (by omega) (by omega) (fun _ => ⟨q1, by omega, fun h => by omega⟩)
    | lab + 4 => simp [lexM] at hR

theorem splitF_chain (s : List UInt8) : ((splitF s).err = 0 ∧ ∃ e', chain s 0 (splitF s).toks = some e' ∧ e' ≤ s.length) ∨ ((splitF s).err ≠ 0 ∧ (splitF s).toks = []) := by
  by_cases h : 8192 < s.length
  · have : splitF s = ⟨[], 3, 0⟩ := if_pos h
    rw [this]; exact .inr ⟨by simp, rfl⟩
  · exact lexM_chain s _ 0 0 0 [] [] _ 0 (splitF_some (by omega)) (by omega) rfl (by omega) (by omega) (by omega) (by omega)

end Go.Proofs.Ytcajleckiegffaa
