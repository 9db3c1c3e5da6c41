import Derived.Test.YthammkbenflchaaDoorNu2
import Derived.Lib.ItoaMem
namespace Go.Proofs.YthammkbenflchaaDoor
set_option linter.unusedSimpArgs false
set_option linter.unusedVariables false
open Go.Am Ieee
set_option maxRecDepth 100000

/-! ### Digits -/

def dig (c : UInt8) : Bool := decide (48 ≤ c.toNat) && decide (c.toNat ≤ 57)
def dn (l : List UInt8) : Nat := l.foldl (fun n c => 10 * n + (c.toNat - 48)) 0
theorem dn_snoc (l : List UInt8) (c : UInt8) : dn (l ++ [c]) = 10 * dn l + (c.toNat - 48) := by simp [dn]

/-- A number that is told just where it is not too great. -/
def capOk (m V : Nat) : Prop := (V ≤ 1048576 → m = V) ∧ (1048576 < V → 1048576 < m)

abbrev ss (l : List UInt8) : AV := .lit (.string ⟨⟨l⟩⟩)

def dl (s : List UInt8) : List UInt8 := s.takeWhile dig
def rs (s : List UInt8) : List UInt8 := s.dropWhile dig

theorem dl_drop (s : List UInt8) : s.drop (dl s).length = rs s := by
  induction s with
  | nil => rfl
  | cons c s ih =>
    simp only [dl, rs, List.takeWhile_cons, List.dropWhile_cons]
    cases h : dig c with
    | true => simpa [dl, rs] using ih
    | false => rfl

/-- Where the digits end. -/
theorem dl_at (s : List UInt8) (i : Nat) (h : ∀ c ∈ s.take i, dig c = true) (hi : i ≤ s.length) (he : ∀ c, s[i]? = some c → dig c = false) : s.take i = dl s ∧ i = (dl s).length := by
  induction s generalizing i with
  | nil => simp at hi; subst hi; exact ⟨rfl, rfl⟩
  | cons c s ih =>
    cases i with
    | zero =>
      have := he c rfl
      simp [dl, List.takeWhile_cons, this]
    | succ i =>
      have hc : dig c = true := h c (by simp)
      obtain ⟨h1, h2⟩ := ih i (fun x hx => h x (by simp [hx])) (by simpa using hi) (fun x hx => he x (by simpa using hx))
      have e : dl (c :: s) = c :: dl s := by simp [dl, List.takeWhile_cons, hc]
      rw [e]
      exact ⟨by rw [List.take_succ_cons, h1], by simp [← h2]⟩

theorem dig_true {c : UInt8} : dig c = true ↔ 48 ≤ c.toNat ∧ c.toNat ≤ 57 := by simp [dig]

theorem ix0 (l : List UInt8) (i : Nat) : fastIndex (ss l) (ii i) = (l[i]?).map fun b => .lit (.int .u8 b.toNat) := by
  rw [ix_str (Int.natCast_nonneg _), Int.toNat_natCast]

theorem sub48 {c : UInt8} (h : 48 ≤ c.toNat) : fastWrap .u8 ((c.toNat : Int) - 48) = ((c.toNat - 48 : Nat) : Int) := by
  have := c.toNat_lt
  rw [wrap8 (by omega) (by omega)]; omega

theorem digits_loop (call : CallF) {s : List UInt8} (hs : s.length ≤ 9223372036854775807) :
    ∀ (k i m : Nat) (h : Heap), (∀ c ∈ s.take i, dig c = true) → i ≤ s.length → s.length - i < k → capOk m (dn (s.take i)) → m ≤ 10485760 →
      ∃ (m' w : Nat), S31_1l call k (ss s) (ii (m : Int)) (ii (i : Int)) h = some (.tup [fl w, ss (rs s), .lit (.bool (decide (dl s ≠ [])))], h) ∧ FW w (m' : Int) ∧ capOk m' (dn (dl s)) ∧ m' ≤ 10485760 := by
  intro k
  induction k with
  | zero => intro i m h _ _ hk; omega
  | succ k ih =>
    intro i m h hd hi hk hc hm
    show ∃ (m' w : Nat), S31_3b call (S31_1l call k) _ _ _ h = _ ∧ _
    have fin : (∀ c, s[i]? = some c → dig c = false) → ∃ (m' w : Nat), S31_0 call (ss s) (ii (m : Int)) (ii (i : Int)) h = some (.tup [fl w, ss (rs s), .lit (.bool (decide (dl s ≠ [])))], h) ∧ FW w (m' : Int) ∧ capOk m' (dn (dl s)) ∧ m' ≤ 10485760 := by
      intro he
      obtain ⟨e1, e2⟩ := dl_at s i hd hi he
      obtain ⟨w, w1, _, w2⟩ := i2f_fw (n := (m : Int)) (by omega) h
      refine ⟨m, w, ?_, w2, by rw [← e1]; exact hc, hm⟩
      simp only [S31_0, w1, opt_s, eqH_s, cut_from (Int.natCast_nonneg _) (show (i : Int) ≤ (s.length : Int) by omega), Int.toNat_natCast, fb_gtr, clt2]
      have e3 : s.drop i = rs s := by rw [← dl_drop s, ← e2]
      have e4 : decide (0 < i) = decide (dl s ≠ []) := by
        apply decide_eq_decide.2
        rw [e2]
        exact List.length_pos_iff
      rw [e3, e4]
    simp only [S31_3b, lenStr_s, opt_s, fb_lss, test_b, decide_eq_true_eq]
    by_cases hlt : i < s.length
    · rw [if_pos (by omega)]
      obtain ⟨c, hcx⟩ : ∃ c, s[i]? = some c := ⟨s[i], List.getElem?_eq_getElem hlt⟩
      simp only [ix0, hcx, Option.map_some, opt_s, fb_geq, fb_leq, test_b, decide_eq_true_eq, cle2, cle1]
      by_cases h48 : 48 ≤ c.toNat
      · rw [if_pos h48]
        by_cases h57 : c.toNat ≤ 57
        · rw [if_pos h57]
          have ht : s.take (i + 1) = s.take i ++ [c] := by
            have hg : s[i] = c := (List.getElem?_eq_some_iff.1 hcx).2
            rw [List.take_succ_eq_append_getElem hlt, hg]
          have hw1 : fastWrap .i64 ((10 : Int) * (m : Int)) = ((10 * m : Nat) : Int) := by rw [wrap64 (by omega) (by omega)]; omega
          have hw2 : fastWrap .i64 (((c.toNat - 48 : Nat) : Int)) = ((c.toNat - 48 : Nat) : Int) := wrap64 (by omega) (by omega)
          have hw3 : fastWrap .i64 (((10 * m : Nat) : Int) + ((c.toNat - 48 : Nat) : Int)) = ((10 * m + (c.toNat - 48) : Nat) : Int) := by rw [wrap64 (by omega) (by omega)]; omega
          have hw4 : fastWrap .i64 ((i : Int) + 1) = ((i + 1 : Nat) : Int) := by rw [wrap64 (by omega) (by omega)]; rfl
          have hmin : (if (10485760 : Int) < ((10 * m + (c.toNat - 48) : Nat) : Int) then (10485760 : Int) else ((10 * m + (c.toNat - 48) : Nat) : Int)) = ((min (10 * m + (c.toNat - 48)) 10485760 : Nat) : Int) := by
            split <;> omega
          simp only [S31_2, fb_mul, opt_s, ix0, hcx, Option.map_some, fb_sub, sub48 h48, convI_i, fb_add, hw1, hw2, hw3]
          rw [bi_min, hmin, opt_s, hw4]
          clear hmin hw1 hw2 hw3 hw4
          have a2 : s.length - (i + 1) < k := by clear hc hm; omega
          refine ih (i + 1) (min (10 * m + (c.toNat - 48)) 10485760) h ?_ hlt a2 ?_ (Nat.min_le_right _ _)
          · rw [ht]
            intro x hx
            rcases List.mem_append.1 hx with hx | hx
            · exact hd x hx
            · rw [List.mem_singleton] at hx; subst hx; exact dig_true.2 ⟨h48, h57⟩
          · rw [ht, dn_snoc]
            obtain ⟨c1, c2⟩ := hc
            generalize dn (s.take i) = V at c1 c2
            constructor
            · intro hV; have := c1 (by omega); omega
            · intro hV
              by_cases h5 : V ≤ 1048576
              · have := c1 h5; omega
              · have := c2 (by omega); omega
        · rw [if_neg h57]
          exact fin fun x hx => by
            rw [hcx] at hx; cases hx
            rw [← Bool.not_eq_true, dig_true]; omega
      · rw [if_neg h48]
        exact fin fun x hx => by
          rw [hcx] at hx; cases hx
          rw [← Bool.not_eq_true, dig_true]; omega
    · rw [if_neg (by omega)]
      exact fin fun x hx => by rw [List.getElem?_eq_none (by omega)] at hx; cases hx

theorem c_digits (n : Nat) {s : List UInt8} (hs : s.length ≤ 9223372036854775807) :
    ∃ (m w : Nat), (∀ h, nc (n + 1) 31 [ss s] h = some (.tup [fl w, ss (rs s), .lit (.bool (decide (dl s ≠ [])))], h)) ∧ FW w (m : Int) ∧ capOk m (dn (dl s)) ∧ m ≤ 10485760 := by
  obtain ⟨m, w, h1, h2, h3, h4⟩ := digits_loop (nc n) hs rounds 0 0 [] (by simp) (Nat.zero_le _) (by simp only [rounds]; omega) (by simp [capOk, dn]) (by decide)
  refine ⟨m, w, fun h => al (F := N31) ⟨[], ?_⟩ (fun _ => rfl) (fun _ => rfl) rfl rfl h, h2, h3, h4⟩
  simp only [N31, F31, S31_5, S31_4]
  exact h1

/-! the document's own -/

theorem part_loop (call : CallF) {s : List UInt8} (hs : s.length ≤ 9223372036854775807) :
    ∀ (k i m : Nat) (h : Heap), (∀ c ∈ s.take i, dig c = true) → i ≤ s.length → s.length - i < k → capOk m (dn (s.take i)) → m ≤ 17592186044416 →
      ∃ m' : Nat, S34_1l call k (ss s) (ii (m : Int)) (ii (i : Int)) h = some (.tup [ii (m' : Int), ss (rs s), .lit (.bool (decide (dl s ≠ [])))], h) ∧ capOk m' (dn (dl s)) ∧ m' ≤ 17592186044416 := by
  intro k
  induction k with
  | zero => intro i m h _ _ hk; omega
  | succ k ih =>
    intro i m h hd hi hk hc hm
    show ∃ m' : Nat, S34_4b call (S34_1l call k) _ _ _ h = _ ∧ _
    have fin : (∀ c, s[i]? = some c → dig c = false) → ∃ m' : Nat, S34_0 call (ss s) (ii (m : Int)) (ii (i : Int)) h = some (.tup [ii (m' : Int), ss (rs s), .lit (.bool (decide (dl s ≠ [])))], h) ∧ capOk m' (dn (dl s)) ∧ m' ≤ 17592186044416 := by
      intro he
      obtain ⟨e1, e2⟩ := dl_at s i hd hi he
      refine ⟨m, ?_, by rw [← e1]; exact hc, hm⟩
      simp only [S34_0, opt_s, eqH_s, cut_from (Int.natCast_nonneg _) (show (i : Int) ≤ (s.length : Int) by omega), Int.toNat_natCast, fb_gtr, clt2]
      have e3 : s.drop i = rs s := by rw [← dl_drop s, ← e2]
      have e4 : decide (0 < i) = decide (dl s ≠ []) := by
        apply decide_eq_decide.2
        rw [e2]
        exact List.length_pos_iff
      rw [e3, e4]
    simp only [S34_4b, lenStr_s, opt_s, fb_lss, test_b, decide_eq_true_eq]
    by_cases hlt : i < s.length
    · rw [if_pos (by omega)]
      obtain ⟨c, hcx⟩ : ∃ c, s[i]? = some c := ⟨s[i], List.getElem?_eq_getElem hlt⟩
      simp only [ix0, hcx, Option.map_some, opt_s, fb_geq, fb_leq, test_b, decide_eq_true_eq, cle2, cle1]
      by_cases h48 : 48 ≤ c.toNat
      · rw [if_pos h48]
        by_cases h57 : c.toNat ≤ 57
        · rw [if_pos h57]
          have ht : s.take (i + 1) = s.take i ++ [c] := by
            have hg : s[i] = c := (List.getElem?_eq_some_iff.1 hcx).2
            rw [List.take_succ_eq_append_getElem hlt, hg]
          have hd' : ∀ c ∈ s.take (i + 1), dig c = true := by
            rw [ht]
            intro x hx
            rcases List.mem_append.1 hx with hx | hx
            · exact hd x hx
            · rw [List.mem_singleton] at hx; subst hx; exact dig_true.2 ⟨h48, h57⟩
          have hw4 : fastWrap .i64 ((i : Int) + 1) = ((i + 1 : Nat) : Int) := by rw [wrap64 (by omega) (by omega)]; rfl
          simp only [S34_3, fb_lss, opt_s, test_b, decide_eq_true_eq, clt1]
          obtain ⟨c1, c2⟩ := hc
          by_cases hmx : m < 1099511627776
          · rw [if_pos hmx]
            have hw1 : fastWrap .i64 ((m : Int) * 10) = ((10 * m : Nat) : Int) := by rw [wrap64 (by omega) (by omega)]; omega
            have hw2 : fastWrap .i64 (((c.toNat - 48 : Nat) : Int)) = ((c.toNat - 48 : Nat) : Int) := wrap64 (by omega) (by omega)
            have hw3 : fastWrap .i64 (((10 * m : Nat) : Int) + ((c.toNat - 48 : Nat) : Int)) = ((10 * m + (c.toNat - 48) : Nat) : Int) := by rw [wrap64 (by omega) (by omega)]; omega
            simp only [fb_mul, opt_s, ix0, hcx, Option.map_some, fb_sub, sub48 h48, convI_i, fb_add, hw1, hw2, hw3, S34_2, hw4]
            refine ih (i + 1) _ h hd' hlt (by omega) ?_ (by omega)
            rw [ht, dn_snoc]
            generalize dn (s.take i) = V at c1 c2
            constructor
            · intro hV; have := c1 (by omega); omega
            · intro hV
              by_cases h5 : V ≤ 1048576
              · have := c1 h5; omega
              · have := c2 (by omega); omega
          · rw [if_neg hmx]
            simp only [S34_2, fb_add, opt_s, hw4]
            refine ih (i + 1) m h hd' hlt (by omega) ?_ hm
            rw [ht, dn_snoc]
            generalize dn (s.take i) = V at c1 c2
            constructor
            · intro hV; have := c1 (by omega); omega
            · intro hV; omega
        · rw [if_neg h57]
          exact fin fun x hx => by
            rw [hcx] at hx; cases hx
            rw [← Bool.not_eq_true, dig_true]; omega
      · rw [if_neg h48]
        exact fin fun x hx => by
          rw [hcx] at hx; cases hx
          rw [← Bool.not_eq_true, dig_true]; omega
    · rw [if_neg (by omega)]
      exact fin fun x hx => by rw [List.getElem?_eq_none (by omega)] at hx; cases hx

theorem c_rpart (n : Nat) {s : List UInt8} (hs : s.length ≤ 9223372036854775807) :
    ∃ m : Nat, (∀ h, nc (n + 1) 34 [ss s] h = some (.tup [ii (m : Int), ss (rs s), .lit (.bool (decide (dl s ≠ [])))], h)) ∧ capOk m (dn (dl s)) ∧ m ≤ 17592186044416 := by
  obtain ⟨m, h1, h2, h3⟩ := part_loop (nc n) hs rounds 0 0 [] (by simp) (Nat.zero_le _) (by simp only [rounds]; omega) (by simp [capOk, dn]) (by decide)
  refine ⟨m, fun h => al (F := N34) ⟨[], ?_⟩ (fun _ => rfl) (fun _ => rfl) rfl rfl h, h2, h3⟩
  simp only [N34, F34, S34_7, S34_6, S34_5]
  exact h1

end Go.Proofs.YthammkbenflchaaDoor
