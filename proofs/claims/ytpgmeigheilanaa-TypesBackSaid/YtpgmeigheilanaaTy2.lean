import Derived.Test.YtpgmeigheilanaaTy1
import Derived.Lib.IndexAny
namespace Go.Proofs.Ytpgmeigheilanaa
set_option linter.unusedSimpArgs false
set_option linter.unusedVariables false
open Go.Am
set_option maxRecDepth 100000

/-! ### types.first and types.params read what is made -/

abbrev sv (s : List UInt8) : AV := .lit (.string ⟨⟨s⟩⟩)
abbrev iv (n : Int) : AV := .lit (.int .i64 n)

def seps : List UInt8 := [91, 93, 40, 41, 44]

/-- The calls that types.first makes of functions that are not its own. -/
structure LeafCall (call : CallF) : Prop where
  named : ∀ k h, ∃ a b, call 31 [sv (atomY k)] h = some (.tup [a, b, .lit (.bool (decide (2 ≤ k)))], h)
  plain : ∀ k h, call 33 [sv (atomY k)] h = some (.lit (.bool (decide (k < 2))), h)
  any : ∀ s h, s.length < 4294967281 → asc s → call 40 [sv s, sv [91, 93, 40, 41, 44]] h = some (iv (Lib.indexAny s seps), h)
  pre : ∀ s h, s.length < 4294967281 → call 39 [sv s, sv [40, 41]] h = some (.lit (.bool (decide (s.take 2 = [40, 41]))), h)

/-- What stands behind a type. -/
def ends : List UInt8 → Prop
  | [] => True
  | c :: _ => c = 93 ∨ c = 41 ∨ c = 44

theorem ends_rep (k : Nat) {rest : List UInt8} (h : ends rest) : ends (List.replicate k 93 ++ rest) := by
  cases k with
  | zero => exact h
  | succ k => rw [List.replicate_succ]; exact .inl rfl

theorem any_clean : ∀ (a r : List UInt8), (∀ c ∈ a, seps.contains c = false) → Lib.indexAny (a ++ r) seps = if Lib.indexAny r seps == -1 then -1 else (a.length : Int) + Lib.indexAny r seps
  | [], r, _ => by
    have := Lib.indexAny_ge seps r
    simp only [List.nil_append, List.length_nil]
    split
    · rename_i h; simpa using h
    · simp
  | c :: a, r, h => by
    have ih := any_clean a r fun x hx => h x (List.mem_cons_of_mem _ hx)
    have hc := h c (by simp)
    have hge := Lib.indexAny_ge seps r
    simp only [List.cons_append, Lib.indexAny, hc, Bool.false_eq_true, if_false, ih]
    by_cases e : (Lib.indexAny r seps == -1) = true
    · simp [e]
    · have e' : Lib.indexAny r seps ≠ -1 := by simpa using e
      simp only [e, Bool.false_eq_true, if_false, List.length_cons]
      rw [if_neg (by simp; omega)]
      omega

theorem atom_clean (k : Nat) : ∀ c ∈ atomY k, seps.contains c = false := by
  rcases atom_cases k with h | h | h | h | h <;> rw [h] <;> decide

theorem any_atom (k : Nat) {rest : List UInt8} (he : ends rest) : Lib.indexAny (atomY k ++ rest) seps = if rest = [] then -1 else ((atomY k).length : Int) := by
  rw [any_clean _ _ (atom_clean k)]
  cases rest with
  | nil => simp [Lib.indexAny]
  | cons c r =>
    have hc : seps.contains c = true := by
      rcases he with h | h | h <;> subst h <;> decide
    simp only [Lib.indexAny, hc, if_true]
    simp

theorem atom_len (k : Nat) : 0 < (atomY k).length ∧ (atomY k).length ≤ 5 := by
  rcases atom_cases k with h | h | h | h | h <;> rw [h] <;> decide

theorem text_pos (t : Y) : 0 < (textY t).length := by
  cases t with
  | atom k => simp only [textY]; exact (atom_len k).1
  | arr t => simp [textY]
  | fn ps r => simp [textY]

/-- The first byte of a type without brackets around it. -/
theorem core_head {c : Y} (hc : coreY c) : ∃ b l, textY c = b :: l ∧ b ≠ 91 ∧ (b = 40 ↔ ∃ ps r, c = .fn ps r) := by
  cases c with
  | atom k =>
    simp only [textY]
    rcases atom_cases k with h | h | h | h | h <;> rw [h] <;> exact ⟨_, _, rfl, by decide, ⟨fun h => absurd h (by decide), fun ⟨_, _, h⟩ => by cases h⟩⟩
  | arr t => exact absurd hc id
  | fn ps r => exact ⟨40, _, rfl, by decide, ⟨fun _ => ⟨ps, r, rfl⟩, fun _ => rfl⟩⟩

/-! the brackets in front -/

theorem open_ok (call : CallF) (h : Heap) {b : UInt8} (hb : b ≠ 91) (c0 : List UInt8) : ∀ (m k j : Nat), m < k → (List.replicate j 91 ++ (List.replicate m 91 ++ b :: c0)).length < 1000000 →
    S24_19l call k (sv (List.replicate j 91 ++ (List.replicate m 91 ++ b :: c0))) (iv j) h = S24_18 call (sv (List.replicate j 91 ++ (List.replicate m 91 ++ b :: c0))) (iv ((j + m : Nat) : Int)) h := by
  intro m
  induction m with
  | zero =>
    intro k j hk hl
    obtain ⟨k, rfl⟩ : ∃ k', k = k' + 1 := ⟨k - 1, by omega⟩
    have hl' := hl
    simp only [List.length_append, List.length_replicate, List.length_cons, List.replicate_zero, List.nil_append] at hl'
    have hg : (List.replicate j (91 : UInt8) ++ (List.replicate 0 91 ++ b :: c0))[j]? = some b := by
      rw [List.getElem?_append_right (by simp)]; simp
    have hb' : b.toNat ≠ 91 := fun e => hb (by
      apply UInt8.toNat_inj.1
      rw [e]; decide)
    show S24_21b call (S24_19l call k) _ _ h = _
    simp only [S24_21b, opt_s, opt_n, opt2_s, opt2_n, optH_s, test_b, eqK_s, eqH_s, fb_add, fb_sub, fb_mul, fb_eql, fb_neq, fb_lss, fb_leq, fb_gtr, fb_geq, fb_eqls, fb_neqs, not_b, pick_b, convI_i, lenStr_s, lenS_isl, lenS_sl, lenS_nil, extract_tup, decide_eq_true_eq, if_true, if_false, Bool.false_eq_true, decide_false, decide_true, Option.map_some, Option.map_none, ceq, clt1, clt2, cle1, cle2, ix_str (Int.natCast_nonneg _), Int.toNat_natCast, hg]
    rw [if_pos (by simp only [List.length_append, List.length_replicate, List.length_cons, List.replicate_zero, List.nil_append]; omega)]
    rw [if_neg hb', Nat.add_zero]
  | succ m ih =>
    intro k j hk hl
    obtain ⟨k, rfl⟩ : ∃ k', k = k' + 1 := ⟨k - 1, by omega⟩
    have hl' := hl
    simp only [List.length_append, List.length_replicate, List.length_cons] at hl'
    have e : List.replicate j (91 : UInt8) ++ (List.replicate (m + 1) 91 ++ b :: c0) = List.replicate (j + 1) 91 ++ (List.replicate m 91 ++ b :: c0) := by
      rw [List.replicate_succ (n := m), List.replicate_succ' (n := j)]; simp
    have hg : (List.replicate j (91 : UInt8) ++ (List.replicate (m + 1) 91 ++ b :: c0))[j]? = some 91 := by
      rw [List.getElem?_append_right (by simp)]; simp [List.replicate_succ]
    show S24_21b call (S24_19l call k) _ _ h = _
    have h91 : ((91 : UInt8).toNat : Int) = 91 := rfl
    simp only [S24_21b, opt_s, opt_n, opt2_s, opt2_n, optH_s, test_b, eqK_s, eqH_s, fb_add, fb_sub, fb_mul, fb_eql, fb_neq, fb_lss, fb_leq, fb_gtr, fb_geq, fb_eqls, fb_neqs, not_b, pick_b, convI_i, lenStr_s, lenS_isl, lenS_sl, lenS_nil, extract_tup, decide_eq_true_eq, if_true, if_false, Bool.false_eq_true, decide_false, decide_true, Option.map_some, Option.map_none, ceq, clt1, clt2, cle1, cle2, ix_str (Int.natCast_nonneg _), Int.toNat_natCast, hg, h91]
    rw [if_pos (by simp only [List.length_append, List.length_replicate, List.length_cons]; omega)]
    simp only [S24_20, opt_s, opt_n, opt2_s, opt2_n, optH_s, test_b, eqK_s, eqH_s, fb_add, fb_sub, fb_mul, fb_eql, fb_neq, fb_lss, fb_leq, fb_gtr, fb_geq, fb_eqls, fb_neqs, not_b, pick_b, convI_i, lenStr_s, lenS_isl, lenS_sl, lenS_nil, extract_tup, decide_eq_true_eq, if_true, if_false, Bool.false_eq_true, decide_false, decide_true, Option.map_some, Option.map_none, ceq, clt1, clt2, cle1, cle2]
    rw [wrap64 (by omega) (by omega)]
    rw [e] at hl ⊢
    have := ih k (j + 1) (by omega) hl
    rw [show ((j : Int) + 1) = ((j + 1 : Nat) : Int) from rfl, this]
    congr 3
    omega

/-! the brackets behind -/

theorem close_ok (call : CallF) (h : Heap) (rest : List UInt8) : ∀ (op k : Nat) (pre : List UInt8), op < k → (pre ++ (List.replicate op 93 ++ rest)).length < 1000000 →
    S24_4 call (S24_0g call k) (sv (pre ++ (List.replicate op 93 ++ rest))) (iv pre.length) (iv op) h = some (iv ((pre.length + op : Nat) : Int), h) := by
  intro op
  induction op with
  | zero =>
    intro k pre hk hl
    simp only [S24_4, S24_3, opt_s, opt_n, opt2_s, opt2_n, optH_s, test_b, eqK_s, eqH_s, fb_add, fb_sub, fb_mul, fb_eql, fb_neq, fb_lss, fb_leq, fb_gtr, fb_geq, fb_eqls, fb_neqs, not_b, pick_b, convI_i, lenStr_s, lenS_isl, lenS_sl, lenS_nil, extract_tup, decide_eq_true_eq, if_true, if_false, Bool.false_eq_true, decide_false, decide_true, Option.map_some, Option.map_none, ceq, clt1, clt2, cle1, cle2, Nat.add_zero]
    rw [if_neg (by simp)]
  | succ op ih =>
    intro k pre hk hl
    obtain ⟨k, rfl⟩ : ∃ k', k = k' + 1 := ⟨k - 1, by omega⟩
    have hl' := hl
    simp only [List.length_append, List.length_replicate] at hl'
    have hg : (pre ++ (List.replicate (op + 1) (93 : UInt8) ++ rest))[pre.length]? = some 93 := by
      rw [List.getElem?_append_right (by simp)]; simp [List.replicate_succ]
    have h93 : ((93 : UInt8).toNat : Int) = 93 := rfl
    have e : pre ++ (List.replicate (op + 1) (93 : UInt8) ++ rest) = (pre ++ [93]) ++ (List.replicate op 93 ++ rest) := by
      rw [List.replicate_succ]; simp
    simp only [S24_4, S24_3, S24_2, S24_1, opt_s, opt_n, opt2_s, opt2_n, optH_s, test_b, eqK_s, eqH_s, fb_add, fb_sub, fb_mul, fb_eql, fb_neq, fb_lss, fb_leq, fb_gtr, fb_geq, fb_eqls, fb_neqs, not_b, pick_b, convI_i, lenStr_s, lenS_isl, lenS_sl, lenS_nil, extract_tup, decide_eq_true_eq, if_true, if_false, Bool.false_eq_true, decide_false, decide_true, Option.map_some, Option.map_none, ceq, clt1, clt2, cle1, cle2, ix_str (Int.natCast_nonneg _), Int.toNat_natCast, hg, h93]
    rw [if_pos (by omega), if_neg (by simp only [List.length_append, List.length_replicate]; omega)]
    simp only [ne_eq, not_true_eq_false, if_false, S24_0g, S24_5L0_]
    rw [wrap64 (by omega) (by omega), wrap64 (by omega) (by omega)]
    rw [e] at hl ⊢
    have := ih k (pre ++ [93]) (by omega) hl
    rw [show ((pre.length : Int) + 1) = (((pre ++ [93]).length : Nat) : Int) from by simp, show (((op + 1 : Nat) : Int) - 1) = ((op : Nat) : Int) from by omega, this]
    congr 3
    simp only [List.length_append, List.length_singleton]
    omega

theorem close_first (call : CallF) (t0 t3 t4 : AV) (h : Heap) : S24_10 call t0 t3 t4 h = S24_4 call (S24_0g call rounds) t0 t3 t4 h := by
  simp only [S24_10, S24_9, S24_8, S24_7, S24_6, S24_4, S24_3, S24_2, S24_1]

theorem close_rounds (call : CallF) (t0 t3 t4 : AV) (h : Heap) {k : Nat} : S24_0g call (k + 1) 0 t0 t3 t4 h = S24_4 call (S24_0g call k) t0 t3 t4 h := nr rfl

end Go.Proofs.Ytpgmeigheilanaa
