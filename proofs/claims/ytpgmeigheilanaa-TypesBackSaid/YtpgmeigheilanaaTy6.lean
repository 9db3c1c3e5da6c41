import Derived.Test.YtpgmeigheilanaaTy5
namespace Go.Proofs.Ytpgmeigheilanaa
set_option linter.unusedSimpArgs false
set_option linter.unusedVariables false
open Go.Am
set_option maxRecDepth 100000

/-! ### Right, Elem, Array, Within; TypesLong -/

theorem bx_eqlb (a b : Bool) : binX Try.prog .none .eql 4 (.lit (.bool a)) (.lit (.bool b)) = some (.lit (.bool (a == b))) := by
  cases a <;> cases b <;> kernel_rfl

theorem F14_ok {call : CallF} (F : FirstCall call 200) {t : Y} (hg : goodY t) : ∃ h', F14 call (sv (textY t)) [] = some (.lit (.bool (decide ((textY t).length ≤ 200))), h') := by
  have hp := text_pos t
  have hne : textY t ≠ [] := fun e => by rw [e] at hp; simp at hp
  simp only [F14, fb_neqs, opt_s, test_b, lenStr_s, fb_leq, decide_eq_true_eq, cle1]
  rw [if_pos hne]
  by_cases h2 : (textY t).length ≤ 200
  · have f1 := F t [] [] hg h2 trivial .nil (by rw [List.append_nil]; omega)
    rw [List.append_nil] at f1
    rw [if_pos h2, f1]
    simp only [opt2_s, fb_eql, opt_s, decide_true, h2]
    exact ⟨_, rfl⟩
  · rw [if_neg h2]
    simp only [h2, decide_false]
    exact ⟨_, rfl⟩

theorem HasTypes.right {E : SEnv} (H : HasTypes E) (n : Nat) {t : Y} (hg : goodY t) (h : Heap) : scall E (n + 403) 14 [sv (textY t)] h = some (.lit (.bool (decide ((textY t).length ≤ 200))), h) := by
  have F := (H.both 200 (n + 400) (by omega)).1
  obtain ⟨h', r1⟩ := F14_ok F hg
  exact alone_call (n := n + 402) H.p14 H.f14 rfl r1 ⟨[], rfl⟩

def elemA (b : Bool) (s : List UInt8) : AV := .tup [sv (if b = true then s else []), .lit (.bool b)]

theorem F12_arr {call : CallF} {u : Y} (h14 : ∀ h, call 14 [sv (textY (.arr u))] h = some (.lit (.bool (decide ((textY (.arr u)).length ≤ 200))), h)) :
    ∃ h', F12 call (sv (textY (.arr u))) [] = some (elemA (decide ((textY (.arr u)).length ≤ 200)) (textY u), h') := by
  simp only [F12, S12_2, h14, opt2_s, not_b, opt_s, test_b]
  have e : textY (.arr u) = 91 :: (textY u ++ [93]) := by simp only [textY]
  have el : (textY (.arr u)).length = (textY u).length + 2 := by rw [e]; simp
  have h91 : ((91 : UInt8).toNat : Int) = 91 := rfl
  by_cases h2 : (textY (.arr u)).length ≤ 200
  · simp only [h2, decide_true, Bool.not_true, Bool.false_eq_true, if_false]
    rw [ix_str (by omega), e]
    simp only [Int.toNat_zero, List.getElem?_cons_zero, Option.map_some, opt_s, fb_neq, h91, ne_eq, not_true_eq_false, decide_false, S12_1, test_b, Bool.false_eq_true, if_false, S12_0, lenStr_s, fb_sub]
    have ew : fastWrap .i64 (((91 :: (textY u ++ [93])).length : Int) - 1) = (((textY u).length + 1 : Nat) : Int) := by
      rw [← e, el, wrap64 (by omega) (by omega)]; omega
    rw [ew, cut_str (by omega) (by omega) (by rw [← e, el]; omega)]
    refine ⟨[], ?_⟩
    have e1 : (List.drop (Int.toNat 1) (91 :: (textY u ++ [93]))).take ((((textY u).length + 1 : Nat) : Int).toNat - (1 : Int).toNat) = textY u := by
      rw [Int.toNat_natCast, show (1 : Int).toNat = 1 from rfl, Nat.add_sub_cancel]
      simp
    rw [e1]
    rfl
  · simp only [h2, decide_false, Bool.not_false, if_true, S12_1, test_b]
    exact ⟨_, rfl⟩

theorem F12_core {call : CallF} {t : Y} (hc : coreY t) (h14 : ∀ h, call 14 [sv (textY t)] h = some (.lit (.bool (decide ((textY t).length ≤ 200))), h)) :
    ∃ h', F12 call (sv (textY t)) [] = some (elemA false [], h') := by
  simp only [F12, S12_2, h14, opt2_s, not_b, opt_s, test_b]
  obtain ⟨b, l, hb, hne, _⟩ := core_head hc
  by_cases h2 : (textY t).length ≤ 200
  · simp only [h2, decide_true, Bool.not_true, Bool.false_eq_true, if_false]
    have hbn : ¬ ((b.toNat : Int) = 91) := fun e => hne (by
      apply UInt8.toNat_inj.1
      have : b.toNat = 91 := by omega
      rw [this]; decide)
    rw [ix_str (by omega), hb]
    simp only [Int.toNat_zero, List.getElem?_cons_zero, Option.map_some, opt_s, fb_neq, ne_eq, hbn, not_false_eq_true, decide_true, S12_1, test_b, if_true]
    exact ⟨_, rfl⟩
  · simp only [h2, decide_false, Bool.not_false, if_true, S12_1, test_b]
    exact ⟨_, rfl⟩

theorem HasTypes.elem_arr {E : SEnv} (H : HasTypes E) (n : Nat) {u : Y} (hg : goodY u) (h : Heap) : scall E (n + 404) 12 [sv (textY (.arr u))] h = some (elemA (decide ((textY (.arr u)).length ≤ 200)) (textY u), h) := by
  obtain ⟨h', r1⟩ := F12_arr (call := scall E (n + 403)) (u := u) fun h => H.right n (by simpa [goodY] using hg) h
  exact alone_call (n := n + 403) H.p12 H.f12 rfl r1 ⟨[], rfl⟩

theorem HasTypes.elem_core {E : SEnv} (H : HasTypes E) (n : Nat) {t : Y} (hc : coreY t) (hg : goodY t) (h : Heap) : scall E (n + 404) 12 [sv (textY t)] h = some (elemA false [], h) := by
  obtain ⟨h', r1⟩ := F12_core (call := scall E (n + 403)) hc fun h => H.right n hg h
  exact alone_call (n := n + 403) H.p12 H.f12 rfl r1 ⟨[], rfl⟩

theorem HasTypes.array {E : SEnv} (H : HasTypes E) (n : Nat) {s : List UInt8} (hs : s.length < 1000000) (h : Heap) : scall E (n + 1) 9 [sv s] h = some (sv (91 :: (s ++ [93])), h) := by
  refine alone_call (n := n) H.p9 H.f9 rfl (hc := []) (r0 := sv (91 :: (s ++ [93]))) ?_ ⟨[], rfl⟩
  simp only [N9, F9]
  rw [fb_adds (by simp only [List.length_cons, List.length_nil]; omega), opt_s, fb_adds (by simp only [List.length_cons, List.length_nil, List.length_append]; omega), opt_s]
  simp

theorem HasTypes.known {E : SEnv} (H : HasTypes E) (n : Nat) (h : Heap) : scall E (n + 1) 10 [] h = some (.lit (.bool true), h) := prim_call (p := knownP) H.p10 rfl rfl

theorem tmod_fix (a m : Int) (hm : 0 < m) : (if a.tmod m < 0 then a.tmod m + m else a.tmod m) = a % m ∧ -m < a.tmod m ∧ a.tmod m < m := by
  have h2 := Int.emod_nonneg a (show m ≠ 0 by omega)
  have h3 := Int.emod_lt_of_pos a hm
  by_cases h0 : 0 ≤ a
  · rw [Int.tmod_eq_emod_of_nonneg h0]
    rw [if_neg (by omega)]
    exact ⟨rfl, by omega, h3⟩
  · have e : a.tmod m = -((-a) % m) := by
      have := Int.neg_tmod a m
      rw [Int.tmod_eq_emod_of_nonneg (by omega)] at this
      omega
    have h4 := Int.emod_nonneg (-a) (show m ≠ 0 by omega)
    have h5 := Int.emod_lt_of_pos (-a) hm
    have h6 := Int.mul_ediv_add_emod (-a) m
    generalize (-a) % m = r at *
    rw [e]
    refine ⟨?_, by omega, by omega⟩
    have e2 : a = -r + m * (-((-a) / m)) := by rw [Int.mul_neg]; omega
    by_cases hr : r = 0
    · subst hr
      rw [if_neg (by omega), e2]
      simp
    · rw [if_pos (by omega)]
      have e3 : a = (-r + m) + m * (-((-a) / m) - 1) := by
        rw [Int.mul_sub, Int.mul_neg, Int.mul_one]; omega
      rw [e3, Int.add_mul_emod_self_left, Int.emod_eq_of_lt (by omega) (by omega)]

theorem HasTypes.within {E : SEnv} (H : HasTypes E) (n : Nat) {a hi : Int} (h0 : 0 ≤ hi) (h1 : hi ≤ 1099511627776) (h : Heap) : scall E (n + 1) 15 [iv a, iv 0, iv hi] h = some (iv (a % (hi + 1)), h) := by
  refine alone_call (n := n) H.p15 H.f15 rfl (hc := []) (r0 := iv (a % (hi + 1))) ?_ ⟨[], rfl⟩
  obtain ⟨f1, f2, f3⟩ := tmod_fix a (hi + 1) (by omega)
  simp only [N15, F15, S15_2, fb_sub, opt_s, Int.sub_zero, fb_add]
  rw [wrap64 (n := hi) (by omega) (by omega), wrap64 (n := hi + 1) (by omega) (by omega), rem_int (by omega), opt_s]
  simp only [S15_1, fb_lss, opt_s, test_b, decide_eq_true_eq]
  rw [← f1]
  by_cases hn : a.tmod (hi + 1) < 0
  · rw [if_pos hn, if_pos hn]
    simp only [fb_add, opt_s, fb_sub, Int.sub_zero, S15_0, Int.zero_add]
    rw [wrap64 (n := a.tmod (hi + 1) + hi) (by omega) (by omega), wrap64 (n := a.tmod (hi + 1) + hi) (by omega) (by omega), wrap64 (n := a.tmod (hi + 1) + hi + 1) (by omega) (by omega), wrap64 (by omega) (by omega), Int.add_assoc]
  · rw [if_neg hn, if_neg hn]
    simp only [S15_0, fb_add, opt_s, Int.zero_add]
    rw [wrap64 (by omega) (by omega)]

/-! the law -/

def bracs (k : Nat) : Y := arrN k (.atom 0)

theorem bracs_len (k : Nat) : (textY (bracs k)).length = 2 * k + 3 := by
  unfold bracs
  rw [text_arrN]
  simp [textY, atomY]
  omega

theorem bracs_good (k : Nat) : goodY (bracs k) := by
  unfold bracs
  induction k with
  | zero => simp [arrN, goodY]
  | succ k ih => simpa [arrN, goodY] using ih

/-- The calls of TypesLong. -/
structure LongCall (call : CallF) : Prop where
  array : ∀ s h, s.length < 1000000 → call 9 [sv s] h = some (sv (91 :: (s ++ [93])), h)
  right : ∀ t h, goodY t → call 14 [sv (textY t)] h = some (.lit (.bool (decide ((textY t).length ≤ 200))), h)
  elArr : ∀ u h, goodY u → call 12 [sv (textY (.arr u))] h = some (elemA (decide ((textY (.arr u)).length ≤ 200)) (textY u), h)
  elCore : ∀ t h, coreY t → goodY t → call 12 [sv (textY t)] h = some (elemA false [], h)
  within : ∀ (a hi : Int) h, 0 ≤ hi → hi ≤ 1099511627776 → call 15 [iv a, iv 0, iv hi] h = some (iv (a % (hi + 1)), h)
  known : ∀ h, call 10 [] h = some (.lit (.bool true), h)

theorem long_loop {call : CallF} (L : LongCall call) (m : Nat) (hm : m ≤ 150) (h : Heap) : ∀ (j k : Nat), m - j < k → j ≤ m → S4_1l call k (iv m) (sv (textY (bracs j))) (iv j) h = S4_0 call (iv m) (sv (textY (bracs m))) h := by
  intro j k
  induction k generalizing j with
  | zero => intro hk _; omega
  | succ k ih =>
    intro hk hj
    show S4_2b call (S4_1l call k) _ _ _ h = _
    simp only [S4_2b, fb_lss, opt_s, test_b, decide_eq_true_eq]
    by_cases hlt : j < m
    · rw [if_pos (by omega), L.array _ _ (by rw [bracs_len]; omega)]
      simp only [opt2_s, fb_add, opt_s]
      rw [wrap64 (by omega) (by omega)]
      have e : (91 :: (textY (bracs j) ++ [93]) : List UInt8) = textY (bracs (j + 1)) := by simp only [bracs, arrN, textY]
      rw [e, show ((j : Int) + 1) = ((j + 1 : Nat) : Int) from rfl]
      exact ih (j + 1) (by omega) (by omega)
    · rw [if_neg (by omega)]
      have : j = m := by omega
      subst this
      rfl

theorem long_end {call : CallF} (L : LongCall call) (m : Nat) (hm : m ≤ 150) (h : Heap) : S4_0 call (iv m) (sv (textY (bracs m))) h = some (.lit (.bool true), h) := by
  have hl := bracs_len m
  have hr := L.right (bracs m) h (bracs_good m)
  cases m with
  | zero =>
    have he := L.elCore (bracs 0) h (by simp [bracs, arrN, coreY]) (bracs_good 0)
    have h3 : (textY (bracs 0)).length ≤ 200 := by omega
    simp only [S4_0, he, opt2_s, elemA, extract_tup, List.getElem?_cons_zero, List.getElem?_cons_succ, opt_s, lenStr_s, fb_leq, cle1, hr, bx_eqlb, h3, decide_true, test_b, beq_self_eq_true, if_true, fb_gtr, not_b, L.known]
    rfl
  | succ m =>
    have he := L.elArr (bracs m) h (bracs_good m)
    have eb : Y.arr (bracs m) = bracs (m + 1) := rfl
    rw [eb] at he
    have ha := L.array (textY (bracs m)) h (by rw [bracs_len]; omega)
    have e : (91 :: (textY (bracs m) ++ [93]) : List UInt8) = textY (bracs (m + 1)) := by simp only [bracs, arrN, textY]
    rw [e] at ha
    by_cases h3 : (textY (bracs (m + 1))).length ≤ 200
    · have hg : decide ((0 : Int) < ((m + 1 : Nat) : Int)) = true := decide_eq_true (by omega)
      simp only [S4_0, he, opt2_s, elemA, extract_tup, List.getElem?_cons_zero, List.getElem?_cons_succ, opt_s, lenStr_s, fb_leq, cle1, hr, bx_eqlb, h3, decide_true, test_b, beq_self_eq_true, if_true, fb_gtr, hg, not_b, Bool.not_true, Bool.false_eq_true, if_false, ha, fb_eqls, L.known]
    · simp only [S4_0, he, opt2_s, elemA, extract_tup, List.getElem?_cons_zero, List.getElem?_cons_succ, opt_s, lenStr_s, fb_leq, cle1, hr, bx_eqlb, h3, decide_false, test_b, beq_self_eq_true, if_true, Bool.false_eq_true, if_false, not_b, Bool.not_false, L.known]

theorem F4_ok {call : CallF} (L : LongCall call) (a : Int) (h : Heap) : F4 call (iv a) h = some (.lit (.bool true), h) := by
  obtain ⟨m, hm, hm2⟩ : ∃ m : Nat, a % 151 = (m : Int) ∧ m ≤ 150 := ⟨(a % 151).toNat, by omega, by omega⟩
  simp only [F4, S4_6, L.within a 150 h (by omega) (by omega), opt2_s]
  rw [show a % (150 + 1) = (m : Int) from hm]
  simp only [S4_5, S4_4, S4_3]
  have e : ([110, 117, 109] : List UInt8) = textY (bracs 0) := rfl
  have := long_loop L m hm2 h 0 rounds (by simp only [rounds]; omega) (by omega)
  rw [e, show (0 : Int) = ((0 : Nat) : Int) from rfl, this]
  exact long_end L m hm2 h

end Go.Proofs.Ytpgmeigheilanaa
