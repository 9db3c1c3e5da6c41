import Derived.Test.YthammkbenflchaaDoorNu1
namespace Go.Proofs.YthammkbenflchaaDoor
set_option linter.unusedSimpArgs false
set_option linter.unusedVariables false
open Go.Am Ieee
set_option maxRecDepth 100000

/-! ### of, Within, Less, One -/

abbrev I64 (a : Int) : Prop := -9223372036854775808 ≤ a ∧ a ≤ 9223372036854775807
abbrev ii (a : Int) : AV := .lit (.int .i64 a)

theorem c_of (n : Nat) {x y : Int} (hx : x.natAbs < 2 ^ 53) (hy : y.natAbs < 2 ^ 53) : ∃ v, CW v x y ∧ ∀ h, nc (n + 1) 19 [ii x, ii y] h = some (v, h) := by
  obtain ⟨a, a1, _, a2⟩ := i2f_fw hx []
  obtain ⟨b, b1, _, b2⟩ := i2f_fw hy []
  refine ⟨cx a b, ⟨a, b, rfl, a2, b2⟩, fun h => al (F := N19) ⟨[], ?_⟩ (fun _ => rfl) (fun _ => rfl) rfl rfl h⟩
  simp only [N19, F19, a1, opt_s, b1, bi_cx]

theorem tmod_fix (a m : Int) (hm : 0 < m) : (if a.tmod m < 0 then a.tmod m + m else a.tmod m) = a % m ∧ -m < a.tmod m ∧ a.tmod m < m := by
  have h2 := Int.emod_nonneg a (show m ≠ 0 by omega)
  have h3 := Int.emod_lt_of_pos a hm
  by_cases h0 : 0 ≤ a
  · rw [Int.tmod_eq_emod_of_nonneg h0]
    rw [if_neg (by omega)]
    exact ⟨rfl, by omega, h3⟩
  · have e : a.tmod m = -((-a) % m) := by
      have := Int.neg_tmod a m
      rw [Int.tmod_eq_emod_of_nonneg (by omega)] at this
      omega
    have h4 := Int.emod_nonneg (-a) (show m ≠ 0 by omega)
    have h5 := Int.emod_lt_of_pos (-a) hm
    have h6 := Int.mul_ediv_add_emod (-a) m
    generalize (-a) % m = r at *
    rw [e]
    refine ⟨?_, by omega, by omega⟩
    have e2 : a = -r + m * (-((-a) / m)) := by rw [Int.mul_neg]; omega
    by_cases hr : r = 0
    · subst hr
      rw [if_neg (by omega), e2]
      simp
    · rw [if_pos (by omega)]
      have e3 : a = (-r + m) + m * (-((-a) / m) - 1) := by
        rw [Int.mul_sub, Int.mul_neg, Int.mul_one]; omega
      rw [e3, Int.add_mul_emod_self_left, Int.emod_eq_of_lt (by omega) (by omega)]

theorem c_within (n : Nat) {a hi : Int} (h0 : 0 ≤ hi) (h1 : hi ≤ 1099511627776) (h : Heap) : nc (n + 1) 17 [ii a, ii 0, ii hi] h = some (ii (a % (hi + 1)), h) := by
  refine al (F := N17) ⟨[], ?_⟩ (fun _ => rfl) (fun _ => rfl) rfl rfl h
  obtain ⟨f1, f2, f3⟩ := tmod_fix a (hi + 1) (by omega)
  simp only [N17, F17, S17_2, fb_sub, opt_s, Int.sub_zero, fb_add]
  rw [wrap64 (n := hi) (by omega) (by omega), wrap64 (n := hi + 1) (by omega) (by omega), rem_int (by omega), opt_s]
  simp only [S17_1, fb_lss, opt_s, test_b, decide_eq_true_eq]
  rw [← f1]
  by_cases hn : a.tmod (hi + 1) < 0
  · rw [if_pos hn, if_pos hn]
    simp only [fb_add, opt_s, fb_sub, Int.sub_zero, S17_0, Int.zero_add]
    rw [wrap64 (n := a.tmod (hi + 1) + hi) (by omega) (by omega), wrap64 (n := a.tmod (hi + 1) + hi) (by omega) (by omega), wrap64 (n := a.tmod (hi + 1) + hi + 1) (by omega) (by omega), wrap64 (by omega) (by omega), Int.add_assoc]
  · rw [if_neg hn, if_neg hn]
    simp only [S17_0, fb_add, opt_s, Int.zero_add]
    rw [wrap64 (by omega) (by omega)]

def lessP (x y z u : Int) : Prop := x < z ∨ x = z ∧ y < u
instance (x y z u : Int) : Decidable (lessP x y z u) := by unfold lessP; infer_instance

theorem c_less (n : Nat) {v w : AV} {x y z u : Int} (hv : CW v x y) (hw : CW w z u) (h : Heap) : nc (n + 4) 20 [v, w] h = some (.lit (.bool (decide ((okP x ∧ okP y) ∧ (okP z ∧ okP u) ∧ lessP x y z u))), h) := by
  have r1 := fun h => c_right n hv h
  have r2 := fun h => c_right n hw h
  obtain ⟨a, b, rfl, ha, hb⟩ := hv
  obtain ⟨c, d, rfl, hc, hd⟩ := hw
  refine al (F := N20) ⟨[], ?_⟩ (fun _ => rfl) (fun _ => rfl) rfl rfl h
  simp only [N20, F20, S20_1, r1, opt2_s, not_b, opt_s, test_b]
  by_cases h1 : okP x ∧ okP y
  · simp only [h1, and_self, decide_true, Bool.not_true, Bool.false_eq_true, if_false, r2, opt2_s, not_b, opt_s, test_b, true_and]
    by_cases h2 : okP z ∧ okP u
    · simp only [h2, and_self, decide_true, Bool.not_true, Bool.false_eq_true, if_false, true_and, S20_0, bi_real, opt_s, fw_lss 40 ha hc, test_b, decide_eq_true_eq, fw_eql 40 ha hc, bi_imag, fw_lss 40 hb hd]
      by_cases h3 : x < z
      · rw [if_pos h3, decide_eq_true (show lessP x y z u from .inl h3)]
      · rw [if_neg h3]
        by_cases h4 : x = z
        · rw [if_pos h4]
          congr 4
          unfold lessP
          exact decide_eq_decide.2 (by omega)
        · rw [if_neg h4, decide_eq_false]
          unfold lessP; omega
    · simp only [h2, decide_false, Bool.not_false, if_true, false_and]
  · simp only [h1, decide_false, Bool.not_false, if_true, false_and]

def oneX (op : Nat) (x y : Int) : Int := if op = 0 then -x else if op = 1 then x else if op = 2 then x else y
def oneY (op : Nat) (x y : Int) : Int := if op = 0 then -y else if op = 1 then -y else 0
def op1S (op : Nat) : List UInt8 := if op = 0 then [110, 101, 103] else if op = 1 then [99, 111, 110, 106] else if op = 2 then [114, 101] else [105, 109]

theorem c_one (n : Nat) {op : Nat} (hop : op ≤ 3) {v : AV} {x y : Int} (hv : CW v x y) (hx : okP x) (hy : okP y) :
    ∃ r, (∀ h, nc (n + 4) 21 [.lit (.string ⟨⟨op1S op⟩⟩), v] h = some (r, h)) ∧ Got r (oneX op x y) (oneY op x y) 0 := by
  have r1 := fun h => c_right n hv h
  have ax := okP_abs hx
  have ay := okP_abs hy
  obtain ⟨a, b, rfl, ha, hb⟩ := hv
  have e0 : (.lit (.float .f64 0) : AV) = fl 0 := rfl
  have key : ∀ {q : AV} {X Y : Int}, CW q X Y → X.natAbs < 2 ^ 53 → Y.natAbs < 2 ^ 53 → (∀ w, (∀ h, nc (n + 2 + 1) 33 [q] h = some (w, h)) → F21 (nc (n + 3)) (.lit (.string ⟨⟨op1S op⟩⟩)) (cx a b) [] = some (.tup [w, ii 0], [])) →
      ∃ r, (∀ h, nc (n + 4) 21 [.lit (.string ⟨⟨op1S op⟩⟩), cx a b] h = some (r, h)) ∧ Got r X Y 0 := by
    intro q X Y hq hX hY hS
    obtain ⟨w, w1, w2⟩ := c_plain (n + 2) hq hX hY
    have hg : Got (.tup [w, ii 0]) X Y 0 := got_tup w1
    exact ⟨_, fun h => al (F := N21) ⟨[], (show N21 (nc (n + 3)) [.lit (.string ⟨⟨op1S op⟩⟩), cx a b] [] = some (.tup [w, ii 0], []) from hS w w2)⟩ (fun _ => rfl) (snap_got hg) rfl rfl h, hg⟩
  rcases (by omega : op = 0 ∨ op = 1 ∨ op = 2 ∨ op = 3) with rfl | rfl | rfl | rfl
  · refine key (X := -x) (Y := -y) ⟨_, _, rfl, FW.neg ha, FW.neg hb⟩ (by omega) (by omega) fun w hw => ?_
    have hw2 : ∀ h, nc (n + 3) 33 [cx (Op.negFloat .f64 a) (Op.negFloat .f64 b)] h = some (w, h) := hw
    simp only [F21, r1, hx, hy, and_self, decide_true, opt2_s, not_b, opt_s, test_b, Bool.not_true, Bool.false_eq_true, if_false, op1S, if_true, fb_eqls, un_negc, hw2]
  · refine key (X := x) (Y := -y) ⟨_, _, rfl, ha, FW.neg hb⟩ (by omega) (by omega) fun w hw => ?_
    have hw2 : ∀ h, nc (n + 3) 33 [cx a (Op.negFloat .f64 b)] h = some (w, h) := hw
    simp only [F21, r1, hx, hy, and_self, decide_true, opt2_s, not_b, opt_s, test_b, Bool.not_true, Bool.false_eq_true, if_false, op1S, fb_eqls, bi_real, bi_imag, un_neg, bi_cx, hw2]
    rfl
  · refine key (X := x) (Y := 0) ⟨_, _, rfl, ha, FW.zero⟩ (by omega) (by decide) fun w hw => ?_
    have hw2 : ∀ h, nc (n + 3) 33 [cx a 0] h = some (w, h) := hw
    simp only [F21, r1, hx, hy, and_self, decide_true, opt2_s, not_b, opt_s, test_b, Bool.not_true, Bool.false_eq_true, if_false, op1S, fb_eqls, bi_real, bi_imag, e0, bi_cx, hw2]
    rfl
  · refine key (X := y) (Y := 0) ⟨_, _, rfl, hb, FW.zero⟩ (by omega) (by decide) fun w hw => ?_
    have hw2 : ∀ h, nc (n + 3) 33 [cx b 0] h = some (w, h) := hw
    simp only [F21, r1, hx, hy, and_self, decide_true, opt2_s, not_b, opt_s, test_b, Bool.not_true, Bool.false_eq_true, if_false, op1S, fb_eqls, bi_real, bi_imag, e0, bi_cx, hw2]
    rfl

theorem bx_neqb (a b : Bool) : binX Tryd.prog .none .neq 4 (.lit (.bool a)) (.lit (.bool b)) = some (.lit (.bool (a != b))) := by
  cases a <;> cases b <;> kernel_rfl

/-! ### NumEdges -/

theorem neg_i {a : Int} (h : I64 (-a)) : litUn Tryd.prog .neg (ii a) = some (ii (-a)) := by
  rw [neg_int, Int.zero_sub, kwrap64 h.1 h.2]

theorem edges_ok (n : Nat) (a b : Int) : ∃ h', F5 (nc (n + 4)) (ii a) (ii b) [] = some (.lit (.bool true), h') := by
  have e1 := Int.emod_nonneg a (show (2097152 + 1 : Int) ≠ 0 by decide)
  have e2 := Int.emod_lt_of_pos a (show (0 : Int) < 2097152 + 1 by decide)
  have e3 := Int.emod_nonneg b (show (2097152 + 1 : Int) ≠ 0 by decide)
  have e4 := Int.emod_lt_of_pos b (show (0 : Int) < 2097152 + 1 by decide)
  simp only [F5, S5_6, c_within (n + 3) (a := a) (hi := 2097152) (by decide) (by decide), opt2_s, fb_sub, opt_s, S5_5, c_within (n + 3) (a := b) (hi := 2097152) (by decide) (by decide), S5_4, fb_add]
  generalize a % (2097152 + 1) = p at *
  generalize b % (2097152 + 1) = q at *
  rw [wrap64 (n := p - 1048576) (by omega) (by omega), wrap64 (n := q - 1048576) (by omega) (by omega)]
  have hx : okP (p - 1048576) := by unfold okP; omega
  have hy : okP (q - 1048576) := by unfold okP; omega
  generalize p - 1048576 = x at *
  generalize q - 1048576 = y at *
  clear e1 e2 e3 e4
  have hx' := hx
  have hy' := hy
  unfold okP at hx' hy'
  rw [wrap64 (n := x + y) (by omega) (by omega)]
  have hnx : okP (-x) := by unfold okP; omega
  have hny : okP (-y) := by unfold okP; omega
  obtain ⟨v, v1, v2⟩ := c_of (n + 3) (x := x) (y := -x) (by omega) (by omega)
  obtain ⟨w, w1, w2⟩ := c_of (n + 3) (x := y) (y := -y) (by omega) (by omega)
  obtain ⟨r, r1, r2, r3⟩ := c_two n (op := 0) (by decide) v1 w1 hx hnx hy hny
  have r1' : ∀ h, nc (n + 4) 18 [.lit (.string ⟨⟨[97, 100, 100]⟩⟩), v, w] h = some (r, h) := r1
  have v2' : ∀ h, nc (n + 4) 19 [ii x, ii (-x)] h = some (v, h) := v2
  have w2' : ∀ h, nc (n + 4) 19 [ii y, ii (-y)] h = some (w, h) := w2
  have kn : ∀ h, nc (n + 4) 13 [] h = some (.lit (.bool true), h) := c_known (n + 3)
  have tx : twoX 0 x (-x) y (-y) = x + y := rfl
  have ty : twoY 0 x (-x) y (-y) = -x + -y := rfl
  rw [tx, ty] at r2 r3
  simp only [S5_3, neg_i (a := x) ⟨by omega, by omega⟩, opt_s, v2', opt2_s, neg_i (a := y) ⟨by omega, by omega⟩, w2', r1']
  by_cases ho : okP (x + y) ∧ okP (-x + -y)
  · obtain ⟨q, rfl, hq⟩ := (r2 ho).val
    have hb := ho.1
    unfold okP at hb
    obtain ⟨s, s1, s2⟩ := c_of (n + 3) (x := x + y) (y := -(x + y)) (by omega) (by omega)
    have s2' : ∀ h, nc (n + 4) 19 [ii (x + y), ii (-(x + y))] h = some (s, h) := s2
    simp only [extract_tup, List.getElem?_cons_zero, List.getElem?_cons_succ, opt_s, S5_2, fb_gtr, fb_lss, test_b, decide_eq_true_eq]
    rw [if_neg (by omega)]
    simp only [S5_1, test_b, decide_eq_true_eq]
    rw [if_neg (by omega)]
    simp only [S5_0, fb_eql, opt_s, test_b, Int.natCast_zero, decide_true, if_true, neg_i (a := x + y) ⟨by omega, by omega⟩, s2', opt2_s, cw_eql 22 hq s1, decide_eq_true_eq, kn]
    rw [if_pos ⟨trivial, by omega⟩]
    exact ⟨_, rfl⟩
  · obtain ⟨q, rfl, hq⟩ := (r3 ho).val
    have hb : x + y < -1048576 ∨ 1048576 < x + y := by unfold okP at ho; omega
    have fin : ∃ h', S5_1 (nc (n + 4)) (ii (x + y)) q (ii ((44 : Nat) : Int)) (.lit (.bool true)) [] = some (.lit (.bool true), h') := by
      simp only [S5_1, test_b, if_true, fb_eql, opt_s, cw_eql 22 hq CW.zero, and_self, decide_true, kn, opt2_s]
      exact ⟨_, rfl⟩
    simp only [extract_tup, List.getElem?_cons_zero, List.getElem?_cons_succ, opt_s, S5_2, fb_gtr, fb_lss, test_b, decide_eq_true_eq]
    by_cases hg : 1048576 < x + y
    · rw [if_pos hg]; exact fin
    · rw [if_neg hg, decide_eq_true (show x + y < -1048576 by omega)]; exact fin

end Go.Proofs.YthammkbenflchaaDoor
