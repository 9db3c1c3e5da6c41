import Derived.Test.YthammkbenflchaaDoorFl2
namespace Go.Proofs.YthammkbenflchaaDoor
set_option linter.unusedSimpArgs false
set_option linter.unusedVariables false
open Go.Am Ieee
set_option maxRecDepth 100000
variable {P : Program}

theorem xor_top {r : Nat} (h : r < 2 ^ 63) : r ^^^ 2 ^ 63 = 2 ^ 63 + r := by
  apply Nat.eq_of_testBit_eq
  intro i
  rw [Nat.testBit_xor, Nat.testBit_two_pow]
  rcases Nat.lt_trichotomy i 63 with h1 | h1 | h1
  · rw [Nat.testBit_two_pow_add_gt h1]
    have : decide (63 = i) = false := decide_eq_false (by omega)
    rw [this]; simp
  · subst h1
    rw [Nat.testBit_two_pow_add_eq]; simp [Nat.testBit_lt_two_pow h]
  · have h2 : r.testBit i = false := Nat.testBit_lt_two_pow (Nat.lt_of_lt_of_le h (Nat.pow_le_pow_right (by decide) (by omega)))
    have h3 : (2 ^ 63 + r).testBit i = false := Nat.testBit_lt_two_pow (Nat.lt_of_lt_of_le (show 2 ^ 63 + r < 2 ^ 64 by omega) (Nat.pow_le_pow_right (by decide) (by omega)))
    rw [h2, h3]
    have : decide (63 = i) = false := decide_eq_false (by omega)
    rw [this]; rfl

theorem word_neg {r : Nat} (s : Bool) (h : r < 2 ^ 63) : double.word s r ^^^ 2 ^ 63 = double.word (!s) r := by
  cases s
  · exact xor_top h
  · show (2 ^ 63 + r) ^^^ 2 ^ 63 = r
    rw [← xor_top h, Nat.xor_assoc, Nat.xor_self, Nat.xor_zero]

theorem int_rung {M : Nat} (h : M < 2 ^ 53) : (if M = 0 then 0 else (M.log2 + 1022) * 2 ^ 52 + M * 2 ^ (52 - M.log2)) < 2 ^ 63 := by
  by_cases h0 : M = 0
  · rw [if_pos h0]; decide
  · have hl := log2_small h0 h
    obtain ⟨f1, f2⟩ := full h0 h
    rw [if_neg h0]
    have : (M.log2 + 1022) * 2 ^ 52 ≤ 1074 * 2 ^ 52 := Nat.mul_le_mul_right _ (by omega)
    omega

theorem FW.neg {a : Nat} {x : Int} (h : FW a x) : FW (Op.negFloat .f64 a) (-x) := by
  obtain ⟨s, M, h1, rfl, rfl⟩ := h
  refine ⟨!s, M, h1, by cases s <;> simp [sgn], ?_⟩
  exact word_neg s (int_rung h1)

theorem wrap_u64 {n : Int} (h0 : 0 ≤ n) (h1 : n < 18446744073709551616) : IntKind.u64.wrap n = n := by
  unfold IntKind.wrap
  simp [IntKind.signed, IntKind.bits]
  omega

theorem not_top {a : Nat} (h : a < 2 ^ 64) : (BitVec.ofInt 64 (a : Int) &&& ~~~(BitVec.ofInt 64 9223372036854775808)).toNat = a % 2 ^ 63 := by
  rw [BitVec.toNat_and]
  have e1 : (BitVec.ofInt 64 (a : Int)).toNat = a := by rw [BitVec.toNat_ofInt]; omega
  have e2 : (~~~(BitVec.ofInt 64 9223372036854775808)).toNat = 2 ^ 63 - 1 := by decide
  rw [e1, e2, Nat.and_two_pow_sub_one_eq_mod]

theorem ab_slow {a : Nat} (h : a < 2 ^ 64) (t : TypeId) : binX P .none .andNot t (.lit (.int .u64 a)) (.lit (.int .u64 9223372036854775808)) = some (.lit (.int .u64 ((a % 2 ^ 63 : Nat) : Int))) := by
  refine bx_slow (v := .int .u64 ((a % 2 ^ 63 : Nat) : Int)) rfl rfl rfl (s := Op.intBits .andNot .u64 a 9223372036854775808) rfl ?_ (by simp)
  have : Op.intBits .andNot .u64 a 9223372036854775808 = pure (.int .u64 (IntKind.u64.wrap ((BitVec.ofInt 64 (a : Int) &&& ~~~(BitVec.ofInt 64 9223372036854775808)).toNat : Int))) := rfl
  rw [this, not_top h, wrap_u64 (by omega) (by omega)]
  rfl

theorem int_lt {s : Bool} {M : Nat} (h : M < 2 ^ 53) : intWord s M < 2 ^ 64 := by
  have := int_rung h
  unfold intWord Format.word
  rw [signD]
  split <;> omega

theorem int_abs {s : Bool} {M : Nat} (h : M < 2 ^ 53) : intWord s M % 2 ^ 63 = intWord false M := by
  have := int_rung h
  unfold intWord Format.word
  rw [signD]
  cases s
  · simp only [Bool.false_eq_true, if_false]; exact Nat.mod_eq_of_lt this
  · simp only [if_true, Bool.false_eq_true, if_false]; rw [Nat.add_mod_left]; exact Nat.mod_eq_of_lt this

theorem FW.lt {a : Nat} {x : Int} (h : FW a x) : a < 2 ^ 64 := by
  obtain ⟨s, M, h1, rfl, rfl⟩ := h; exact int_lt h1

theorem FW.abs {a : Nat} {x : Int} (h : FW a x) : FW (a % 2 ^ 63) (x.natAbs : Int) := by
  obtain ⟨s, M, h1, rfl, rfl⟩ := h
  refine ⟨false, M, h1, ?_, int_abs h1⟩
  rw [sgn_abs]; rfl

/-- The function of a number's word (which nought it is told of is left open). -/
theorem trunc_fw {a : Nat} {x : Int} (h : FW a x) : ∃ w, litCall Tryd.prog [fl a] 48 = some (fl w) ∧ FW w x := by
  obtain ⟨s, M, h1, hx, h2⟩ := h.read.integral .zero
  obtain ⟨s', M', k, _, _, hd⟩ := h.read
  have hd' : FloatKind.f64.decode a = .number s' (M' * 2 ^ k) (-(k : Int)) := hd
  have e : Extern.MathFloor.toIntegral "math.archTrunc" .zero #[.float .f64 a] = pure (.float .f64 (FloatKind.f64.encode ((FloatKind.f64.decode a).integral .zero))) := by
    show (match FloatKind.f64.decode a with
      | .nan s t => if FloatKind.f64.format.quiet t = t then (pure (.float .f64 a) : Sem Value) else _
      | d => pure (.float .f64 (FloatKind.f64.encode (d.integral .zero)))) = _
    rw [hd']
  have h2' : (FloatKind.f64.decode a).integral .zero = .number s M 0 := h2
  rw [lit_trunc, e, Sem.pb, h2']
  refine ⟨_, rfl, s, M, h1, hx, ?_⟩
  have := nearest_int s h1 0
  rw [Nat.pow_zero, Nat.mul_one] at this
  exact this

theorem f2i_fw {a : Nat} {x : Int} (h : FW a x) (hp : Heap) : convX Tryd.prog 40 3 (fl a) hp = some (.lit (.int .i64 x)) ∧ convX Tryd.prog 40 2 (fl a) hp = some (.lit (.int .i64 x)) := by
  have h1 : (FloatKind.f64.decode a).toInt .zero = some x := h.read.toInt .zero
  have hb : -9223372036854775808 ≤ x ∧ x ≤ 9223372036854775807 := by
    obtain ⟨s, M, h1, rfl, rfl⟩ := h
    cases s <;> simp [sgn] <;> omega
  have e : Conv.floatToInt .f64 a .i64 = pure (.int .i64 x) := by
    unfold Conv.floatToInt
    simp only [h1]
    rw [if_pos]
    exact ⟨by have : IntKind.i64.min = -9223372036854775808 := by decide
              rw [this]; exact hb.1, by have : IntKind.i64.max = 9223372036854775807 := by decide
                                        rw [this]; exact hb.2⟩
  constructor
  · rw [f2i_lit, e]; rfl
  · rw [f2i_lit2, e]; rfl

theorem i2f_fw {n : Int} (h : n.natAbs < 2 ^ 53) (hp : Heap) : ∃ w, convX Tryd.prog 3 40 (.lit (.int .i64 n)) hp = some (fl w) ∧ convX Tryd.prog 2 40 (.lit (.int .i64 n)) hp = some (fl w) ∧ FW w n :=
  ⟨_, i2f3 n hp, i2f2 n hp, FW.of_int h⟩

theorem beq_cmp_eq (x y : Int) : ((some (compare x y) : Option Ordering) == some .eq) = decide (x = y) := by
  rcases Int.lt_trichotomy x y with h | h | h
  · have : compare x y = .lt := by simp [compare, compareOfLessAndEq, h]
    rw [this]; simp; omega
  · subst h
    have : compare x x = .eq := by simp [compare, compareOfLessAndEq]
    rw [this]; simp
  · have : compare x y = .gt := by simp [compare, compareOfLessAndEq, show ¬ x < y by omega, show x ≠ y by omega]
    rw [this]; simp; omega
theorem beq_cmp_lt (x y : Int) : ((some (compare x y) : Option Ordering) == some .lt) = decide (x < y) := by
  rcases Int.lt_trichotomy x y with h | h | h
  · have : compare x y = .lt := by simp [compare, compareOfLessAndEq, h]
    rw [this]; simp; omega
  · subst h
    have : compare x x = .eq := by simp [compare, compareOfLessAndEq]
    rw [this]; simp
  · have : compare x y = .gt := by simp [compare, compareOfLessAndEq, show ¬ x < y by omega, show x ≠ y by omega]
    rw [this]; simp; omega
theorem beq_cmp_gt (x y : Int) : ((some (compare x y) : Option Ordering) == some .gt) = decide (y < x) := by
  rcases Int.lt_trichotomy x y with h | h | h
  · have : compare x y = .lt := by simp [compare, compareOfLessAndEq, h]
    rw [this]; simp; omega
  · subst h
    have : compare x x = .eq := by simp [compare, compareOfLessAndEq]
    rw [this]; simp
  · have : compare x y = .gt := by simp [compare, compareOfLessAndEq, show ¬ x < y by omega, show x ≠ y by omega]
    rw [this]; simp; omega

theorem fw_eql (t : TypeId) {a b : Nat} {x y : Int} (ha : FW a x) (hb : FW b y) : binX P .none .eql t (fl a) (fl b) = some (.lit (.bool (decide (x = y)))) := by
  rw [fx_eql, ha.order hb, beq_cmp_eq]
theorem fw_neq (t : TypeId) {a b : Nat} {x y : Int} (ha : FW a x) (hb : FW b y) : binX P .none .neq t (fl a) (fl b) = some (.lit (.bool (decide (x ≠ y)))) := by
  rw [fx_neq, ha.order hb, bne, beq_cmp_eq]; simp
theorem fw_lss (t : TypeId) {a b : Nat} {x y : Int} (ha : FW a x) (hb : FW b y) : binX P .none .lss t (fl a) (fl b) = some (.lit (.bool (decide (x < y)))) := by
  rw [fx_lss, ha.order hb, beq_cmp_lt]
theorem fw_gtr (t : TypeId) {a b : Nat} {x y : Int} (ha : FW a x) (hb : FW b y) : binX P .none .gtr t (fl a) (fl b) = some (.lit (.bool (decide (y < x)))) := by
  rw [fx_gtr, ha.order hb, beq_cmp_gt]
theorem fw_leq (t : TypeId) {a b : Nat} {x y : Int} (ha : FW a x) (hb : FW b y) : binX P .none .leq t (fl a) (fl b) = some (.lit (.bool (decide (x ≤ y)))) := by
  rw [fx_leq, ha.order hb, beq_cmp_lt, beq_cmp_eq, ← Bool.decide_or]
  congr 3
  exact decide_eq_decide.2 (by omega)
theorem fw_geq (t : TypeId) {a b : Nat} {x y : Int} (ha : FW a x) (hb : FW b y) : binX P .none .geq t (fl a) (fl b) = some (.lit (.bool (decide (y ≤ x)))) := by
  rw [fx_geq, ha.order hb, beq_cmp_gt, beq_cmp_eq, ← Bool.decide_or]
  congr 3
  exact decide_eq_decide.2 (by omega)

theorem fw_max : FW 4697254411347427328 1048576 := ⟨false, 1048576, by decide, rfl, by decide⟩
theorem fw_min : FW 13920626448202203136 (-1048576) := ⟨true, 1048576, by decide, rfl, by decide⟩

/-- A number of two whole parts. -/
def CW (v : AV) (x y : Int) : Prop := ∃ a b, v = cx a b ∧ FW a x ∧ FW b y

theorem cw_eql (t : TypeId) {v w : AV} {x y z u : Int} (h1 : CW v x y) (h2 : CW w z u) : binX P .none .eql t v w = some (.lit (.bool (decide (x = z ∧ y = u)))) := by
  obtain ⟨a, b, rfl, ha, hb⟩ := h1
  obtain ⟨c, d, rfl, hc, hd⟩ := h2
  rw [cx_eql, ha.order hc, hb.order hd, beq_cmp_eq, beq_cmp_eq, Bool.decide_and]
theorem cw_neq (t : TypeId) {v w : AV} {x y z u : Int} (h1 : CW v x y) (h2 : CW w z u) : binX P .none .neq t v w = some (.lit (.bool (decide (¬ (x = z ∧ y = u))))) := by
  obtain ⟨a, b, rfl, ha, hb⟩ := h1
  obtain ⟨c, d, rfl, hc, hd⟩ := h2
  rw [cx_neq, ha.order hc, hb.order hd, beq_cmp_eq, beq_cmp_eq, ← Bool.decide_and, decide_not]

theorem CW.zero : CW (.lit (.complex .f64 0 0)) 0 0 := ⟨0, 0, rfl, FW.zero, FW.zero⟩

end Go.Proofs.YthammkbenflchaaDoor
