/-
  What num's functions answer of whole numbers (turned from our proofs on chapter 2).
-/
import Derived.Test.YtkkjoomlfmofbaaGreatDoorSe11
import Derived.Test.YtkkjoomlfmofbaaGreatDoorAmX
import Derived.Test.YtkkjoomlfmofbaaGreatDoorFl1
set_option linter.unusedSimpArgs false
set_option linter.unusedVariables false
set_option linter.unusedSectionVars false
namespace Go.Proofs.YtkkjoomlfmofbaaGreatDoor
open Go.Am Ieee
set_option maxRecDepth 100000
variable {P : Program}

theorem Sem.pb {α β : Type} (a : α) (f : α → Sem β) : (pure a : Sem α) >>= f = f a := rfl

def fl (w : Nat) : AV := .lit (.float .f64 w)
def cx (a b : Nat) : AV := .lit (.complex .f64 a b)

theorem fa_add {a b w : Nat} (h : double.add a b = some w) : Op.floatArith .add .f64 a b = pure (.float .f64 w) := by
  show (match double.add a b with | some r => (pure (.float .f64 r) : Sem Value) | none => _) = _
  rw [h]
theorem fa_sub {a b w : Nat} (h : double.sub a b = some w) : Op.floatArith .sub .f64 a b = pure (.float .f64 w) := by
  show (match double.sub a b with | some r => (pure (.float .f64 r) : Sem Value) | none => _) = _
  rw [h]
theorem fa_mul {a b w : Nat} (h : double.mul a b = some w) : Op.floatArith .mul .f64 a b = pure (.float .f64 w) := by
  show (match double.mul a b with | some r => (pure (.float .f64 r) : Sem Value) | none => _) = _
  rw [h]

theorem ar_add {a b w : Nat} (h : double.add a b = some w) : Op.Complex.arith .add .f64 a b = pure w := by
  unfold Op.Complex.arith; rw [fa_add h]; rfl
theorem ar_sub {a b w : Nat} (h : double.sub a b = some w) : Op.Complex.arith .sub .f64 a b = pure w := by
  unfold Op.Complex.arith; rw [fa_sub h]; rfl
theorem ar_mul {a b w : Nat} (h : double.mul a b = some w) : Op.Complex.arith .mul .f64 a b = pure w := by
  unfold Op.Complex.arith; rw [fa_mul h]; rfl

theorem bx_slow {op : BinOp} {t : TypeId} {x y : Value} (h1 : fastBin op (.lit x) (.lit y) = none) (h3 : toLit (.lit x) = some x) (h4 : toLit (.lit y) = some y) {s : Sem Value} {v : Value} (hs : (do eqGuard op t (.tmp 0) (.tmp 1) x y; binOp op t x y : Sem Value) = s) (hv : s.peval P = some v) (hn : ¬ (x = .nilIface ∧ y = .nilIface)) :
    binX P .none op t (.lit x) (.lit y) = some (ofVal v) := by
  have h2 : nilTestK .none op (.lit x) (.lit y) = none := rfl
  unfold binX
  rw [h1, h2]
  simp only [litBin, h3, h4, hs, hv]
  split
  · exact absurd ⟨rfl, rfl⟩ hn
  · rw [hs, hv]; rfl

theorem fx_add {t : TypeId} {a b w : Nat} (h : double.add a b = some w) : binX P .none .add t (fl a) (fl b) = some (fl w) :=
  bx_slow (v := .float .f64 w) rfl rfl rfl (s := Op.floatArith .add .f64 a b) rfl (by rw [fa_add h]; rfl) (by simp)

theorem cmp_slow {op : BinOp} {t : TypeId} {a b : Nat} {r : Bool} (h1 : fastBin op (fl a) (fl b) = none) (hs : (do eqGuard op t (.tmp 0) (.tmp 1) (.float .f64 a) (.float .f64 b); binOp op t (.float .f64 a) (.float .f64 b) : Sem Value) = Op.floatCmp op .f64 a b) (hr : Op.floatCmp op .f64 a b = pure (.bool r)) :
    binX P .none op t (fl a) (fl b) = some (.lit (.bool r)) :=
  bx_slow (v := .bool r) h1 rfl rfl (s := Op.floatCmp op .f64 a b) hs (by rw [hr]; rfl) (by simp)

theorem fx_eql (t : TypeId) (a b : Nat) : binX P .none .eql t (fl a) (fl b) = some (.lit (.bool (double.order a b == some .eq))) := cmp_slow rfl rfl rfl
theorem fx_neq (t : TypeId) (a b : Nat) : binX P .none .neq t (fl a) (fl b) = some (.lit (.bool (double.order a b != some .eq))) := cmp_slow rfl rfl rfl
theorem fx_lss (t : TypeId) (a b : Nat) : binX P .none .lss t (fl a) (fl b) = some (.lit (.bool (double.order a b == some .lt))) := cmp_slow rfl rfl rfl
theorem fx_leq (t : TypeId) (a b : Nat) : binX P .none .leq t (fl a) (fl b) = some (.lit (.bool (double.order a b == some .lt || double.order a b == some .eq))) := cmp_slow rfl rfl rfl
theorem fx_gtr (t : TypeId) (a b : Nat) : binX P .none .gtr t (fl a) (fl b) = some (.lit (.bool (double.order a b == some .gt))) := cmp_slow rfl rfl rfl
theorem fx_geq (t : TypeId) (a b : Nat) : binX P .none .geq t (fl a) (fl b) = some (.lit (.bool (double.order a b == some .gt || double.order a b == some .eq))) := cmp_slow rfl rfl rfl

theorem cx_add {t : TypeId} {a b c d u v : Nat} (h1 : double.add a c = some u) (h2 : double.add b d = some v) : binX P .none .add t (cx a b) (cx c d) = some (cx u v) :=
  bx_slow (v := .complex .f64 u v) rfl rfl rfl (s := Op.complexOp .add .f64 a b c d) rfl (by
    have : Op.complexOp .add .f64 a b c d = (do pure (.complex .f64 (← Op.Complex.arith .add .f64 a c) (← Op.Complex.arith .add .f64 b d)) : Sem Value) := rfl
    rw [this, ar_add h1, ar_add h2]; rfl) (by simp)
theorem cx_sub {t : TypeId} {a b c d u v : Nat} (h1 : double.sub a c = some u) (h2 : double.sub b d = some v) : binX P .none .sub t (cx a b) (cx c d) = some (cx u v) :=
  bx_slow (v := .complex .f64 u v) rfl rfl rfl (s := Op.complexOp .sub .f64 a b c d) rfl (by
    have : Op.complexOp .sub .f64 a b c d = (do pure (.complex .f64 (← Op.Complex.arith .sub .f64 a c) (← Op.Complex.arith .sub .f64 b d)) : Sem Value) := rfl
    rw [this, ar_sub h1, ar_sub h2]; rfl) (by simp)
theorem cx_mul {t : TypeId} {a b c d ac bd ad bc u v : Nat} (h1 : double.mul a c = some ac) (h2 : double.mul b d = some bd) (h3 : double.mul a d = some ad) (h4 : double.mul b c = some bc) (h5 : double.sub ac bd = some u) (h6 : double.add ad bc = some v) : binX P .none .mul t (cx a b) (cx c d) = some (cx u v) :=
  bx_slow (v := .complex .f64 u v) rfl rfl rfl (s := Op.complexOp .mul .f64 a b c d) rfl (by
    have : Op.complexOp .mul .f64 a b c d = (do
        let x ← Op.Complex.arith .mul .f64 a c
        let y ← Op.Complex.arith .mul .f64 b d
        let u ← Op.Complex.arith .sub .f64 x y
        let z ← Op.Complex.arith .mul .f64 a d
        let w ← Op.Complex.arith .mul .f64 b c
        let v ← Op.Complex.arith .add .f64 z w
        pure (.complex .f64 u v) : Sem Value) := by
      simp only [Op.complexOp, Op.Complex.conv, if_true, Op.Complex.product, Op.Complex.mul, Op.Complex.sub, Op.Complex.add, bind_assoc, pure_bind]
      rfl
    rw [this, ar_mul h1, ar_mul h2, Sem.pb, Sem.pb, ar_sub h5, ar_mul h3, ar_mul h4, Sem.pb, Sem.pb, Sem.pb, ar_add h6]; rfl) (by simp)
theorem cx_eql (t : TypeId) (a b c d : Nat) : binX P .none .eql t (cx a b) (cx c d) = some (.lit (.bool (double.order a c == some .eq && double.order b d == some .eq))) :=
  bx_slow (v := .bool _) rfl rfl rfl (s := Op.complexOp .eql .f64 a b c d) rfl rfl (by simp)
theorem cx_neq (t : TypeId) (a b c d : Nat) : binX P .none .neq t (cx a b) (cx c d) = some (.lit (.bool !(double.order a c == some .eq && double.order b d == some .eq))) :=
  bx_slow (v := .bool _) rfl rfl rfl (s := Op.complexOp .neq .f64 a b c d) rfl rfl (by simp)

theorem bi_real (a b : Nat) : litBi Tryz.prog .real [24] 45 [false] [cx a b] = some (fl a) := by kernel_rfl
theorem bi_imag (a b : Nat) : litBi Tryz.prog .imag [24] 45 [false] [cx a b] = some (fl b) := by kernel_rfl
theorem bi_cx (a b : Nat) (c d : Bool) : litBi Tryz.prog .complex [45, 45] 24 [c, d] [fl a, fl b] = some (cx a b) := by kernel_rfl
theorem bi_min (a b : Int) (c d : Bool) : litBi Tryz.prog .min [3, 3] 3 [c, d] [.lit (.int .i64 a), .lit (.int .i64 b)] = some (.lit (.int .i64 (if b < a then b else a))) := by kernel_rfl
theorem i2f3 (n : Int) (h : Heap) : convX Tryz.prog 3 45 (.lit (.int .i64 n)) h = some (fl (double.write (.number (n < 0) n.natAbs 0))) := by kernel_rfl
theorem i2f2 (n : Int) (h : Heap) : convX Tryz.prog 2 45 (.lit (.int .i64 n)) h = some (fl (double.write (.number (n < 0) n.natAbs 0))) := by kernel_rfl
theorem lit_bits (a : Nat) : litCall Tryz.prog [fl a] 180 = some (.lit (.int .u64 a)) := by kernel_rfl
theorem lit_from (n : Int) : litCall Tryz.prog [.lit (.int .u64 n)] 179 = some (fl n.toNat) := by kernel_rfl
theorem lit_trunc (a : Nat) : litCall Tryz.prog [fl a] 177 = match (((Extern.MathFloor.toIntegral "math.archTrunc" .zero #[.float .f64 a]) >>= fun v => (pure (Next.value v) : Sem Next)).peval Tryz.prog) with
    | some (.value v) => some (ofVal v)
    | _ => none := by kernel_rfl
theorem f2i_lit (a : Nat) (h : Heap) : convX Tryz.prog 45 3 (fl a) h = ((Conv.floatToInt .f64 a .i64).peval Tryz.prog).map ofVal := by kernel_rfl
theorem f2i_lit2 (a : Nat) (h : Heap) : convX Tryz.prog 45 2 (fl a) h = ((Conv.floatToInt .f64 a .i64).peval Tryz.prog).map ofVal := by kernel_rfl
theorem un_neg (a : Nat) : litUn P .neg (fl a) = some (fl (Op.negFloat .f64 a)) := rfl
theorem un_negc (a b : Nat) : litUn P .neg (cx a b) = some (cx (Op.negFloat .f64 a) (Op.negFloat .f64 b)) := rfl


theorem xor_top {r : Nat} (h : r < 2 ^ 63) : r ^^^ 2 ^ 63 = 2 ^ 63 + r := by
  apply Nat.eq_of_testBit_eq
  intro i
  rw [Nat.testBit_xor, Nat.testBit_two_pow]
  rcases Nat.lt_trichotomy i 63 with h1 | h1 | h1
  · rw [Nat.testBit_two_pow_add_gt h1]
    have : decide (63 = i) = false := decide_eq_false (by omega)
    rw [this]; simp
  · subst h1
    rw [Nat.testBit_two_pow_add_eq]; simp [Nat.testBit_lt_two_pow h]
  · have h2 : r.testBit i = false := Nat.testBit_lt_two_pow (Nat.lt_of_lt_of_le h (Nat.pow_le_pow_right (by decide) (by omega)))
    have h3 : (2 ^ 63 + r).testBit i = false := Nat.testBit_lt_two_pow (Nat.lt_of_lt_of_le (show 2 ^ 63 + r < 2 ^ 64 by omega) (Nat.pow_le_pow_right (by decide) (by omega)))
    rw [h2, h3]
    have : decide (63 = i) = false := decide_eq_false (by omega)
    rw [this]; rfl

theorem word_neg {r : Nat} (s : Bool) (h : r < 2 ^ 63) : double.word s r ^^^ 2 ^ 63 = double.word (!s) r := by
  cases s
  · exact xor_top h
  · show (2 ^ 63 + r) ^^^ 2 ^ 63 = r
    rw [← xor_top h, Nat.xor_assoc, Nat.xor_self, Nat.xor_zero]

theorem int_rung {M : Nat} (h : M < 2 ^ 53) : (if M = 0 then 0 else (M.log2 + 1022) * 2 ^ 52 + M * 2 ^ (52 - M.log2)) < 2 ^ 63 := by
  by_cases h0 : M = 0
  · rw [if_pos h0]; decide
  · have hl := log2_small h0 h
    obtain ⟨f1, f2⟩ := full h0 h
    rw [if_neg h0]
    have : (M.log2 + 1022) * 2 ^ 52 ≤ 1074 * 2 ^ 52 := Nat.mul_le_mul_right _ (by omega)
    omega

theorem FW.neg {a : Nat} {x : Int} (h : FW a x) : FW (Op.negFloat .f64 a) (-x) := by
  obtain ⟨s, M, h1, rfl, rfl⟩ := h
  refine ⟨!s, M, h1, by cases s <;> simp [sgn], ?_⟩
  exact word_neg s (int_rung h1)

theorem wrap_u64 {n : Int} (h0 : 0 ≤ n) (h1 : n < 18446744073709551616) : IntKind.u64.wrap n = n := by
  unfold IntKind.wrap
  simp [IntKind.signed, IntKind.bits]
  omega

theorem not_top {a : Nat} (h : a < 2 ^ 64) : (BitVec.ofInt 64 (a : Int) &&& ~~~(BitVec.ofInt 64 9223372036854775808)).toNat = a % 2 ^ 63 := by
  rw [BitVec.toNat_and]
  have e1 : (BitVec.ofInt 64 (a : Int)).toNat = a := by rw [BitVec.toNat_ofInt]; omega
  have e2 : (~~~(BitVec.ofInt 64 9223372036854775808)).toNat = 2 ^ 63 - 1 := by decide
  rw [e1, e2, Nat.and_two_pow_sub_one_eq_mod]

theorem ab_slow {a : Nat} (h : a < 2 ^ 64) (t : TypeId) : binX P .none .andNot t (.lit (.int .u64 a)) (.lit (.int .u64 9223372036854775808)) = some (.lit (.int .u64 ((a % 2 ^ 63 : Nat) : Int))) := by
  refine bx_slow (v := .int .u64 ((a % 2 ^ 63 : Nat) : Int)) rfl rfl rfl (s := Op.intBits .andNot .u64 a 9223372036854775808) rfl ?_ (by simp)
  have : Op.intBits .andNot .u64 a 9223372036854775808 = pure (.int .u64 (IntKind.u64.wrap ((BitVec.ofInt 64 (a : Int) &&& ~~~(BitVec.ofInt 64 9223372036854775808)).toNat : Int))) := rfl
  rw [this, not_top h, wrap_u64 (by omega) (by omega)]
  rfl

theorem int_lt {s : Bool} {M : Nat} (h : M < 2 ^ 53) : intWord s M < 2 ^ 64 := by
  have := int_rung h
  unfold intWord Format.word
  rw [signD]
  split <;> omega

theorem int_abs {s : Bool} {M : Nat} (h : M < 2 ^ 53) : intWord s M % 2 ^ 63 = intWord false M := by
  have := int_rung h
  unfold intWord Format.word
  rw [signD]
  cases s
  · simp only [Bool.false_eq_true, if_false]; exact Nat.mod_eq_of_lt this
  · simp only [if_true, Bool.false_eq_true, if_false]; rw [Nat.add_mod_left]; exact Nat.mod_eq_of_lt this

theorem FW.lt {a : Nat} {x : Int} (h : FW a x) : a < 2 ^ 64 := by
  obtain ⟨s, M, h1, rfl, rfl⟩ := h; exact int_lt h1

theorem FW.abs {a : Nat} {x : Int} (h : FW a x) : FW (a % 2 ^ 63) (x.natAbs : Int) := by
  obtain ⟨s, M, h1, rfl, rfl⟩ := h
  refine ⟨false, M, h1, ?_, int_abs h1⟩
  rw [sgn_abs]; rfl

/-- The function of a number's word (which nought it is told of is left open). -/
theorem trunc_fw {a : Nat} {x : Int} (h : FW a x) : ∃ w, litCall Tryz.prog [fl a] 177 = some (fl w) ∧ FW w x := by
  obtain ⟨s, M, h1, hx, h2⟩ := h.read.integral .zero
  obtain ⟨s', M', k, _, _, hd⟩ := h.read
  have hd' : FloatKind.f64.decode a = .number s' (M' * 2 ^ k) (-(k : Int)) := hd
  have e : Extern.MathFloor.toIntegral "math.archTrunc" .zero #[.float .f64 a] = pure (.float .f64 (FloatKind.f64.encode ((FloatKind.f64.decode a).integral .zero))) := by
    show (match FloatKind.f64.decode a with
      | .nan s t => if FloatKind.f64.format.quiet t = t then (pure (.float .f64 a) : Sem Value) else _
      | d => pure (.float .f64 (FloatKind.f64.encode (d.integral .zero)))) = _
    rw [hd']
  have h2' : (FloatKind.f64.decode a).integral .zero = .number s M 0 := h2
  rw [lit_trunc, e, Sem.pb, h2']
  refine ⟨_, rfl, s, M, h1, hx, ?_⟩
  have := nearest_int s h1 0
  rw [Nat.pow_zero, Nat.mul_one] at this
  exact this

theorem f2i_fw {a : Nat} {x : Int} (h : FW a x) (hp : Heap) : convX Tryz.prog 45 3 (fl a) hp = some (.lit (.int .i64 x)) ∧ convX Tryz.prog 45 2 (fl a) hp = some (.lit (.int .i64 x)) := by
  have h1 : (FloatKind.f64.decode a).toInt .zero = some x := h.read.toInt .zero
  have hb : -9223372036854775808 ≤ x ∧ x ≤ 9223372036854775807 := by
    obtain ⟨s, M, h1, rfl, rfl⟩ := h
    cases s <;> simp [sgn] <;> omega
  have e : Conv.floatToInt .f64 a .i64 = pure (.int .i64 x) := by
    unfold Conv.floatToInt
    simp only [h1]
    rw [if_pos]
    exact ⟨by have : IntKind.i64.min = -9223372036854775808 := by decide
              rw [this]; exact hb.1, by have : IntKind.i64.max = 9223372036854775807 := by decide
                                        rw [this]; exact hb.2⟩
  constructor
  · rw [f2i_lit, e]; rfl
  · rw [f2i_lit2, e]; rfl

theorem i2f_fw {n : Int} (h : n.natAbs < 2 ^ 53) (hp : Heap) : ∃ w, convX Tryz.prog 3 45 (.lit (.int .i64 n)) hp = some (fl w) ∧ convX Tryz.prog 2 45 (.lit (.int .i64 n)) hp = some (fl w) ∧ FW w n :=
  ⟨_, i2f3 n hp, i2f2 n hp, FW.of_int h⟩

theorem beq_cmp_eq (x y : Int) : ((some (compare x y) : Option Ordering) == some .eq) = decide (x = y) := by
  rcases Int.lt_trichotomy x y with h | h | h
  · have : compare x y = .lt := by simp [compare, compareOfLessAndEq, h]
    rw [this]; simp; omega
  · subst h
    have : compare x x = .eq := by simp [compare, compareOfLessAndEq]
    rw [this]; simp
  · have : compare x y = .gt := by simp [compare, compareOfLessAndEq, show ¬ x < y by omega, show x ≠ y by omega]
    rw [this]; simp; omega
theorem beq_cmp_lt (x y : Int) : ((some (compare x y) : Option Ordering) == some .lt) = decide (x < y) := by
  rcases Int.lt_trichotomy x y with h | h | h
  · have : compare x y = .lt := by simp [compare, compareOfLessAndEq, h]
    rw [this]; simp; omega
  · subst h
    have : compare x x = .eq := by simp [compare, compareOfLessAndEq]
    rw [this]; simp
  · have : compare x y = .gt := by simp [compare, compareOfLessAndEq, show ¬ x < y by omega, show x ≠ y by omega]
    rw [this]; simp; omega
theorem beq_cmp_gt (x y : Int) : ((some (compare x y) : Option Ordering) == some .gt) = decide (y < x) := by
  rcases Int.lt_trichotomy x y with h | h | h
  · have : compare x y = .lt := by simp [compare, compareOfLessAndEq, h]
    rw [this]; simp; omega
  · subst h
    have : compare x x = .eq := by simp [compare, compareOfLessAndEq]
    rw [this]; simp
  · have : compare x y = .gt := by simp [compare, compareOfLessAndEq, show ¬ x < y by omega, show x ≠ y by omega]
    rw [this]; simp; omega

theorem fw_eql (t : TypeId) {a b : Nat} {x y : Int} (ha : FW a x) (hb : FW b y) : binX P .none .eql t (fl a) (fl b) = some (.lit (.bool (decide (x = y)))) := by
  rw [fx_eql, ha.order hb, beq_cmp_eq]
theorem fw_neq (t : TypeId) {a b : Nat} {x y : Int} (ha : FW a x) (hb : FW b y) : binX P .none .neq t (fl a) (fl b) = some (.lit (.bool (decide (x ≠ y)))) := by
  rw [fx_neq, ha.order hb, bne, beq_cmp_eq]; simp
theorem fw_lss (t : TypeId) {a b : Nat} {x y : Int} (ha : FW a x) (hb : FW b y) : binX P .none .lss t (fl a) (fl b) = some (.lit (.bool (decide (x < y)))) := by
  rw [fx_lss, ha.order hb, beq_cmp_lt]
theorem fw_gtr (t : TypeId) {a b : Nat} {x y : Int} (ha : FW a x) (hb : FW b y) : binX P .none .gtr t (fl a) (fl b) = some (.lit (.bool (decide (y < x)))) := by
  rw [fx_gtr, ha.order hb, beq_cmp_gt]
theorem fw_leq (t : TypeId) {a b : Nat} {x y : Int} (ha : FW a x) (hb : FW b y) : binX P .none .leq t (fl a) (fl b) = some (.lit (.bool (decide (x ≤ y)))) := by
  rw [fx_leq, ha.order hb, beq_cmp_lt, beq_cmp_eq, ← Bool.decide_or]
  congr 3
  exact decide_eq_decide.2 (by omega)
theorem fw_geq (t : TypeId) {a b : Nat} {x y : Int} (ha : FW a x) (hb : FW b y) : binX P .none .geq t (fl a) (fl b) = some (.lit (.bool (decide (y ≤ x)))) := by
  rw [fx_geq, ha.order hb, beq_cmp_gt, beq_cmp_eq, ← Bool.decide_or]
  congr 3
  exact decide_eq_decide.2 (by omega)

theorem fw_max : FW 4697254411347427328 1048576 := ⟨false, 1048576, by decide, rfl, by decide⟩
theorem fw_min : FW 13920626448202203136 (-1048576) := ⟨true, 1048576, by decide, rfl, by decide⟩

/-- A number of two whole parts. -/
def CW (v : AV) (x y : Int) : Prop := ∃ a b, v = cx a b ∧ FW a x ∧ FW b y

theorem cw_eql (t : TypeId) {v w : AV} {x y z u : Int} (h1 : CW v x y) (h2 : CW w z u) : binX P .none .eql t v w = some (.lit (.bool (decide (x = z ∧ y = u)))) := by
  obtain ⟨a, b, rfl, ha, hb⟩ := h1
  obtain ⟨c, d, rfl, hc, hd⟩ := h2
  rw [cx_eql, ha.order hc, hb.order hd, beq_cmp_eq, beq_cmp_eq, Bool.decide_and]
theorem cw_neq (t : TypeId) {v w : AV} {x y z u : Int} (h1 : CW v x y) (h2 : CW w z u) : binX P .none .neq t v w = some (.lit (.bool (decide (¬ (x = z ∧ y = u))))) := by
  obtain ⟨a, b, rfl, ha, hb⟩ := h1
  obtain ⟨c, d, rfl, hc, hd⟩ := h2
  rw [cx_neq, ha.order hc, hb.order hd, beq_cmp_eq, beq_cmp_eq, ← Bool.decide_and, decide_not]

theorem CW.zero : CW (.lit (.complex .f64 0 0)) 0 0 := ⟨0, 0, rfl, FW.zero, FW.zero⟩


noncomputable def nc (n : Nat) : CallF := scall senv n

/-- A call of a function whose arguments and answer bear no address. -/
theorem al {n : Nat} {f : FuncId} {F : FnF} {args : List AV} {r : AV} (hc : ∃ hc, F (nc n) args [] = some (r, hc)) (hs : ∀ h, snaps h args = some (args, [])) (hr : ∀ h, snapR h r = some (r, []))
    (hf : senv.fns f = some (.alone, F)) (hp : senv.prim f = none) (h : Heap) : nc (n + 1) f args h = some (r, h) := by
  obtain ⟨h', hb⟩ := hc
  exact alone_call hp hf (hs h) hb ⟨[], hr h'⟩

/-! ### Right and plain -/

def okP (x : Int) : Prop := -1048576 ≤ x ∧ x ≤ 1048576
instance (x : Int) : Decidable (okP x) := by unfold okP; infer_instance

theorem c_trunc (n : Nat) {a : Nat} {x : Int} (ha : FW a x) : ∃ w, FW w x ∧ ∀ h, nc (n + 1) 101 [fl a] h = some (fl w, h) := by
  obtain ⟨w, h1, h2⟩ := trunc_fw ha
  exact ⟨w, h2, fun h => al (F := N101) ⟨[], by simp only [N101, n1, n2, n3, F101, h1, opt_s]⟩ (fun _ => rfl) (fun _ => rfl) rfl rfl h⟩

theorem c_abs (n : Nat) {a : Nat} {x : Int} (ha : FW a x) : ∃ w, FW w (x.natAbs : Int) ∧ ∀ h, nc (n + 1) 102 [fl a] h = some (fl w, h) := by
  refine ⟨a % 2 ^ 63, FW.abs ha, fun h => al (F := N102) ⟨[], ?_⟩ (fun _ => rfl) (fun _ => rfl) rfl rfl h⟩
  simp only [N102, n1, n2, n3, F102, lit_bits, opt_s, ab_slow (FW.lt ha), lit_from, Int.toNat_natCast]

theorem c_part (n : Nat) {a : Nat} {x : Int} (ha : FW a x) (h : Heap) : nc (n + 2) 47 [fl a] h = some (.lit (.bool (decide (okP x))), h) := by
  obtain ⟨w, w1, w2⟩ := c_trunc n ha
  obtain ⟨u, u1, u2⟩ := c_abs n ha
  refine al (F := N47) ⟨[], ?_⟩ (fun _ => rfl) (fun _ => rfl) rfl rfl h
  have e : (.lit (.float .f64 4697254411347427328) : AV) = fl 4697254411347427328 := rfl
  simp only [N47, n1, n2, n3, F47, w2, opt2_s, fw_eql 45 ha w1, opt_s, test_b, decide_true, if_true, u2, e, fw_leq 45 u1 fw_max]
  congr 4
  unfold okP
  exact decide_eq_decide.2 (by omega)

theorem c_right (n : Nat) {v : AV} {x y : Int} (hv : CW v x y) (h : Heap) : nc (n + 3) 26 [v] h = some (.lit (.bool (decide (okP x ∧ okP y))), h) := by
  obtain ⟨a, b, rfl, ha, hb⟩ := hv
  refine al (F := N26) ⟨[], ?_⟩ (fun _ => rfl) (fun _ => rfl) rfl rfl h
  simp only [N26, n1, n2, n3, F26, bi_real, opt_s, c_part n ha, opt2_s, test_b, decide_eq_true_eq]
  by_cases hx : okP x
  · rw [if_pos hx]
    simp only [bi_imag, opt_s, c_part n hb, opt2_s, hx, true_and]
  · rw [if_neg hx]
    simp only [hx, false_and, decide_false]

theorem fw_plain {a : Nat} {x : Int} (ha : FW a x) (hx : x.natAbs < 2 ^ 53) : ∃ w, double.add a 0 = some w ∧ FW w x := by
  obtain ⟨w, h1, h2⟩ := ha.add FW.zero (by simpa using hx)
  exact ⟨w, h1, by simpa using h2⟩

theorem c_plain (n : Nat) {v : AV} {x y : Int} (hv : CW v x y) (hx : x.natAbs < 2 ^ 53) (hy : y.natAbs < 2 ^ 53) : ∃ w, CW w x y ∧ ∀ h, nc (n + 1) 27 [v] h = some (w, h) := by
  obtain ⟨a, b, rfl, ha, hb⟩ := hv
  obtain ⟨u, u1, u2⟩ := fw_plain ha hx
  obtain ⟨w, w1, w2⟩ := fw_plain hb hy
  refine ⟨cx u w, ⟨u, w, rfl, u2, w2⟩, fun h => al (F := N27) ⟨[], ?_⟩ (fun _ => rfl) (fun _ => rfl) rfl rfl h⟩
  have e : (.lit (.float .f64 0) : AV) = fl 0 := rfl
  simp only [N27, n1, n2, n3, F27, bi_real, opt_s, e, fx_add u1, bi_imag, fx_add w1, bi_cx]

/-! ### num.Two, num.One -/

theorem okP_abs {x : Int} (h : okP x) : x.natAbs ≤ 1048576 := by unfold okP at h; omega

/-- What an operation gives: a number, or why not. -/
structure Got (r : AV) (x y : Int) (e : Nat) : Prop where
  val : ∃ v, r = .tup [v, .lit (.int .i64 e)] ∧ CW v x y

theorem got_tup {v : AV} {x y : Int} {e : Nat} (h : CW v x y) : Got (.tup [v, .lit (.int .i64 e)]) x y e := ⟨v, rfl, h⟩

theorem snap_got {r : AV} {x y : Int} {e : Nat} (g : Got r x y e) (h : Heap) : snapR h r = some (r, []) := by
  obtain ⟨v, rfl, a, b, rfl, _, _⟩ := g.val; rfl

def twoX (op : Nat) (x y z u : Int) : Int := if op = 0 then x + z else if op = 1 then x - z else x * z - y * u
def twoY (op : Nat) (x y z u : Int) : Int := if op = 0 then y + u else if op = 1 then y - u else x * u + y * z

def opS (op : Nat) : List UInt8 := if op = 0 then [97, 100, 100] else if op = 1 then [115, 117, 98] else [109, 117, 108]

theorem mul_ok {x y : Int} (hx : okP x) (hy : okP y) : (x * y).natAbs ≤ 1099511627776 := by
  have := okP_abs hx
  have := okP_abs hy
  rw [Int.natAbs_mul]
  calc x.natAbs * y.natAbs ≤ 1048576 * 1048576 := Nat.mul_le_mul (by assumption) (by assumption)
    _ = _ := by decide

theorem two_end (n : Nat) {v : AV} {x y : Int} (hv : CW v x y) (hx : x.natAbs < 2 ^ 53) (hy : y.natAbs < 2 ^ 53) (h : Heap) :
    ∃ r, S20_0 (nc (n + 3)) v h = some (r, h) ∧ (okP x ∧ okP y → Got r x y 0) ∧ (¬ (okP x ∧ okP y) → Got r 0 0 44) := by
  simp only [S20_0, c_right n hv, opt2_s, not_b, opt_s, test_b]
  by_cases ho : okP x ∧ okP y
  · obtain ⟨w, w1, w2⟩ := c_plain (n + 2) hv hx hy
    simp only [ho, and_self, decide_true, Bool.not_true, Bool.false_eq_true, if_false, w2, opt2_s]
    exact ⟨_, rfl, fun _ => got_tup w1, fun h => absurd trivial h⟩
  · simp only [ho, decide_false, Bool.not_false, if_true]
    exact ⟨_, rfl, fun h => absurd h (by simp), fun _ => got_tup CW.zero⟩

theorem c_two (n : Nat) {op : Nat} (hop : op ≤ 2) {v w : AV} {x y z u : Int} (hv : CW v x y) (hw : CW w z u) (hx : okP x) (hy : okP y) (hz : okP z) (hu : okP u) :
    ∃ r, (∀ h, nc (n + 4) 20 [.lit (.string ⟨⟨opS op⟩⟩), v, w] h = some (r, h)) ∧ (okP (twoX op x y z u) ∧ okP (twoY op x y z u) → Got r (twoX op x y z u) (twoY op x y z u) 0) ∧ (¬ (okP (twoX op x y z u) ∧ okP (twoY op x y z u)) → Got r 0 0 44) := by
  have r1 := fun h => c_right n hv h
  have r2 := fun h => c_right n hw h
  have ax := okP_abs hx
  have ay := okP_abs hy
  have az := okP_abs hz
  have au := okP_abs hu
  have m1 := mul_ok hx hz
  have m2 := mul_ok hy hu
  have m3 := mul_ok hx hu
  have m4 := mul_ok hy hz
  obtain ⟨a, b, rfl, ha, hb⟩ := hv
  obtain ⟨c, d, rfl, hc, hd⟩ := hw
  have key : ∀ {q : AV} {X Y : Int}, CW q X Y → X.natAbs < 2 ^ 53 → Y.natAbs < 2 ^ 53 → (∀ h, S20_2 (nc (n + 3)) (.lit (.string ⟨⟨opS op⟩⟩)) (cx a b) (cx c d) h = S20_0 (nc (n + 3)) q h) →
      ∃ r, (∀ h, nc (n + 4) 20 [.lit (.string ⟨⟨opS op⟩⟩), cx a b, cx c d] h = some (r, h)) ∧ (okP X ∧ okP Y → Got r X Y 0) ∧ (¬ (okP X ∧ okP Y) → Got r 0 0 44) := by
    intro q X Y hq hX hY hS
    obtain ⟨r, e1, e2, e3⟩ := two_end n hq hX hY []
    have hg : ∃ X' Y' e, Got r X' Y' e := by
      by_cases ho : okP X ∧ okP Y
      · exact ⟨_, _, _, e2 ho⟩
      · exact ⟨_, _, _, e3 ho⟩
    obtain ⟨_, _, _, hg⟩ := hg
    refine ⟨r, fun h => al (F := N20) ⟨[], ?_⟩ (fun _ => rfl) (snap_got hg) rfl rfl h, e2, e3⟩
    simp only [N20, n1, n2, n3, F20, S20_4, r1, r2, opt2_s, not_b, opt_s, test_b, hx, hy, hz, hu, and_self, decide_true, Bool.not_true, Bool.false_eq_true, if_false, S20_3, hS]
    exact e1
  rcases (by omega : op = 0 ∨ op = 1 ∨ op = 2) with rfl | rfl | rfl
  · obtain ⟨u1, u2, u3⟩ := ha.add hc (by omega)
    obtain ⟨v1, v2, v3⟩ := hb.add hd (by omega)
    refine key (X := x + z) (Y := y + u) ⟨u1, v1, rfl, u3, v3⟩ (by omega) (by omega) fun h => ?_
    simp only [S20_2, S20_1, opS, if_true, fb_eqls, opt_s, test_b, decide_true, cx_add u2 v2]
  · obtain ⟨u1, u2, u3⟩ := ha.sub hc (by omega)
    obtain ⟨v1, v2, v3⟩ := hb.sub hd (by omega)
    refine key (X := x - z) (Y := y - u) ⟨u1, v1, rfl, u3, v3⟩ (by omega) (by omega) fun h => ?_
    simp only [S20_2, S20_1, opS, fb_eqls, opt_s, test_b, cx_sub u2 v2]
    rfl
  · obtain ⟨p1, p2, p3⟩ := ha.mul hc (by omega)
    obtain ⟨q1, q2, q3⟩ := hb.mul hd (by omega)
    obtain ⟨s1, s2, s3⟩ := ha.mul hd (by omega)
    obtain ⟨t1, t2, t3⟩ := hb.mul hc (by omega)
    obtain ⟨u1, u2, u3⟩ := p3.sub q3 (by omega)
    obtain ⟨v1, v2, v3⟩ := s3.add t3 (by omega)
    refine key (X := x * z - y * u) (Y := x * u + y * z) ⟨u1, v1, rfl, u3, v3⟩ (by omega) (by omega) fun h => ?_
    simp only [S20_2, S20_1, opS, fb_eqls, opt_s, test_b, cx_mul p2 q2 s2 t2 u2 v2]
    rfl


abbrev ii (a : Int) : AV := .lit (.int .i64 a)
abbrev I64 (a : Int) : Prop := -9223372036854775808 ≤ a ∧ a ≤ 9223372036854775807
theorem tmod_fix (a m : Int) (hm : 0 < m) : (if a.tmod m < 0 then a.tmod m + m else a.tmod m) = a % m ∧ -m < a.tmod m ∧ a.tmod m < m := by
  have h2 := Int.emod_nonneg a (show m ≠ 0 by omega)
  have h3 := Int.emod_lt_of_pos a hm
  by_cases h0 : 0 ≤ a
  · rw [Int.tmod_eq_emod_of_nonneg h0]
    rw [if_neg (by omega)]
    exact ⟨rfl, by omega, h3⟩
  · have e : a.tmod m = -((-a) % m) := by
      have := Int.neg_tmod a m
      rw [Int.tmod_eq_emod_of_nonneg (by omega)] at this
      omega
    have h4 := Int.emod_nonneg (-a) (show m ≠ 0 by omega)
    have h5 := Int.emod_lt_of_pos (-a) hm
    have h6 := Int.mul_ediv_add_emod (-a) m
    generalize (-a) % m = r at *
    rw [e]
    refine ⟨?_, by omega, by omega⟩
    have e2 : a = -r + m * (-((-a) / m)) := by rw [Int.mul_neg]; omega
    by_cases hr : r = 0
    · subst hr
      rw [if_neg (by omega), e2]
      simp
    · rw [if_pos (by omega)]
      have e3 : a = (-r + m) + m * (-((-a) / m) - 1) := by
        rw [Int.mul_sub, Int.mul_neg, Int.mul_one]; omega
      rw [e3, Int.add_mul_emod_self_left, Int.emod_eq_of_lt (by omega) (by omega)]

theorem c_within (n : Nat) {a hi : Int} (h0 : 0 ≤ hi) (h1 : hi ≤ 1099511627776) (h : Heap) : nc (n + 1) 11 [ii a, ii 0, ii hi] h = some (ii (a % (hi + 1)), h) := by
  refine al (F := N11) ⟨[], ?_⟩ (fun _ => rfl) (fun _ => rfl) rfl rfl h
  obtain ⟨f1, f2, f3⟩ := tmod_fix a (hi + 1) (by omega)
  simp only [N11, n1, n2, n3, F11, S11_2, fb_sub, opt_s, Int.sub_zero, fb_add]
  rw [wrap64 (n := hi) (by omega) (by omega), wrap64 (n := hi + 1) (by omega) (by omega), rem_int (by omega), opt_s]
  simp only [S11_1, fb_lss, opt_s, test_b, decide_eq_true_eq]
  rw [← f1]
  by_cases hn : a.tmod (hi + 1) < 0
  · rw [if_pos hn, if_pos hn]
    simp only [fb_add, opt_s, fb_sub, Int.sub_zero, S11_0, Int.zero_add]
    rw [wrap64 (n := a.tmod (hi + 1) + hi) (by omega) (by omega), wrap64 (n := a.tmod (hi + 1) + hi) (by omega) (by omega), wrap64 (n := a.tmod (hi + 1) + hi + 1) (by omega) (by omega), wrap64 (by omega) (by omega), Int.add_assoc]
  · rw [if_neg hn, if_neg hn]
    simp only [S11_0, fb_add, opt_s, Int.zero_add]
    rw [wrap64 (by omega) (by omega)]

def lessP (x y z u : Int) : Prop := x < z ∨ x = z ∧ y < u
instance (x y z u : Int) : Decidable (lessP x y z u) := by unfold lessP; infer_instance

theorem c_less (n : Nat) {v w : AV} {x y z u : Int} (hv : CW v x y) (hw : CW w z u) (h : Heap) : nc (n + 4) 171 [v, w] h = some (.lit (.bool (decide ((okP x ∧ okP y) ∧ (okP z ∧ okP u) ∧ lessP x y z u))), h) := by
  have r1 := fun h => c_right n hv h
  have r2 := fun h => c_right n hw h
  obtain ⟨a, b, rfl, ha, hb⟩ := hv
  obtain ⟨c, d, rfl, hc, hd⟩ := hw
  refine al (F := N171) ⟨[], ?_⟩ (fun _ => rfl) (fun _ => rfl) rfl rfl h
  simp only [N171, n1, n2, n3, F171, S171_1, r1, opt2_s, not_b, opt_s, test_b]
  by_cases h1 : okP x ∧ okP y
  · simp only [h1, and_self, decide_true, Bool.not_true, Bool.false_eq_true, if_false, r2, opt2_s, not_b, opt_s, test_b, true_and]
    by_cases h2 : okP z ∧ okP u
    · simp only [h2, and_self, decide_true, Bool.not_true, Bool.false_eq_true, if_false, true_and, S171_0, bi_real, opt_s, fw_lss 45 ha hc, test_b, decide_eq_true_eq, fw_eql 45 ha hc, bi_imag, fw_lss 45 hb hd]
      by_cases h3 : x < z
      · rw [if_pos h3, decide_eq_true (show lessP x y z u from .inl h3)]
      · rw [if_neg h3]
        by_cases h4 : x = z
        · rw [if_pos h4]
          congr 4
          unfold lessP
          exact decide_eq_decide.2 (by omega)
        · rw [if_neg h4, decide_eq_false]
          unfold lessP; omega
    · simp only [h2, decide_false, Bool.not_false, if_true, false_and]
  · simp only [h1, decide_false, Bool.not_false, if_true, false_and]

def oneX (op : Nat) (x y : Int) : Int := if op = 0 then -x else if op = 1 then x else if op = 2 then x else y
def oneY (op : Nat) (x y : Int) : Int := if op = 0 then -y else if op = 1 then -y else 0
def op1S (op : Nat) : List UInt8 := if op = 0 then [110, 101, 103] else if op = 1 then [99, 111, 110, 106] else if op = 2 then [114, 101] else [105, 109]

theorem c_one (n : Nat) {op : Nat} (hop : op ≤ 3) {v : AV} {x y : Int} (hv : CW v x y) (hx : okP x) (hy : okP y) :
    ∃ r, (∀ h, nc (n + 4) 21 [.lit (.string ⟨⟨op1S op⟩⟩), v] h = some (r, h)) ∧ Got r (oneX op x y) (oneY op x y) 0 := by
  have r1 := fun h => c_right n hv h
  have ax := okP_abs hx
  have ay := okP_abs hy
  obtain ⟨a, b, rfl, ha, hb⟩ := hv
  have e0 : (.lit (.float .f64 0) : AV) = fl 0 := rfl
  have key : ∀ {q : AV} {X Y : Int}, CW q X Y → X.natAbs < 2 ^ 53 → Y.natAbs < 2 ^ 53 → (∀ w, (∀ h, nc (n + 2 + 1) 27 [q] h = some (w, h)) → F21 (nc (n + 3)) (.lit (.string ⟨⟨op1S op⟩⟩)) (cx a b) [] = some (.tup [w, ii 0], [])) →
      ∃ r, (∀ h, nc (n + 4) 21 [.lit (.string ⟨⟨op1S op⟩⟩), cx a b] h = some (r, h)) ∧ Got r X Y 0 := by
    intro q X Y hq hX hY hS
    obtain ⟨w, w1, w2⟩ := c_plain (n + 2) hq hX hY
    have hg : Got (.tup [w, ii 0]) X Y 0 := got_tup w1
    exact ⟨_, fun h => al (F := N21) ⟨[], (show N21 (nc (n + 3)) [.lit (.string ⟨⟨op1S op⟩⟩), cx a b] [] = some (.tup [w, ii 0], []) from hS w w2)⟩ (fun _ => rfl) (snap_got hg) rfl rfl h, hg⟩
  rcases (by omega : op = 0 ∨ op = 1 ∨ op = 2 ∨ op = 3) with rfl | rfl | rfl | rfl
  · refine key (X := -x) (Y := -y) ⟨_, _, rfl, FW.neg ha, FW.neg hb⟩ (by omega) (by omega) fun w hw => ?_
    have hw2 : ∀ h, nc (n + 3) 27 [cx (Op.negFloat .f64 a) (Op.negFloat .f64 b)] h = some (w, h) := hw
    simp only [F21, r1, hx, hy, and_self, decide_true, opt2_s, not_b, opt_s, test_b, Bool.not_true, Bool.false_eq_true, if_false, op1S, if_true, fb_eqls, un_negc, hw2]
  · refine key (X := x) (Y := -y) ⟨_, _, rfl, ha, FW.neg hb⟩ (by omega) (by omega) fun w hw => ?_
    have hw2 : ∀ h, nc (n + 3) 27 [cx a (Op.negFloat .f64 b)] h = some (w, h) := hw
    simp only [F21, r1, hx, hy, and_self, decide_true, opt2_s, not_b, opt_s, test_b, Bool.not_true, Bool.false_eq_true, if_false, op1S, fb_eqls, bi_real, bi_imag, un_neg, bi_cx, hw2]
    rfl
  · refine key (X := x) (Y := 0) ⟨_, _, rfl, ha, FW.zero⟩ (by omega) (by decide) fun w hw => ?_
    have hw2 : ∀ h, nc (n + 3) 27 [cx a 0] h = some (w, h) := hw
    simp only [F21, r1, hx, hy, and_self, decide_true, opt2_s, not_b, opt_s, test_b, Bool.not_true, Bool.false_eq_true, if_false, op1S, fb_eqls, bi_real, bi_imag, e0, bi_cx, hw2]
    rfl
  · refine key (X := y) (Y := 0) ⟨_, _, rfl, hb, FW.zero⟩ (by omega) (by decide) fun w hw => ?_
    have hw2 : ∀ h, nc (n + 3) 27 [cx b 0] h = some (w, h) := hw
    simp only [F21, r1, hx, hy, and_self, decide_true, opt2_s, not_b, opt_s, test_b, Bool.not_true, Bool.false_eq_true, if_false, op1S, fb_eqls, bi_real, bi_imag, e0, bi_cx, hw2]
    rfl

end Go.Proofs.YtkkjoomlfmofbaaGreatDoor
