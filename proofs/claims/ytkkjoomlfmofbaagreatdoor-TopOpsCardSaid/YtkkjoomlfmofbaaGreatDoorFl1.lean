import Ieee.Arith
set_option linter.unusedSectionVars false
/-! Whole numbers as words of binary64. -/
namespace Ieee
set_option linter.unusedSimpArgs false
set_option linter.unusedVariables false

def sgn (s : Bool) (M : Nat) : Int := if s then -(M : Int) else M

theorem shl (a b : Nat) : a <<< b = a * 2 ^ b := Nat.shiftLeft_eq a b

theorem signed_sgn (s : Bool) (m u : Nat) : signed s m u = sgn s (m * 2 ^ u) := by
  unfold signed sgn; rw [shl]

theorem log2_scale {M : Nat} (h : M ≠ 0) (k : Nat) : (M * 2 ^ k).log2 = M.log2 + k := by
  have h1 : M * 2 ^ k ≠ 0 := Nat.mul_ne_zero h (by have := Nat.two_pow_pos k; omega)
  rw [Nat.log2_eq_iff h1]
  have a := (Nat.log2_eq_iff h).1 rfl
  constructor
  · rw [Nat.pow_add]; exact Nat.mul_le_mul_right _ a.1
  · rw [show M.log2 + k + 1 = (M.log2 + 1) + k by omega, Nat.pow_add]; exact Nat.mul_lt_mul_of_pos_right a.2 (Nat.two_pow_pos k)

theorem cut_zero (way : Toward) (s : Bool) (n d : Nat) (h : n % (1 <<< min d (n.log2 + 2)) = 0) : way.cut s n d = n / (1 <<< min d (n.log2 + 2)) := by
  unfold Toward.cut
  simp only [h]
  have hg : 0 < 1 <<< min d (n.log2 + 2) := by rw [shl]; have := Nat.two_pow_pos (min d (n.log2 + 2)); omega
  cases way
  · have h1 : decide (1 <<< min d (n.log2 + 2) < 2 * 0) = false := by simp
    have h2 : (1 <<< min d (n.log2 + 2) == 2 * 0) = false := by rw [beq_eq_false_iff_ne]; omega
    simp [h1, h2]
  · simp
  · simp
  · simp

theorem cut_exact (way : Toward) (s : Bool) (M d : Nat) : way.cut s (M * 2 ^ d) d = M := by
  by_cases h : M = 0
  · subst h
    rw [Nat.zero_mul, cut_zero _ _ _ _ (by simp)]; simp
  · have hm : min d ((M * 2 ^ d).log2 + 2) = d := by rw [log2_scale h]; omega
    have hg : 1 <<< min d ((M * 2 ^ d).log2 + 2) = 2 ^ d := by rw [hm, shl, Nat.one_mul]
    rw [cut_zero _ _ _ _ (by rw [hg]; simp), hg, Nat.mul_div_cancel _ (Nat.two_pow_pos d)]

/-- The word of a whole number. -/
def intWord (s : Bool) (M : Nat) : Nat := double.word s (if M = 0 then 0 else (M.log2 + 1022) * 2 ^ 52 + M * 2 ^ (52 - M.log2))

theorem log2_small {M : Nat} (h0 : M ≠ 0) (h : M < 2 ^ 53) : M.log2 ≤ 52 := by
  have := (Nat.log2_lt h0).2 h; omega

theorem full {M : Nat} (h0 : M ≠ 0) (h : M < 2 ^ 53) : 2 ^ 52 ≤ M * 2 ^ (52 - M.log2) ∧ M * 2 ^ (52 - M.log2) < 2 ^ 53 := by
  have hl := log2_small h0 h
  have a := (Nat.log2_eq_iff h0).1 rfl
  constructor
  · calc 2 ^ 52 = 2 ^ M.log2 * 2 ^ (52 - M.log2) := by rw [← Nat.pow_add]; congr 1; omega
      _ ≤ _ := Nat.mul_le_mul_right _ a.1
  · calc M * 2 ^ (52 - M.log2) < 2 ^ (M.log2 + 1) * 2 ^ (52 - M.log2) := Nat.mul_lt_mul_of_pos_right a.2 (Nat.two_pow_pos _)
      _ = 2 ^ 53 := by rw [← Nat.pow_add]; congr 1; omega

theorem leastD : double.leastPlace = -1074 := by decide
theorem binadeD : double.binade = 2 ^ 52 := rfl
theorem infD : double.infRung = 2047 * 2 ^ 52 := rfl
theorem signD : double.signWeight = 2 ^ 63 := rfl
theorem fracD : double.fractionBits = 52 := rfl

theorem nearest_int (s : Bool) {M : Nat} (h : M < 2 ^ 53) (k : Nat) : double.nearest s (M * 2 ^ k) (-(k : Int)) = intWord s M := by
  by_cases h0 : M = 0
  · subst h0
    unfold Format.nearest intWord
    simp
  · have hl := log2_small h0 h
    have hf := full h0 h
    have h1 : M * 2 ^ k ≠ 0 := Nat.mul_ne_zero h0 (by have := Nat.two_pow_pos k; omega)
    unfold Format.nearest intWord
    rw [if_neg h1, if_neg h0, log2_scale h0, leastD, fracD, binadeD, infD]
    have e1 : max (-(k : Int) + ((M.log2 + k : Nat) : Int) - ((52 : Nat) : Int)) (-1074) = (M.log2 : Int) - 52 := by omega
    simp only [e1]
    have e2 : ((M.log2 : Int) - 52 - -1074).toNat = M.log2 + 1022 := by omega
    rw [e2]
    have key : Toward.even.cut s ((M * 2 ^ k) <<< (-(k : Int) - ((M.log2 : Int) - 52)).toNat) ((M.log2 : Int) - 52 - -(k : Int)).toNat = M * 2 ^ (52 - M.log2) := by
      by_cases hk : k ≤ 52 - M.log2
      · have e3 : (-(k : Int) - ((M.log2 : Int) - 52)).toNat = 52 - M.log2 - k := by omega
        have e4 : ((M.log2 : Int) - 52 - -(k : Int)).toNat = 0 := by omega
        rw [e3, e4, shl, Nat.mul_assoc, ← Nat.pow_add, show k + (52 - M.log2 - k) = 52 - M.log2 by omega]
        have := cut_exact .even s (M * 2 ^ (52 - M.log2)) 0
        rwa [Nat.pow_zero, Nat.mul_one] at this
      · have e3 : (-(k : Int) - ((M.log2 : Int) - 52)).toNat = 0 := by omega
        have e4 : ((M.log2 : Int) - 52 - -(k : Int)).toNat = k - (52 - M.log2) := by omega
        rw [e3, e4, shl, Nat.pow_zero, Nat.mul_one]
        have e5 : M * 2 ^ k = M * 2 ^ (52 - M.log2) * 2 ^ (k - (52 - M.log2)) := by
          rw [Nat.mul_assoc, ← Nat.pow_add]; congr 2; omega
        rw [e5, cut_exact]
    rw [key]
    congr 1
    have : (M.log2 + 1022) * 2 ^ 52 ≤ 1074 * 2 ^ 52 := Nat.mul_le_mul_right _ (by omega)
    omega

/-- What a datum is that stands for a whole number. -/
def DI (d : Datum) (n : Int) : Prop := ∃ (s : Bool) (M k : Nat), M < 2 ^ 53 ∧ n = sgn s M ∧ d = .number s (M * 2 ^ k) (-(k : Int))

/-- A word that stands for a whole number. -/
def FW (w : Nat) (n : Int) : Prop := ∃ (s : Bool) (M : Nat), M < 2 ^ 53 ∧ n = sgn s M ∧ w = intWord s M

theorem read_word (s : Bool) {r : Nat} (h : r < 2 ^ 63) : double.read (double.word s r) = if r < 2 ^ 52 then .number s r (-1074) else if r < 2047 * 2 ^ 52 then .number s (2 ^ 52 + r % 2 ^ 52) (-1074 + (r / 2 ^ 52 - 1 : Nat)) else if r = 2047 * 2 ^ 52 then .infinity s else .nan s (r - 2047 * 2 ^ 52) := by
  unfold Format.read Format.word
  rw [leastD, binadeD, infD, signD]
  have e1 : (if s = true then 2 ^ 63 + r else r) % 2 ^ 63 = r := by
    split
    · rw [Nat.add_mod_left]; exact Nat.mod_eq_of_lt h
    · exact Nat.mod_eq_of_lt h
  have e2 : (((if s = true then 2 ^ 63 + r else r) / 2 ^ 63 % 2 == 1) : Bool) = s := by
    cases s
    · simp [Nat.div_eq_of_lt h]
    · simp only [if_true]
      rw [Nat.add_div_left _ (by decide), Nat.div_eq_of_lt h]; rfl
  simp only [e1, e2]

theorem zero_di (s : Bool) (k : Nat) : Datum.number s 0 (-(k : Int)) = .number s (0 * 2 ^ k) (-(k : Int)) := by rw [Nat.zero_mul]

theorem read_int (s : Bool) {M : Nat} (h : M < 2 ^ 53) : DI (double.read (intWord s M)) (sgn s M) := by
  unfold intWord
  by_cases h0 : M = 0
  · subst h0
    rw [if_pos rfl, read_word s (by decide), if_pos (by decide)]
    exact ⟨s, 0, 1074, h, rfl, zero_di s 1074⟩
  · have hl := log2_small h0 h
    obtain ⟨f1, f2⟩ := full h0 h
    rw [if_neg h0]
    have hr : (M.log2 + 1022) * 2 ^ 52 + M * 2 ^ (52 - M.log2) < 2 ^ 63 := by
      have : (M.log2 + 1022) * 2 ^ 52 ≤ 1074 * 2 ^ 52 := Nat.mul_le_mul_right _ (by omega)
      omega
    rw [read_word s hr]
    generalize hF : M * 2 ^ (52 - M.log2) = F at *
    have e1 : ((M.log2 + 1022) * 2 ^ 52 + F) / 2 ^ 52 = M.log2 + 1023 := by omega
    have e2 : ((M.log2 + 1022) * 2 ^ 52 + F) % 2 ^ 52 = F - 2 ^ 52 := by omega
    rw [if_neg (by omega), if_pos (by omega), e1, e2]
    refine ⟨s, M, 52 - M.log2, h, rfl, ?_⟩
    rw [hF, show 2 ^ 52 + (F - 2 ^ 52) = F by omega, show (-1074 + ((M.log2 + 1023 - 1 : Nat) : Int)) = -((52 - M.log2 : Nat) : Int) by omega]

theorem FW.read {w : Nat} {n : Int} (h : FW w n) : DI (double.read w) n := by
  obtain ⟨s, M, h1, rfl, rfl⟩ := h
  exact read_int s h1

theorem DI.write {d : Datum} {n : Int} (h : DI d n) : FW (double.write d) n := by
  obtain ⟨s, M, k, h1, rfl, rfl⟩ := h
  exact ⟨s, M, h1, rfl, nearest_int s h1 k⟩

theorem sgn_natAbs (n : Int) : sgn (decide (n < 0)) n.natAbs = n := by
  unfold sgn
  by_cases h : n < 0
  · simp [h]; omega
  · simp [h]; omega

theorem sgn_abs (s : Bool) (M : Nat) : (sgn s M).natAbs = M := by
  cases s <;> simp [sgn]

theorem sgn_mul (s : Bool) (M c : Nat) : sgn s (M * c) = sgn s M * c := by
  cases s <;> simp [sgn, Int.neg_mul]

theorem DI.sum {d e : Datum} {x y : Int} (hx : DI d x) (hy : DI e y) (hb : (x + y).natAbs < 2 ^ 53) : ∃ f, d.sum e = some f ∧ DI f (x + y) := by
  obtain ⟨s, M, k, h1, rfl, rfl⟩ := hx
  obtain ⟨t, N, l, h2, rfl, rfl⟩ := hy
  refine ⟨_, rfl, ?_⟩
  have hbase : min (-(k : Int)) (-(l : Int)) = -((max k l : Nat) : Int) := by omega
  rw [hbase]
  have e1 : (-(k : Int) - -((max k l : Nat) : Int)).toNat = max k l - k := by omega
  have e2 : (-(l : Int) - -((max k l : Nat) : Int)).toNat = max k l - l := by omega
  rw [e1, e2, signed_sgn, signed_sgn, Nat.mul_assoc, Nat.mul_assoc, ← Nat.pow_add, ← Nat.pow_add, show k + (max k l - k) = max k l by omega, show l + (max k l - l) = max k l by omega, sgn_mul, sgn_mul, ← Int.add_mul]
  generalize max k l = K
  generalize sgn s M + sgn t N = z at hb
  have hp : (0 : Int) < ((2 ^ K : Nat) : Int) := by have := Nat.two_pow_pos K; omega
  have e3 : (z * ((2 ^ K : Nat) : Int)).natAbs = z.natAbs * 2 ^ K := by rw [Int.natAbs_mul]; rfl
  refine ⟨_, z.natAbs, K, hb, ?_, by rw [e3]⟩
  by_cases hz : z = 0
  · subst hz; simp [sgn]
  · have h0 : z * ((2 ^ K : Nat) : Int) ≠ 0 := Int.mul_ne_zero hz (by omega)
    rw [if_neg h0]
    have : decide (z * ((2 ^ K : Nat) : Int) < 0) = decide (z < 0) := by
      apply decide_eq_decide.2
      constructor
      · intro h
        rcases Int.lt_or_le z 0 with h1 | h1
        · exact h1
        · have := Int.mul_nonneg h1 (Int.le_of_lt hp); omega
      · intro h; exact Int.mul_neg_of_neg_of_pos h hp
    rw [this, sgn_natAbs]

theorem DI.product {d e : Datum} {x y : Int} (hx : DI d x) (hy : DI e y) (hb : (x * y).natAbs < 2 ^ 53) : ∃ f, d.product e = some f ∧ DI f (x * y) := by
  obtain ⟨s, M, k, h1, rfl, rfl⟩ := hx
  obtain ⟨t, N, l, h2, rfl, rfl⟩ := hy
  refine ⟨_, rfl, s ^^ t, M * N, k + l, ?_, ?_, ?_⟩
  · rw [Int.natAbs_mul, sgn_abs, sgn_abs] at hb; exact hb
  · cases s <;> cases t <;> simp [sgn, Int.neg_mul, Int.mul_neg]
  · congr 1
    · rw [Nat.pow_add, Nat.mul_assoc, Nat.mul_assoc, Nat.mul_left_comm (2 ^ k)]
    · omega

theorem DI.opposite {d : Datum} {x : Int} (hx : DI d x) : DI d.opposite (-x) := by
  obtain ⟨s, M, k, h1, rfl, rfl⟩ := hx
  exact ⟨!s, M, k, h1, by cases s <;> simp [sgn], rfl⟩

theorem compare_scale {z w p : Int} (hp : 0 < p) : compare (z * p) (w * p) = compare z w := by
  have h1 : (z * p < w * p) = (z < w) := propext ⟨fun h => Int.lt_of_mul_lt_mul_right h (Int.le_of_lt hp), fun h => Int.mul_lt_mul_of_pos_right h hp⟩
  have h2 : (z * p = w * p) = (z = w) := propext ⟨fun h => Int.eq_of_mul_eq_mul_right (by omega) h, fun h => by rw [h]⟩
  simp only [compare, compareOfLessAndEq, h1, h2]

theorem DI.order {d e : Datum} {x y : Int} (hx : DI d x) (hy : DI e y) : d.order e = some (compare x y) := by
  obtain ⟨s, M, k, h1, rfl, rfl⟩ := hx
  obtain ⟨t, N, l, h2, rfl, rfl⟩ := hy
  unfold Datum.order
  simp only
  have hbase : min (-(k : Int)) (-(l : Int)) = -((max k l : Nat) : Int) := by omega
  rw [hbase]
  have e1 : (-(k : Int) - -((max k l : Nat) : Int)).toNat = max k l - k := by omega
  have e2 : (-(l : Int) - -((max k l : Nat) : Int)).toNat = max k l - l := by omega
  rw [e1, e2, signed_sgn, signed_sgn, Nat.mul_assoc, Nat.mul_assoc, ← Nat.pow_add, ← Nat.pow_add, show k + (max k l - k) = max k l by omega, show l + (max k l - l) = max k l by omega, sgn_mul, sgn_mul]
  rw [compare_scale (by have := Nat.two_pow_pos (max k l); omega)]

theorem DI.integral (way : Toward) {d : Datum} {x : Int} (hx : DI d x) : ∃ s M, M < 2 ^ 53 ∧ x = sgn s M ∧ d.integral way = .number s M 0 := by
  obtain ⟨s, M, k, h1, rfl, rfl⟩ := hx
  refine ⟨s, M, h1, rfl, ?_⟩
  simp only [Datum.integral]
  have e1 : (-(k : Int)).toNat = 0 := by omega
  have e2 : (- -(k : Int)).toNat = k := by omega
  rw [e1, e2, shl, Nat.pow_zero, Nat.mul_one, cut_exact]

theorem DI.toInt (way : Toward) {d : Datum} {x : Int} (hx : DI d x) : d.toInt way = some x := by
  obtain ⟨s, M, h1, rfl, h2⟩ := hx.integral way
  unfold Datum.toInt
  rw [h2]
  simp only [signed_sgn, Nat.pow_zero, Nat.mul_one]

/-! words -/

theorem FW.add {a b : Nat} {x y : Int} (ha : FW a x) (hb : FW b y) (h : (x + y).natAbs < 2 ^ 53) : ∃ w, double.add a b = some w ∧ FW w (x + y) := by
  obtain ⟨f, h1, h2⟩ := ha.read.sum hb.read h
  exact ⟨_, by unfold Format.add; rw [h1]; rfl, h2.write⟩
theorem FW.sub {a b : Nat} {x y : Int} (ha : FW a x) (hb : FW b y) (h : (x - y).natAbs < 2 ^ 53) : ∃ w, double.sub a b = some w ∧ FW w (x - y) := by
  obtain ⟨f, h1, h2⟩ := ha.read.sum hb.read.opposite (by rwa [← Int.sub_eq_add_neg])
  exact ⟨_, by unfold Format.sub; rw [h1]; rfl, by rw [Int.sub_eq_add_neg]; exact h2.write⟩
theorem FW.mul {a b : Nat} {x y : Int} (ha : FW a x) (hb : FW b y) (h : (x * y).natAbs < 2 ^ 53) : ∃ w, double.mul a b = some w ∧ FW w (x * y) := by
  obtain ⟨f, h1, h2⟩ := ha.read.product hb.read h
  exact ⟨_, by unfold Format.mul; rw [h1]; rfl, h2.write⟩
theorem FW.order {a b : Nat} {x y : Int} (ha : FW a x) (hb : FW b y) : double.order a b = some (compare x y) := ha.read.order hb.read

theorem FW.of_int {n : Int} (h : n.natAbs < 2 ^ 53) : FW (double.write (.number (n < 0) n.natAbs 0)) n := by
  have : DI (.number (n < 0) n.natAbs 0) n := ⟨decide (n < 0), n.natAbs, 0, h, (sgn_natAbs n).symm, by simp⟩
  exact this.write

theorem FW.zero : FW 0 0 := ⟨false, 0, by decide, rfl, rfl⟩

end Ieee
