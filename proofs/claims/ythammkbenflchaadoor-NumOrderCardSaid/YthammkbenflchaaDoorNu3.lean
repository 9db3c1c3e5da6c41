import Derived.Test.YthammkbenflchaaDoorNu2
namespace Go.Proofs.YthammkbenflchaaDoor
set_option linter.unusedSimpArgs false
set_option linter.unusedVariables false
open Go.Am Ieee
set_option maxRecDepth 100000

/-! ### NumOrder -/

theorem mod4 (a : Int) : okP (a.tmod 4) := by
  obtain ⟨_, h2, h3⟩ := tmod_fix a 4 (by decide)
  unfold okP; omega

theorem okP_lt {x : Int} (h : okP x) : x.natAbs < 2 ^ 53 := by have := okP_abs h; omega

theorem order_ok (n : Nat) (a b c d e f : Int) : ∃ h', F7 (nc (n + 4)) (ii a) (ii b) (ii c) (ii d) (ii e) (ii f) [] = some (.lit (.bool true), h') := by
  have ma := mod4 a
  have mb := mod4 b
  have mc := mod4 c
  have md := mod4 d
  have me := mod4 e
  have mf := mod4 f
  obtain ⟨p, p1, p2⟩ := c_of (n + 3) (okP_lt ma) (okP_lt mb)
  obtain ⟨q, q1, q2⟩ := c_of (n + 3) (okP_lt mc) (okP_lt md)
  obtain ⟨r, r1, r2⟩ := c_of (n + 3) (okP_lt me) (okP_lt mf)
  have r4 : ∀ z : Int, binX Tryd.prog .none .rem 3 (ii z) (ii 4) = some (ii (z.tmod 4)) := fun z => rem_int (by decide)
  have kn : ∀ h, nc (n + 4) 13 [] h = some (.lit (.bool true), h) := c_known (n + 3)
  simp only [F7, S7_4, r4, opt_s, p2, opt2_s, S7_3, q2, S7_2, r2]
  generalize a.tmod 4 = x at *
  generalize b.tmod 4 = y at *
  generalize c.tmod 4 = z at *
  generalize d.tmod 4 = u at *
  generalize e.tmod 4 = v at *
  generalize f.tmod 4 = w at *
  have Lpp := fun h => c_less n p1 p1 h
  have Lpq := fun h => c_less n p1 q1 h
  have Lqp := fun h => c_less n q1 p1 h
  have Lqr := fun h => c_less n q1 r1 h
  have Lpr := fun h => c_less n p1 r1 h
  simp only [ma, mb, mc, md, me, mf, and_self, true_and] at Lpp Lpq Lqp Lqr Lpr
  have irr : ¬ lessP x y x y := by unfold lessP; omega
  have fin : ∃ h', S7_0 (nc (n + 4)) p q r [] = some (.lit (.bool true), h') := by
    simp only [S7_0, Lpq, opt2_s, not_b, opt_s, test_b, kn]
    by_cases h1 : lessP x y z u
    · simp only [h1, decide_true, Bool.not_true, Bool.false_eq_true, if_false, Lqr, opt2_s, not_b, opt_s, test_b]
      by_cases h2 : lessP z u v w
      · have h3 : lessP x y v w := by unfold lessP at *; omega
        simp only [h2, decide_true, Bool.not_true, Bool.false_eq_true, if_false, Lpr, opt2_s, h3, if_true, test_b]
        exact ⟨_, rfl⟩
      · simp only [h2, decide_false, Bool.not_false, if_true]
        exact ⟨_, rfl⟩
    · simp only [h1, decide_false, Bool.not_false, if_true]
      exact ⟨_, rfl⟩
  simp only [S7_1, Lpp, opt2_s, irr, decide_false, test_b, Bool.false_eq_true, if_false, Lpq, cw_neq 22 p1 q1, opt_s, Lqp, not_b]
  by_cases h1 : lessP x y z u
  · have h2 : ¬ lessP z u x y := by unfold lessP at *; omega
    have h3 : ¬ (x = z ∧ y = u) := by unfold lessP at *; omega
    simp only [h1, h2, h3, decide_true, decide_false, if_true, if_false, Bool.false_eq_true, not_false_eq_true, Bool.not_true]
    exact fin
  · simp only [h1, decide_false, Bool.false_eq_true, if_false]
    by_cases h3 : x = z ∧ y = u
    · simp only [h3, and_self, not_true_eq_false, decide_false, Bool.false_eq_true, if_false]
      exact fin
    · have h2 : lessP z u x y := by unfold lessP at *; omega
      simp only [h3, h2, not_false_eq_true, decide_true, if_true, Bool.not_false, Bool.not_true, Bool.false_eq_true, if_false]
      exact fin

/-! ### NumRules -/

set_option maxHeartbeats 1000000 in
theorem rules_ok (n : Nat) (a b c d : Int) : ∃ h', F9 (nc (n + 4)) (ii a) (ii b) (ii c) (ii d) [] = some (.lit (.bool true), h') := by
  have W : ∀ (z : Int) h, nc (n + 4) 17 [ii z, ii 0, ii 1000] h = some (ii (z % (1000 + 1)), h) := fun z h => c_within (n + 3) (by decide) (by decide) h
  have B : ∀ z : Int, 0 ≤ z % (1000 + 1) ∧ z % (1000 + 1) < 1001 := fun z => ⟨Int.emod_nonneg z (by decide), Int.emod_lt_of_pos z (by decide)⟩
  obtain ⟨a1, a2⟩ := B a
  obtain ⟨b1, b2⟩ := B b
  obtain ⟨c1, c2⟩ := B c
  obtain ⟨d1, d2⟩ := B d
  simp only [F9, S9_8, W, opt2_s, fb_sub, opt_s, S9_7]
  generalize a % (1000 + 1) = a' at *
  generalize b % (1000 + 1) = b' at *
  generalize c % (1000 + 1) = c' at *
  generalize d % (1000 + 1) = d' at *
  rw [wrap64 (n := a' - 500) (by omega) (by omega), wrap64 (n := b' - 500) (by omega) (by omega), wrap64 (n := c' - 500) (by omega) (by omega), wrap64 (n := d' - 500) (by omega) (by omega)]
  obtain ⟨x, hx⟩ : ∃ x, x = a' - 500 := ⟨_, rfl⟩
  obtain ⟨y, hy⟩ : ∃ x, x = b' - 500 := ⟨_, rfl⟩
  obtain ⟨z, hz⟩ : ∃ x, x = c' - 500 := ⟨_, rfl⟩
  obtain ⟨u, hu⟩ : ∃ x, x = d' - 500 := ⟨_, rfl⟩
  rw [← hx, ← hy, ← hz, ← hu]
  have x1 : -500 ≤ x ∧ x ≤ 500 := by omega
  have y1 : -500 ≤ y ∧ y ≤ 500 := by omega
  have z1 : -500 ≤ z ∧ z ≤ 500 := by omega
  have u1 : -500 ≤ u ∧ u ≤ 500 := by omega
  clear hx hy hz hu a1 a2 b1 b2 c1 c2 d1 d2 W B
  have bd : ∀ s t : Int, -500 ≤ s ∧ s ≤ 500 → -500 ≤ t ∧ t ≤ 500 → -250000 ≤ s * t ∧ s * t ≤ 250000 := by
    intro s t hs ht
    have h1 : (s * t).natAbs ≤ 250000 := by
      rw [Int.natAbs_mul]
      calc s.natAbs * t.natAbs ≤ 500 * 500 := Nat.mul_le_mul (by omega) (by omega)
        _ = _ := by decide
    omega
  have ok : ∀ s : Int, -1000 ≤ s ∧ s ≤ 1000 → okP s := fun s h => by unfold okP; omega
  have okx := ok x (by omega)
  have oky := ok y (by omega)
  have okz := ok z (by omega)
  have oku := ok u (by omega)
  obtain ⟨p, p1, p2⟩ := c_of (n + 3) (okP_lt okx) (okP_lt oky)
  obtain ⟨q, q1, q2⟩ := c_of (n + 3) (okP_lt okz) (okP_lt oku)
  -- add
  obtain ⟨r1, r1c, r1g, _⟩ := c_two n (op := 0) (by decide) p1 q1 okx oky okz oku
  obtain ⟨s1, rfl, s1g⟩ := (r1g (by simp only [twoX, twoY, if_true]; unfold okP; omega)).val
  obtain ⟨r2, r2c, r2g, _⟩ := c_two n (op := 0) (by decide) q1 p1 okz oku okx oky
  obtain ⟨s2, rfl, s2g⟩ := (r2g (by simp only [twoX, twoY, if_true]; unfold okP; omega)).val
  have e1 : twoX 0 x y z u = x + z := rfl
  have e2 : twoY 0 x y z u = y + u := rfl
  have e3 : twoX 0 z u x y = z + x := rfl
  have e4 : twoY 0 z u x y = u + y := rfl
  rw [e1, e2] at s1g
  rw [e3, e4] at s2g
  -- sub
  obtain ⟨r3, r3c, r3g, _⟩ := c_two n (op := 1) (by decide) s1g q1 (by unfold okP; omega) (by unfold okP; omega) okz oku
  have e5 : twoX 1 (x + z) (y + u) z u = x + z - z := rfl
  have e6 : twoY 1 (x + z) (y + u) z u = y + u - u := rfl
  obtain ⟨s3, rfl, s3g⟩ := (r3g (by rw [e5, e6]; unfold okP; omega)).val
  rw [e5, e6] at s3g
  -- mul
  have m1 := bd x z x1 z1
  have m2 := bd y u y1 u1
  have m3 := bd x u x1 u1
  have m4 := bd y z y1 z1
  obtain ⟨r4, r4c, r4g, _⟩ := c_two n (op := 2) (by decide) p1 q1 okx oky okz oku
  have e7 : twoX 2 x y z u = x * z - y * u := rfl
  have e8 : twoY 2 x y z u = x * u + y * z := rfl
  obtain ⟨s4, rfl, s4g⟩ := (r4g (by rw [e7, e8]; unfold okP; omega)).val
  rw [e7, e8] at s4g
  obtain ⟨r5, r5c, r5g, _⟩ := c_two n (op := 2) (by decide) q1 p1 okz oku okx oky
  have e9 : twoX 2 z u x y = x * z - y * u := by show z * x - u * y = _; rw [Int.mul_comm z x, Int.mul_comm u y]
  have e10 : twoY 2 z u x y = x * u + y * z := by show z * y + u * x = _; rw [Int.mul_comm z y, Int.mul_comm u x, Int.add_comm]
  obtain ⟨s5, rfl, s5g⟩ := (r5g (by rw [e9, e10]; unfold okP; omega)).val
  rw [e9, e10] at s5g
  -- one
  obtain ⟨_, t1c, g1⟩ := c_one n (op := 1) (by decide) p1 okx oky
  obtain ⟨t1, rfl, t1g⟩ := g1.val
  have f1 : oneX 1 x y = x := rfl
  have f2 : oneY 1 x y = -y := rfl
  rw [f1, f2] at t1g
  have okny : okP (-y) := ok _ (by omega)
  obtain ⟨_, t2c, g2⟩ := c_one n (op := 1) (by decide) t1g okx okny
  obtain ⟨t2, rfl, t2g⟩ := g2.val
  have f3 : oneX 1 x (-y) = x := rfl
  have f4 : oneY 1 x (-y) = y := by show - -y = y; omega
  rw [f3, f4] at t2g
  obtain ⟨_, t3c, g3⟩ := c_one n (op := 2) (by decide) p1 okx oky
  obtain ⟨t3, rfl, t3g⟩ := g3.val
  have f5 : oneX 2 x y = x := rfl
  have f6 : oneY 2 x y = 0 := rfl
  rw [f5, f6] at t3g
  obtain ⟨_, t4c, g4⟩ := c_one n (op := 3) (by decide) p1 okx oky
  obtain ⟨t4, rfl, t4g⟩ := g4.val
  have f7 : oneX 3 x y = y := rfl
  have f8 : oneY 3 x y = 0 := rfl
  rw [f7, f8] at t4g
  obtain ⟨i1, i1g, i1c⟩ := c_of (n + 3) (x := 0) (y := 1) (by decide) (by decide)
  have ok0 : okP 0 := ok _ (by decide)
  have ok1 : okP 1 := ok _ (by decide)
  obtain ⟨r6, r6c, r6g, _⟩ := c_two n (op := 2) (by decide) t4g i1g oky ok0 ok0 ok1
  have e11 : twoX 2 y 0 0 1 = 0 := by show y * 0 - 0 * 1 = 0; simp
  have e12 : twoY 2 y 0 0 1 = y := by show y * 1 + 0 * 0 = y; simp
  obtain ⟨s6, rfl, s6g⟩ := (r6g (by rw [e11, e12]; exact ⟨ok0, oky⟩)).val
  rw [e11, e12] at s6g
  obtain ⟨r7, r7c, r7g, _⟩ := c_two n (op := 0) (by decide) t3g s6g okx ok0 ok0 oky
  have e13 : twoX 0 x 0 0 y = x := by show x + 0 = x; simp
  have e14 : twoY 0 x 0 0 y = y := by show 0 + y = y; simp
  obtain ⟨s7, rfl, s7g⟩ := (r7g (by rw [e13, e14]; exact ⟨okx, oky⟩)).val
  rw [e13, e14] at s7g
  have m5 := bd x x x1 x1
  have m6 := bd y y y1 y1
  obtain ⟨r8, r8c, r8g, _⟩ := c_two n (op := 2) (by decide) p1 t1g okx oky okx okny
  have e15 : twoX 2 x y x (-y) = x * x + y * y := by show x * x - y * (-y) = _; rw [Int.mul_neg]; omega
  have e16 : twoY 2 x y x (-y) = 0 := by show x * (-y) + y * x = 0; rw [Int.mul_neg, Int.mul_comm y x]; omega
  have okv : okP (x * x + y * y) := by unfold okP; omega
  obtain ⟨s8, rfl, s8g⟩ := (r8g (by rw [e15, e16]; exact ⟨okv, ok0⟩)).val
  rw [e15, e16] at s8g
  obtain ⟨_, t5c, g5⟩ := c_one n (op := 3) (by decide) s8g okv ok0
  obtain ⟨t5, rfl, t5g⟩ := g5.val
  have f9 : oneX 3 (x * x + y * y) 0 = 0 := rfl
  have f10 : oneY 3 (x * x + y * y) 0 = 0 := rfl
  rw [f9, f10] at t5g
  have o0 : opS 0 = [97, 100, 100] := rfl
  have o1 : opS 1 = [115, 117, 98] := rfl
  have o2 : opS 2 = [109, 117, 108] := rfl
  have q1' : op1S 1 = [99, 111, 110, 106] := rfl
  have q2' : op1S 2 = [114, 101] := rfl
  have q3' : op1S 3 = [105, 109] := rfl
  rw [o0] at r1c r2c r7c
  rw [o1] at r3c
  rw [o2] at r4c r5c r6c r8c
  rw [q1'] at t1c t2c
  rw [q2'] at t3c
  rw [q3'] at t4c t5c
  have Lpq := fun h => c_less n p1 q1 h
  have Lqp := fun h => c_less n q1 p1 h
  simp only [okx, oky, okz, oku, and_self, true_and] at Lpq Lqp
  have kn : ∀ h, nc (n + 4) 13 [] h = some (.lit (.bool true), h) := c_known (n + 3)
  have n1 : x + z = z + x := by omega
  have n2 : y + u = u + y := by omega
  have n3 : z + x - z = x := by omega
  have n4 : u + y - u = y := by omega
  simp only [p2, q2, opt2_s, S9_6, r1c, extract_tup, List.getElem?_cons_zero, List.getElem?_cons_succ, opt_s, S9_5, r2c, S9_4, r3c, S9_3, r4c, S9_2, r5c, S9_1, fb_neq, Int.natCast_zero, ne_eq, not_true_eq_false, decide_false, test_b, Bool.false_eq_true, if_false,
    cw_neq 22 s1g s2g, n1, n2, and_self, cw_neq 22 s3g p1, n3, n4, cw_neq 22 s4g s5g]
  simp only [S9_0, t1c, opt2_s, extract_tup, List.getElem?_cons_zero, List.getElem?_cons_succ, opt_s, t2c, t3c, t4c, i1c, r6c, r7c, r8c, t5c, cw_eql 22 t2g p1, and_self, decide_true, test_b, if_true, cw_eql 22 s7g p1, cw_eql 22 t5g CW.zero, Lpq, Lqp, cw_eql 22 p1 q1, bx_neqb, kn]
  have tri : (lessP x y z u ∧ ¬ lessP z u x y ∧ ¬ (x = z ∧ y = u)) ∨ (¬ lessP x y z u ∧ lessP z u x y) ∨ (¬ lessP x y z u ∧ ¬ lessP z u x y ∧ x = z ∧ y = u) := by unfold lessP; omega
  rcases tri with ⟨h1, h2, h3⟩ | ⟨h1, h2⟩ | ⟨h1, h2, h3⟩
  · simp only [h1, h2, h3, decide_true, decide_false, Bool.false_eq_true, if_false]
    exact ⟨_, rfl⟩
  · simp only [h1, h2, decide_true, decide_false, Bool.false_eq_true, if_false, if_true]
    exact ⟨_, rfl⟩
  · obtain ⟨rfl, rfl⟩ := h3
    simp only [h1, and_self, decide_true, decide_false, Bool.false_eq_true, if_false]
    exact ⟨_, rfl⟩

end Go.Proofs.YthammkbenflchaaDoor
