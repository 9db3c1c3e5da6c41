import Derived.Test.YthammkbenflchaaDoorNu5
namespace Go.Proofs.YthammkbenflchaaDoor
set_option linter.unusedSimpArgs false
set_option linter.unusedVariables false
open Go.Am Ieee
set_option maxRecDepth 100000

/-! ### The document's own numbers -/

theorem c_parts (n : Nat) {v : AV} {x y : Int} (hv : CW v x y) (h : Heap) : nc (n + 1) 38 [v] h = some (if okP x ∧ okP y then .tup [ii x, ii y, .lit (.bool true)] else .tup [ii 0, ii 0, .lit (.bool false)], h) := by
  obtain ⟨a, b, rfl, ha, hb⟩ := hv
  obtain ⟨fx1, fx2⟩ := f2i_fw ha []
  obtain ⟨fy1, fy2⟩ := f2i_fw hb []
  have em : (.lit (.float .f64 13920626448202203136) : AV) = fl 13920626448202203136 := rfl
  have eM : (.lit (.float .f64 4697254411347427328) : AV) = fl 4697254411347427328 := rfl
  have bad : S38_1 (nc n) (fl a) (fl b) (.lit (.bool true)) [] = some (.tup [ii 0, ii 0, .lit (.bool false)], []) := by
    simp only [S38_1, test_b, if_true]
  have main : F38 (nc n) (cx a b) [] = some (if okP x ∧ okP y then .tup [ii x, ii y, .lit (.bool true)] else .tup [ii 0, ii 0, .lit (.bool false)], []) := by
    simp only [F38, S38_4, bi_real, opt_s, S38_3, bi_imag, S38_2, em, eM, fw_geq 40 ha fw_min, fw_leq 40 ha fw_max, fw_geq 40 hb fw_min, fw_leq 40 hb fw_max, test_b, decide_eq_true_eq, not_b, Bool.not_false]
    by_cases h1 : -1048576 ≤ x
    · rw [if_pos h1]
      by_cases h2 : x ≤ 1048576
      · rw [if_pos h2]
        by_cases h3 : -1048576 ≤ y
        · rw [if_pos h3]
          by_cases h4 : y ≤ 1048576
          · obtain ⟨u, _, u1, u2⟩ := i2f_fw (n := x) (by omega) []
            obtain ⟨w, _, w1, w2⟩ := i2f_fw (n := y) (by omega) []
            rw [if_pos ⟨⟨h1, h2⟩, ⟨h3, h4⟩⟩, decide_eq_true h4]
            simp only [Bool.not_true, S38_1, test_b, Bool.false_eq_true, if_false, S38_0, fx2, opt_s, fy2, u1, fw_eql 40 u2 ha, decide_true, if_true, w1, fw_eql 40 w2 hb]
          · rw [decide_eq_false h4, if_neg (fun h => h4 h.2.2)]; exact bad
        · rw [if_neg h3, if_neg (fun h => h3 h.2.1)]; exact bad
      · rw [if_neg h2, if_neg (fun h => h2 h.1.2)]; exact bad
    · rw [if_neg h1, if_neg (fun h => h1 h.1.1)]; exact bad
  refine al (F := N38) ⟨[], (show N38 (nc n) [cx a b] [] = _ from main)⟩ (fun _ => rfl) (fun h => ?_) rfl rfl h
  split <;> rfl

theorem c_rright (n : Nat) {v : AV} {x y : Int} (hv : CW v x y) (h : Heap) : nc (n + 2) 27 [v] h = some (.lit (.bool (decide (okP x ∧ okP y))), h) := by
  have c := fun h => c_parts n hv h
  obtain ⟨a, b, rfl, ha, hb⟩ := hv
  refine al (F := N27) ⟨[], ?_⟩ (fun _ => rfl) (fun _ => rfl) rfl rfl h
  simp only [N27, F27, c, opt2_s]
  by_cases ho : okP x ∧ okP y
  · rw [if_pos ho, decide_eq_true ho]; rfl
  · rw [if_neg ho, decide_eq_false ho]; rfl

theorem c_rof (n : Nat) {x y : Int} (hx : x.natAbs < 2 ^ 53) (hy : y.natAbs < 2 ^ 53) : ∃ v, CW v x y ∧ ∀ h, nc (n + 1) 45 [ii x, ii y] h = some (v, h) := by
  obtain ⟨a, _, a1, a2⟩ := i2f_fw hx []
  obtain ⟨b, _, b1, b2⟩ := i2f_fw hy []
  refine ⟨cx a b, ⟨a, b, rfl, a2, b2⟩, fun h => al (F := N45) ⟨[], ?_⟩ (fun _ => rfl) (fun _ => rfl) rfl rfl h⟩
  simp only [N45, F45, a1, opt_s, b1, bi_cx]

/-- A number made of two whole ones, or refused. -/
theorem c_made (n : Nat) {x y : Int} (hx : x.natAbs < 2 ^ 53) (hy : y.natAbs < 2 ^ 53) :
    ∃ v e, (∀ h, nc (n + 3) 39 [ii x, ii y] h = some (.tup [v, ii e], h)) ∧ ((okP x ∧ okP y) → CW v x y ∧ e = 0) ∧ (¬ (okP x ∧ okP y) → v = .lit (.complex .f64 0 0) ∧ e = 44) := by
  obtain ⟨q, q1, q2⟩ := c_rof (n + 1) hx hy
  have c := fun h => c_rright n q1 h
  have q2' : ∀ h, nc (n + 2) 45 [ii x, ii y] h = some (q, h) := q2
  by_cases ho : okP x ∧ okP y
  · refine ⟨q, 0, fun h => al (F := N39) ⟨[], ?_⟩ (fun _ => rfl) (fun h => ?_) rfl rfl h, fun _ => ⟨q1, rfl⟩, fun h => absurd ho h⟩
    · simp only [N39, F39, q2', opt2_s, c, not_b, opt_s, test_b, ho, and_self, decide_true, Bool.not_true, Bool.false_eq_true, if_false]
    · obtain ⟨a, b, rfl, _, _⟩ := q1; rfl
  · refine ⟨_, 44, fun h => al (F := N39) ⟨[], ?_⟩ (fun _ => rfl) (fun _ => rfl) rfl rfl h, fun h => absurd h ho, fun _ => ⟨rfl, rfl⟩⟩
    simp only [N39, F39, q2', opt2_s, c, not_b, opt_s, test_b, ho, decide_false, Bool.not_false, if_true]

theorem c_rr (n : Nat) {X Y x y : Int} (hX : X.natAbs < 2 ^ 53) (hY : Y.natAbs < 2 ^ 53) (h1 : CapI X x) (h2 : CapI Y y) :
    ∃ v b, (∀ h, nc (n + 4) 35 [ii X, ii Y] h = some (.tup [v, .lit (.bool b)], h)) ∧ ParseR (.tup [v, .lit (.bool b)]) (okO (some (x, y))) := by
  obtain ⟨v, e, m1, m2, m3⟩ := c_made n hX hY
  rw [CapI.ok h1 h2] at m2 m3
  by_cases ho : okP x ∧ okP y
  · obtain ⟨q1, rfl⟩ := m2 ho
    rw [h1.1 ho.1, h2.1 ho.2] at q1
    have pr : ParseR (.tup [v, .lit (.bool true)]) (okO (some (x, y))) := by
      simp only [okO, if_pos ho]; exact ⟨v, rfl, q1⟩
    refine ⟨v, true, fun h => al (F := N35) ⟨[], ?_⟩ (fun _ => rfl) pr.snap rfl rfl h, pr⟩
    simp only [N35, F35, m1, opt2_s, extract_tup, List.getElem?_cons_zero, List.getElem?_cons_succ, opt_s, fb_eql, decide_true]
  · obtain ⟨rfl, rfl⟩ := m3 ho
    have pr : ParseR (.tup [.lit (.complex .f64 0 0), .lit (.bool false)]) (okO (some (x, y))) := by
      simp only [okO, if_neg ho]; rfl
    refine ⟨_, false, fun h => al (F := N35) ⟨[], ?_⟩ (fun _ => rfl) pr.snap rfl rfl h, pr⟩
    simp only [N35, F35, m1, opt2_s, extract_tup, List.getElem?_cons_zero, List.getElem?_cons_succ, opt_s, fb_eql]
    rfl

theorem sign_mul (m : Nat) (hm : m ≤ 17592186044416) (b : Bool) : fastWrap .i64 ((m : Int) * (if b = true then -1 else 1)) = sgI b m := by
  cases b
  · simp only [Bool.false_eq_true, if_false, Int.mul_one, sgI]; exact wrap64 (by omega) (by omega)
  · simp only [if_true, sgI]
    rw [wrap64 (by omega) (by omega)]; omega

theorem c_rparse (n : Nat) {s : List UInt8} (hs : s.length ≤ 9223372036854775807) : ∃ r, (∀ h, nc (n + 5) 12 [ss s] h = some (r, h)) ∧ ParseR r (parseF s) := by
  suffices hk : ∃ r, F12 (nc (n + 4)) (ss s) [] = some (r, []) ∧ ParseR r (parseF s) by
    obtain ⟨r, h1, h2⟩ := hk
    exact ⟨r, fun h => al (F := N12) ⟨[], (show N12 (nc (n + 4)) [ss s] [] = some (r, []) from h1)⟩ (fun _ => rfl) h2.snap rfl rfl h, h2⟩
  have main : ∀ (t : List UInt8) (mi : Bool), t.length ≤ 9223372036854775807 → ∃ r, S12_14 (nc (n + 4)) (ss t) (ii (if mi = true then -1 else 1)) [] = some (r, []) ∧ ParseR r (okO (numV mi t)) := by
    intro t mi hs'
    obtain ⟨m, d1, d3, d4⟩ := c_rpart (n + 3) hs'
    have d1' : ∀ h, nc (n + 4) 34 [ss t] h = some (.tup [ii (m : Int), ss (rs t), .lit (.bool (decide (dl t ≠ [])))], h) := d1
    have sm := sign_mul m d4 mi
    simp only [S12_14, d1', opt2_s, extract_tup, List.getElem?_cons_zero, List.getElem?_cons_succ, opt_s, S12_13, fb_mul, sm, S12_12, not_b, S12_11, test_b]
    have bX : (sgI mi m).natAbs < 2 ^ 53 := by rw [sgI_abs]; omega
    have cX := capI_of d3 mi
    unfold numV
    by_cases hd : dl t = []
    · simp only [hd, ne_eq, not_true_eq_false, decide_false, Bool.not_false, if_true]
      exact ⟨_, rfl, rfl⟩
    · simp only [hd, ne_eq, not_false_eq_true, decide_true, Bool.not_true, Bool.false_eq_true, if_false, S12_10, fb_eqls, opt_s, S12_9, test_b, decide_eq_true_eq]
      have hrl := rs_len t
      generalize hrt : rs t = R at *
      cases R with
      | nil =>
        obtain ⟨v, b, p1, p2⟩ := c_rr n bX (show (0 : Int).natAbs < 2 ^ 53 by decide) cX (CapI.refl 0)
        simp only [if_true, p1, opt2_s, extract_tup, List.getElem?_cons_zero, List.getElem?_cons_succ, opt_s]
        exact ⟨_, rfl, p2⟩
      | cons c r =>
        rw [if_neg (by simp)]
        simp only [S12_8, fb_eqls, opt_s, S12_7, test_b, decide_eq_true_eq]
        by_cases hi : c :: r = [105]
        · rw [if_pos hi]
          obtain ⟨v, b, p1, p2⟩ := c_rr n (show (0 : Int).natAbs < 2 ^ 53 by decide) bX (CapI.refl 0) cX
          simp only [hi, if_true, p1, opt2_s, extract_tup, List.getElem?_cons_zero, List.getElem?_cons_succ, opt_s]
          exact ⟨_, rfl, p2⟩
        · rw [if_neg hi]
          simp only [hi, if_false, S12_6, ixh, opt_s, fb_neq, test_b, decide_eq_true_eq, ne_eq, ceq]
          have hr : r.length ≤ 9223372036854775807 := by
            have : (c :: r).length ≤ t.length := hrl
            rw [List.length_cons] at this; omega
          have go : ∃ x, S12_5 (nc (n + 4)) (ii (sgI mi m)) (ss (c :: r)) (.lit (.bool false)) [] = some (x, []) ∧ ParseR x (okO (if dl r ≠ [] ∧ rs r = [105] then some (sgI mi (dn (dl t)), sgI (decide (c.toNat = 45)) (dn (dl r))) else none)) := by
            obtain ⟨m2, f1, f3, f4⟩ := c_rpart (n + 3) hr
            have f1' : ∀ h, nc (n + 4) 34 [ss r] h = some (.tup [ii (m2 : Int), ss (rs r), .lit (.bool (decide (dl r ≠ [])))], h) := f1
            simp only [S12_5, test_b, Bool.false_eq_true, if_false, S12_4, cut1, opt_s, f1', opt2_s, extract_tup, List.getElem?_cons_zero, List.getElem?_cons_succ, S12_3, not_b]
            by_cases h1 : dl r = []
            · simp only [h1, ne_eq, not_true_eq_false, decide_false, Bool.not_false, if_true, S12_2, test_b, false_and, if_false]
              exact ⟨_, rfl, rfl⟩
            · simp only [h1, ne_eq, not_false_eq_true, decide_true, Bool.not_true, Bool.false_eq_true, if_false, fb_neqs, opt_s, S12_2, test_b, decide_eq_true_eq, true_and]
              by_cases h2 : rs r = [105]
              · simp only [h2, not_true_eq_false, if_false, if_true, S12_1, ixh, opt_s, fb_eql, ceq, test_b, decide_eq_true_eq]
                have bY : (sgI (decide (c.toNat = 45)) m2).natAbs < 2 ^ 53 := by rw [sgI_abs]; omega
                obtain ⟨v, b, p1, p2⟩ := c_rr n bX bY cX (capI_of f3 _)
                have fin : S12_0 (nc (n + 4)) (ii (sgI mi m)) (ii (sgI (decide (c.toNat = 45)) m2)) [] = some (.tup [v, .lit (.bool b)], []) := by
                  simp only [S12_0, p1, opt2_s, extract_tup, List.getElem?_cons_zero, List.getElem?_cons_succ, opt_s]
                by_cases h45 : c.toNat = 45
                · rw [if_pos h45]
                  have e : litUn Tryd.prog .neg (ii (m2 : Int)) = some (ii (sgI (decide (c.toNat = 45)) m2)) := by
                    rw [neg_i ⟨by omega, by omega⟩, decide_eq_true h45]; rfl
                  rw [e, opt_s]
                  exact ⟨_, fin, p2⟩
                · rw [if_neg h45]
                  have e : (m2 : Int) = sgI (decide (c.toNat = 45)) m2 := by rw [decide_eq_false h45]; rfl
                  rw [e]
                  exact ⟨_, fin, p2⟩
              · simp only [h2, not_false_eq_true, if_true, if_false]
                exact ⟨_, rfl, rfl⟩
          by_cases h43 : c.toNat = 43
          · rw [if_neg (by simp [h43]), if_pos (.inl h43)]; exact go
          · rw [if_pos h43]
            by_cases h45 : c.toNat = 45
            · rw [show decide (¬ c.toNat = 45) = false by simp [h45], if_pos (.inr h45)]; exact go
            · rw [show decide (¬ c.toNat = 45) = true by simp [h45], if_neg (by omega)]
              simp only [S12_5, test_b, if_true]
              exact ⟨_, rfl, rfl⟩
  unfold parseF
  have hl := noMinus_len s
  simp only [F12, S12_17, S12_16, fb_neqs, opt_s, test_b, decide_eq_true_eq, ne_eq]
  cases s with
  | nil =>
    simp only [not_true_eq_false, if_false, S12_15, test_b, Bool.false_eq_true]
    exact main [] false (by simp)
  | cons c s =>
    rw [if_pos (by simp)]
    simp only [ixh, opt_s, fb_eql, ceq, S12_15, test_b, decide_eq_true_eq, hasMinus, noMinus]
    by_cases h45 : c.toNat = 45
    · rw [if_pos h45]
      simp only [h45, decide_true, if_true, cut1, opt_s, List.drop_succ_cons, List.drop_zero]
      exact main s true (by rw [List.length_cons] at hs; omega)
    · rw [if_neg h45]
      simp only [h45, decide_false, Bool.false_eq_true, if_false]
      exact main (c :: s) false hs

theorem bx_eqlb (a b : Bool) : binX Tryd.prog .none .eql 4 (.lit (.bool a)) (.lit (.bool b)) = some (.lit (.bool (a == b))) := by
  cases a <;> cases b <;> kernel_rfl

theorem reads_ok (n : Nat) {s : List UInt8} (hs : s.length ≤ 9223372036854775807) : ∃ h', F3 (nc (n + 5)) (ss s) [] = some (.lit (.bool true), h') := by
  obtain ⟨r, r1, r2⟩ := c_parse (n + 1) hs
  obtain ⟨q, q1, q2⟩ := c_rparse n hs
  have r1' : ∀ h, nc (n + 5) 11 [ss s] h = some (r, h) := r1
  have kn : ∀ h, nc (n + 5) 13 [] h = some (.lit (.bool true), h) := c_known (n + 4)
  generalize parseF s = o at *
  simp only [F3, r1', opt2_s, q1]
  cases o with
  | none =>
    cases r2; cases q2
    simp only [extract_tup, List.getElem?_cons_zero, List.getElem?_cons_succ, opt_s, cw_eql 22 CW.zero CW.zero, and_self, decide_true, test_b, if_true, bx_eqlb, beq_self_eq_true, kn, opt2_s]
    exact ⟨_, rfl⟩
  | some x =>
    obtain ⟨x, y⟩ := x
    obtain ⟨v, rfl, hv⟩ := r2
    obtain ⟨w, rfl, hw⟩ := q2
    simp only [extract_tup, List.getElem?_cons_zero, List.getElem?_cons_succ, opt_s, cw_eql 22 hv hw, and_self, decide_true, test_b, if_true, bx_eqlb, beq_self_eq_true, kn, opt2_s]
    exact ⟨_, rfl⟩

end Go.Proofs.YthammkbenflchaaDoor
