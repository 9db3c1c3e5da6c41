import Derived.Test.YthammkbenflchaaDoorNu4
namespace Go.Proofs.YthammkbenflchaaDoor
set_option linter.unusedSimpArgs false
set_option linter.unusedVariables false
open Go.Am Ieee
set_option maxRecDepth 100000

/-! ### What a text tells -/

def sgI (b : Bool) (m : Nat) : Int := if b = true then -(m : Int) else m

def numV (minus : Bool) (s : List UInt8) : Option (Int × Int) :=
  if dl s = [] then none else
  match rs s with
  | [] => some (sgI minus (dn (dl s)), 0)
  | c :: r =>
    if c :: r = [105] then some (0, sgI minus (dn (dl s)))
    else if c.toNat = 43 ∨ c.toNat = 45 then
      if dl r ≠ [] ∧ rs r = [105] then some (sgI minus (dn (dl s)), sgI (decide (c.toNat = 45)) (dn (dl r))) else none
    else none

def okO (o : Option (Int × Int)) : Option (Int × Int) :=
  match o with
  | some (x, y) => if okP x ∧ okP y then some (x, y) else none
  | none => none

def hasMinus (s : List UInt8) : Bool := match s with | c :: _ => decide (c.toNat = 45) | [] => false
def noMinus (s : List UInt8) : List UInt8 := if hasMinus s then s.drop 1 else s

def parseF (s : List UInt8) : Option (Int × Int) := okO (numV (hasMinus s) (noMinus s))

/-- What Parse answers. -/
def ParseR (r : AV) : Option (Int × Int) → Prop
  | some (x, y) => ∃ v, r = .tup [v, .lit (.bool true)] ∧ CW v x y
  | none => r = .tup [.lit (.complex .f64 0 0), .lit (.bool false)]

theorem ParseR.snap {r : AV} {o : Option (Int × Int)} (p : ParseR r o) (h : Heap) : snapR h r = some (r, []) := by
  cases o with
  | none => cases p; rfl
  | some x => obtain ⟨v, rfl, a, b, rfl, _, _⟩ := p; rfl

/-- A number that may be too great to be told. -/
def CapI (X x : Int) : Prop := (okP x → X = x) ∧ (¬ okP x → ¬ okP X)

theorem CapI.refl (x : Int) : CapI x x := ⟨fun _ => rfl, fun h => h⟩

theorem capI_of {m V : Nat} (h : capOk m V) (b : Bool) : CapI (sgI b m) (sgI b V) := by
  obtain ⟨h1, h2⟩ := h
  unfold CapI okP sgI
  cases b
  · simp only [Bool.false_eq_true, if_false]
    exact ⟨fun h => by rw [h1 (by omega)], fun h => by have := h2 (by omega); omega⟩
  · simp only [if_true]
    exact ⟨fun h => by rw [h1 (by omega)], fun h => by have := h2 (by omega); omega⟩

theorem sgI_abs (b : Bool) (m : Nat) : (sgI b m).natAbs = m := by cases b <;> simp [sgI]

theorem CapI.ok {X x Y y : Int} (h1 : CapI X x) (h2 : CapI Y y) : (okP X ∧ okP Y) = (okP x ∧ okP y) := by
  apply propext
  constructor
  · rintro ⟨a, b⟩
    refine ⟨?_, ?_⟩
    · by_cases h : okP x
      · exact h
      · exact absurd a (h1.2 h)
    · by_cases h : okP y
      · exact h
      · exact absurd b (h2.2 h)
  · rintro ⟨a, b⟩
    rw [h1.1 a, h2.1 b]; exact ⟨a, b⟩

theorem parse_end (n : Nat) {v : AV} {X Y x y : Int} (hv : CW v X Y) (hX : X.natAbs < 2 ^ 53) (hY : Y.natAbs < 2 ^ 53) (h1 : CapI X x) (h2 : CapI Y y) (h : Heap) :
    ∃ r, S11_0 (nc (n + 3)) v h = some (r, h) ∧ ParseR r (okO (some (x, y))) := by
  simp only [S11_0, c_right n hv, opt2_s, not_b, opt_s, test_b, CapI.ok h1 h2, okO]
  by_cases ho : okP x ∧ okP y
  · obtain ⟨w, w1, w2⟩ := c_plain (n + 2) hv hX hY
    simp only [ho, and_self, decide_true, Bool.not_true, Bool.false_eq_true, if_false, w2, opt2_s, if_true]
    rw [h1.1 ho.1, h2.1 ho.2] at w1
    exact ⟨_, rfl, _, rfl, w1⟩
  · simp only [ho, decide_false, Bool.not_false, if_true, if_false]
    exact ⟨_, rfl, rfl⟩

theorem c_signed (n : Nat) {w m : Nat} (hw : FW w (m : Int)) (b : Bool) : ∃ u, (∀ h, nc (n + 1) 32 [fl w, .lit (.bool b)] h = some (fl u, h)) ∧ FW u (sgI b m) := by
  cases b with
  | false =>
    refine ⟨w, fun h => al (F := N32) ⟨[], ?_⟩ (fun _ => rfl) (fun _ => rfl) rfl rfl h, hw⟩
    simp only [N32, F32, test_b, Bool.false_eq_true, if_false]
  | true =>
    refine ⟨_, fun h => al (F := N32) ⟨[], ?_⟩ (fun _ => rfl) (fun _ => rfl) rfl rfl h, FW.neg hw⟩
    simp only [N32, F32, test_b, if_true, un_neg, opt_s]

theorem c_pref (n : Nat) {s : List UInt8} (hs : s.length ≤ 9223372036854775807) (h : Heap) : nc (n + 1) 46 [ss s, ss [45]] h = some (.lit (.bool (hasMinus s)), h) := by
  refine al (F := N46) ⟨[], ?_⟩ (fun _ => rfl) (fun _ => rfl) rfl rfl h
  have e1 : (([45] : List UInt8).length : Int) = 1 := rfl
  simp only [N46, F46, lenStr_s, opt_s, fb_geq, test_b, decide_eq_true_eq, e1]
  cases s with
  | nil => rw [if_neg (by simp)]; rfl
  | cons c s =>
    rw [if_pos (by simp; omega)]
    have hc : fastCut (ss (c :: s)) none (some (.lit (.int .i64 1))) none = some (ss [c]) := by
      have : (1 : Int) ≤ ((c :: s).length : Int) := by simp; omega
      simp [fastCut, bound, intLit]
    rw [hc, opt_s]
    simp only [fb_eqls, opt_s, hasMinus]
    congr 4
    apply decide_eq_decide.2
    constructor
    · intro h; cases h; rfl
    · intro h; rw [show c = 45 from UInt8.toNat.inj h]

theorem c_cutp (n : Nat) {s : List UInt8} (hs : s.length ≤ 9223372036854775807) (h : Heap) : nc (n + 3) 30 [ss s, ss [45]] h = some (.tup [ss (noMinus s), .lit (.bool (hasMinus s))], h) := by
  have c41 : ∀ h, nc (n + 2) 41 [ss s, ss [45]] h = some (.tup [ss (noMinus s), .lit (.bool (hasMinus s))], h) := by
    intro h
    refine al (F := N41) ⟨[], ?_⟩ (fun _ => rfl) (fun _ => rfl) rfl rfl h
    simp only [N41, F41, c_pref n hs, opt2_s, not_b, opt_s, test_b]
    unfold noMinus
    cases hm : hasMinus s with
    | false => simp
    | true =>
      have hl : 1 ≤ s.length := by
        cases s with
        | nil => cases hm
        | cons c s => simp
      have e1 : (([45] : List UInt8).length : Int) = 1 := rfl
      simp only [Bool.not_true, Bool.false_eq_true, if_false, lenStr_s, opt_s, e1, cut_from (show (0 : Int) ≤ 1 by decide) (show (1 : Int) ≤ (s.length : Int) by omega), if_true]
      rfl
  refine al (F := N30) ⟨[], ?_⟩ (fun _ => rfl) (fun _ => rfl) rfl rfl h
  simp only [N30, F30, c41, opt2_s, extract_tup, List.getElem?_cons_zero, List.getElem?_cons_succ, opt_s]

theorem rs_len (s : List UInt8) : (rs s).length ≤ s.length := (List.dropWhile_sublist _).length_le
theorem noMinus_len (s : List UInt8) : (noMinus s).length ≤ s.length := by
  unfold noMinus
  split
  · simp
  · exact Nat.le_refl _

theorem ixh (c : UInt8) (r : List UInt8) : fastIndex (ss (c :: r)) (.lit (.int .i64 0)) = some (.lit (.int .u8 c.toNat)) := nr rfl
theorem cut1 (c : UInt8) (r : List UInt8) : fastCut (ss (c :: r)) (some (.lit (.int .i64 1))) none none = some (ss r) := by
  rw [cut_from (by decide) (by simp; omega)]; rfl

theorem c_parse (n : Nat) {s : List UInt8} (hs : s.length ≤ 9223372036854775807) : ∃ r, (∀ h, nc (n + 4) 11 [ss s] h = some (r, h)) ∧ ParseR r (parseF s) := by
  suffices hk : ∃ r, F11 (nc (n + 3)) (ss s) [] = some (r, []) ∧ ParseR r (parseF s) by
    obtain ⟨r, h1, h2⟩ := hk
    exact ⟨r, fun h => al (F := N11) ⟨[], (show N11 (nc (n + 3)) [ss s] [] = some (r, []) from h1)⟩ (fun _ => rfl) h2.snap rfl rfl h, h2⟩
  simp only [F11, S11_16]
  have c30 : ∀ h, nc (n + 3) 30 [ss s, .lit (.string ⟨⟨[45]⟩⟩)] h = some (.tup [ss (noMinus s), .lit (.bool (hasMinus s))], h) := c_cutp n hs
  unfold parseF
  have hs' : (noMinus s).length ≤ 9223372036854775807 := Nat.le_trans (noMinus_len s) hs
  simp only [c30, opt2_s, extract_tup, List.getElem?_cons_zero, List.getElem?_cons_succ, opt_s, S11_15]
  clear c30 hs
  generalize noMinus s = t at *
  generalize hasMinus s = mi
  obtain ⟨m, w, d1, d2, d3, d4⟩ := c_digits (n + 2) hs'
  obtain ⟨u, s1, s2⟩ := c_signed (n + 2) d2 mi
  have d1' : ∀ h, nc (n + 3) 31 [ss t] h = some (.tup [fl w, ss (rs t), .lit (.bool (decide (dl t ≠ [])))], h) := d1
  have s1' : ∀ h, nc (n + 3) 32 [fl w, .lit (.bool mi)] h = some (fl u, h) := s1
  simp only [d1', opt2_s, extract_tup, List.getElem?_cons_zero, List.getElem?_cons_succ, opt_s, S11_14, s1', S11_13, S11_12, not_b, S11_11, test_b]
  have e0 : (.lit (.float .f64 0) : AV) = fl 0 := rfl
  have bX : (sgI mi m).natAbs < 2 ^ 53 := by rw [sgI_abs]; omega
  have cX := capI_of d3 mi
  unfold numV
  by_cases hd : dl t = []
  · simp only [hd, ne_eq, not_true_eq_false, decide_false, Bool.not_false, if_true]
    exact ⟨_, rfl, rfl⟩
  · simp only [hd, ne_eq, not_false_eq_true, decide_true, Bool.not_true, Bool.false_eq_true, if_false, S11_10, fb_eqls, opt_s, S11_9, test_b, decide_eq_true_eq]
    have hrl := rs_len t
    generalize hrt : rs t = R at *
    cases R with
    | nil =>
      simp only [if_true, e0, bi_cx, opt_s]
      exact parse_end n ⟨u, 0, rfl, s2, FW.zero⟩ bX (by decide) cX (CapI.refl 0) []
    | cons c r =>
      rw [if_neg (by simp)]
      simp only [S11_8, fb_eqls, opt_s, S11_7, test_b, decide_eq_true_eq]
      by_cases hi : c :: r = [105]
      · rw [if_pos hi]
        simp only [hi, if_true, e0, bi_cx, opt_s]
        exact parse_end n ⟨0, u, rfl, FW.zero, s2⟩ (by decide) bX (CapI.refl 0) cX []
      · rw [if_neg hi]
        simp only [hi, if_false, S11_6, ixh, opt_s, fb_eql, test_b, decide_eq_true_eq, ceq]
        have hr : r.length ≤ 9223372036854775807 := by
          have : (c :: r).length ≤ t.length := hrl
          rw [List.length_cons] at this; omega
        have go : ∃ x, S11_5 (nc (n + 3)) (ss (c :: r)) (fl u) (.lit (.bool true)) [] = some (x, []) ∧ ParseR x (okO (if dl r ≠ [] ∧ rs r = [105] then some (sgI mi (dn (dl t)), sgI (decide (c.toNat = 45)) (dn (dl r))) else none)) := by
          obtain ⟨m2, w2, f1, f2, f3, f4⟩ := c_digits (n + 2) hr
          obtain ⟨u2, g1, g2⟩ := c_signed (n + 2) f2 (decide (c.toNat = 45))
          have f1' : ∀ h, nc (n + 3) 31 [ss r] h = some (.tup [fl w2, ss (rs r), .lit (.bool (decide (dl r ≠ [])))], h) := f1
          have g1' : ∀ h, nc (n + 3) 32 [fl w2, .lit (.bool (decide (c.toNat = 45)))] h = some (fl u2, h) := g1
          simp only [S11_5, test_b, if_true, S11_4, cut1, opt_s, f1', opt2_s, extract_tup, List.getElem?_cons_zero, List.getElem?_cons_succ, S11_3, not_b]
          by_cases h1 : dl r = []
          · simp only [h1, ne_eq, not_true_eq_false, decide_false, Bool.not_false, if_true, S11_2, test_b, false_and, if_false]
            exact ⟨_, rfl, rfl⟩
          · simp only [h1, ne_eq, not_false_eq_true, decide_true, Bool.not_true, Bool.false_eq_true, if_false, fb_neqs, opt_s, S11_2, test_b, decide_eq_true_eq, true_and]
            by_cases h2 : rs r = [105]
            · simp only [h2, not_true_eq_false, if_false, if_true, S11_1, ixh, opt_s, fb_eql, ceq, g1', opt2_s, bi_cx]
              exact parse_end n ⟨u, u2, rfl, s2, g2⟩ bX (by rw [sgI_abs]; omega) cX (capI_of f3 _) []
            · simp only [h2, not_false_eq_true, if_true, if_false]
              exact ⟨_, rfl, rfl⟩
        by_cases h43 : c.toNat = 43
        · rw [if_pos h43, if_pos (.inl h43)]; exact go
        · rw [if_neg h43]
          by_cases h45 : c.toNat = 45
          · rw [decide_eq_true h45, if_pos (.inr h45)]; rw [decide_eq_true h45] at go; exact go
          · rw [decide_eq_false h45, if_neg (by omega)]
            simp only [S11_5, test_b, Bool.false_eq_true, if_false]
            exact ⟨_, rfl, rfl⟩

end Go.Proofs.YthammkbenflchaaDoor
