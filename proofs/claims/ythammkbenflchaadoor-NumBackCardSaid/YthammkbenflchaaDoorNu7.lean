import Derived.Test.YthammkbenflchaaDoorNu6
import Derived.Lib.ItoaMem
namespace Go.Proofs.YthammkbenflchaaDoor
set_option linter.unusedSimpArgs false
set_option linter.unusedVariables false
open Go.Am Ieee
set_option maxRecDepth 100000

/-! ### Texts of numbers -/

theorem u8dig {d : Nat} (h : d < 10) : (UInt8.ofNat (48 + d)).toNat = 48 + d := by
  rw [UInt8.toNat_ofNat']; omega

theorem dec_dig : ∀ u c, c ∈ Lib.decDigits u → dig c = true := by
  intro u
  induction u using Nat.strongRecOn with
  | ind u ih =>
    intro c hc
    rw [Lib.decDigits] at hc
    split at hc
    · rename_i h
      rw [List.mem_singleton] at hc; subst hc
      rw [dig_true, u8dig h]; omega
    · rename_i h
      rcases List.mem_append.1 hc with hc | hc
      · exact ih (u / 10) (by omega) c hc
      · rw [List.mem_singleton] at hc; subst hc
        rw [dig_true, u8dig (by omega)]; omega

theorem dec_dn : ∀ u, dn (Lib.decDigits u) = u := by
  intro u
  induction u using Nat.strongRecOn with
  | ind u ih =>
    rw [Lib.decDigits]
    split
    · rename_i h
      simp only [dn, List.foldl_cons, List.foldl_nil, u8dig h]; omega
    · rename_i h
      rw [dn_snoc, ih (u / 10) (by omega), u8dig (by omega)]; omega

theorem dec_ne (u : Nat) : Lib.decDigits u ≠ [] := by
  rw [Lib.decDigits]
  split <;> simp

theorem dec_len : ∀ u, (Lib.decDigits u).length ≤ u + 1 := by
  intro u
  induction u using Nat.strongRecOn with
  | ind u ih =>
    rw [Lib.decDigits]
    split
    · simp
    · have := ih (u / 10) (by omega)
      rw [List.length_append, List.length_singleton]; omega

theorem dl_app {l r : List UInt8} (hl : ∀ c ∈ l, dig c = true) (hr : ∀ c, r.head? = some c → dig c = false) : dl (l ++ r) = l ∧ rs (l ++ r) = r := by
  induction l with
  | nil =>
    cases r with
    | nil => exact ⟨rfl, rfl⟩
    | cons c r => simp [dl, rs, List.takeWhile_cons, List.dropWhile_cons, hr c rfl]
  | cons c l ih =>
    obtain ⟨h1, h2⟩ := ih fun x hx => hl x (List.mem_cons_of_mem _ hx)
    have hc := hl c (by simp)
    unfold dl rs at *
    simp [List.takeWhile_cons, List.dropWhile_cons, hc, h1, h2]

theorem dn_zeros (k : Nat) (l : List UInt8) : dn (List.replicate k 48 ++ l) = dn l := by
  induction k with
  | zero => rfl
  | succ k ih => rw [List.replicate_succ, List.cons_append]; exact ih

/-- A text of digits, with a sign ahead and something behind. -/
theorem parse_dig {D r : List UInt8} (hD : ∀ c ∈ D, dig c = true) (hne : D ≠ []) (hr : ∀ c, r.head? = some c → dig c = false) (b : Bool) :
    parseF ((if b = true then [45] else []) ++ (D ++ r)) = okO (match r with
      | [] => some (sgI b (dn D), 0)
      | c :: q => if c :: q = [105] then some (0, sgI b (dn D)) else if c.toNat = 43 ∨ c.toNat = 45 then
          (if dl q ≠ [] ∧ rs q = [105] then some (sgI b (dn D), sgI (decide (c.toNat = 45)) (dn (dl q))) else none) else none) := by
  obtain ⟨h1, h2⟩ := dl_app hD hr
  have hm : hasMinus (D ++ r) = false := by
    cases D with
    | nil => exact absurd rfl hne
    | cons c D =>
      have := dig_true.1 (hD c (by simp))
      simp only [List.cons_append, hasMinus]
      exact decide_eq_false (by omega)
  have e : hasMinus ((if b = true then [45] else []) ++ (D ++ r)) = b ∧ noMinus ((if b = true then [45] else []) ++ (D ++ r)) = D ++ r := by
    unfold noMinus
    cases b
    · simp [hm]
    · exact ⟨rfl, rfl⟩
  unfold parseF numV
  rw [e.1, e.2, h1, h2, if_neg hne]
  cases r <;> rfl

def textF (x y : Int) : List UInt8 := if y = 0 then Lib.itoa x else if x = 0 then Lib.itoa y ++ [105] else if 0 < y then Lib.itoa x ++ [43] ++ (Lib.itoa y ++ [105]) else Lib.itoa x ++ (Lib.itoa y ++ [105])

theorem itoa_eq (x : Int) : Lib.itoa x = (if decide (x < 0) = true then [45] else []) ++ Lib.decDigits x.natAbs := by
  unfold Lib.itoa
  by_cases h : x < 0
  · simp [h]
  · simp only [h, if_false, decide_false, Bool.false_eq_true, List.nil_append]
    congr 1; omega

theorem sgI_nat (x : Int) : sgI (decide (x < 0)) x.natAbs = x := by
  unfold sgI
  by_cases h : x < 0
  · simp [h]; omega
  · simp [h]; omega

theorem parse_text {x y : Int} (hx : okP x) (hy : okP y) : parseF (textF x y) = some (x, y) := by
  have fin : okO (some (x, y)) = some (x, y) := if_pos ⟨hx, hy⟩
  have D := dec_dig
  unfold textF
  by_cases h0 : y = 0
  · subst h0
    have := parse_dig (r := []) (D x.natAbs) (dec_ne _) (fun c h => by cases h) (decide (x < 0))
    rw [if_pos rfl, itoa_eq]
    rw [List.append_nil] at this
    rw [this, dec_dn, sgI_nat, fin]
  rw [if_neg h0]
  by_cases hx0 : x = 0
  · subst hx0
    have := parse_dig (r := [105]) (D y.natAbs) (dec_ne _) (fun c h => by cases h; rfl) (decide (y < 0))
    rw [if_pos rfl, itoa_eq, List.append_assoc, this]
    simp only [if_true]
    rw [dec_dn, sgI_nat, fin]
  rw [if_neg hx0]
  have tail : ∀ u, dl (Lib.decDigits u ++ [105]) = Lib.decDigits u ∧ rs (Lib.decDigits u ++ [105]) = [105] := fun u => dl_app (D u) (fun c h => by cases h; rfl)
  obtain ⟨t1, t2⟩ := tail y.natAbs
  have tne := dec_ne y.natAbs
  by_cases hy0 : 0 < y
  · have := parse_dig (r := 43 :: (Lib.decDigits y.natAbs ++ [105])) (D x.natAbs) (dec_ne _) (fun c h => by cases h; rfl) (decide (x < 0))
    rw [if_pos hy0, itoa_eq x, itoa_eq y, decide_eq_false (show ¬ y < 0 by omega)]
    have e : ((if decide (x < 0) = true then [45] else []) ++ Lib.decDigits x.natAbs ++ [43] ++ ((if false = true then [45] else []) ++ Lib.decDigits y.natAbs ++ [105]) : List UInt8) = (if decide (x < 0) = true then [45] else []) ++ (Lib.decDigits x.natAbs ++ 43 :: (Lib.decDigits y.natAbs ++ [105])) := by simp
    rw [e, this]
    simp only [t1, t2, dec_dn]
    rw [if_neg (by simp), if_pos (.inl (by rfl)), if_pos ⟨tne, trivial⟩, sgI_nat]
    have e2 : sgI (decide ((43 : UInt8).toNat = 45)) y.natAbs = y := by
      rw [decide_eq_false (by decide)]; unfold sgI; simp; omega
    rw [e2, fin]
  · have := parse_dig (r := 45 :: (Lib.decDigits y.natAbs ++ [105])) (D x.natAbs) (dec_ne _) (fun c h => by cases h; rfl) (decide (x < 0))
    rw [if_neg hy0, itoa_eq x, itoa_eq y, decide_eq_true (show y < 0 by omega)]
    have e : ((if decide (x < 0) = true then [45] else []) ++ Lib.decDigits x.natAbs ++ ((if true = true then [45] else []) ++ Lib.decDigits y.natAbs ++ [105]) : List UInt8) = (if decide (x < 0) = true then [45] else []) ++ (Lib.decDigits x.natAbs ++ 45 :: (Lib.decDigits y.natAbs ++ [105])) := by simp
    rw [e, this]
    simp only [t1, t2, dec_dn]
    rw [if_neg (by simp), if_pos (.inr (by rfl)), if_pos ⟨tne, trivial⟩, sgI_nat]
    have e2 : sgI (decide ((45 : UInt8).toNat = 45)) y.natAbs = y := by
      rw [decide_eq_true (by decide)]; unfold sgI; simp; omega
    rw [e2, fin]

theorem itoa_len {x : Int} (h : okP x) : (Lib.itoa x).length ≤ 1048578 := by
  rw [itoa_eq, List.length_append]
  have := dec_len x.natAbs
  have := okP_abs h
  split <;> simp <;> omega

theorem textF_len {x y : Int} (hx : okP x) (hy : okP y) : (textF x y).length ≤ 3000000 := by
  have := itoa_len hx
  have := itoa_len hy
  unfold textF
  split
  · omega
  split
  · rw [List.length_append, List.length_singleton]; omega
  split
  · simp only [List.length_append, List.length_singleton]; omega
  · simp only [List.length_append, List.length_singleton]; omega

theorem c_text (n : Nat) {v : AV} {x y : Int} (hv : CW v x y) (h : Heap) : nc (n + 4) 15 [v] h = some (ss (if okP x ∧ okP y then textF x y else []), h) := by
  have r := fun h => c_right n hv h
  obtain ⟨a, b, rfl, ha, hb⟩ := hv
  refine al (F := N15) ⟨[], ?_⟩ (fun _ => rfl) (fun _ => rfl) rfl rfl h
  simp only [N15, F15, r, opt2_s, not_b, opt_s, test_b]
  by_cases ho : okP x ∧ okP y
  · obtain ⟨hx, hy⟩ := ho
    have lx := itoa_len hx
    have ly := itoa_len hy
    have ax := okP_abs hx
    have ay := okP_abs hy
    have i1 : ∀ h, nc (n + 3) 36 [ii x] h = some (ss (Lib.itoa x), h) := fun h => c_itoa (n + 2) x (by omega) (by omega) h
    have i2 : ∀ h, nc (n + 3) 36 [ii y] h = some (ss (Lib.itoa y), h) := fun h => c_itoa (n + 2) y (by omega) (by omega) h
    have e0 : (.lit (.float .f64 0) : AV) = fl 0 := rfl
    have add : ∀ p q : List UInt8, p.length + q.length < 1152921504606846976 → fastBin .add (ss p) (ss q) = some (ss (p ++ q)) := fun p q h => fb_adds h
    rw [if_pos (show okP x ∧ okP y from ⟨hx, hy⟩)]
    simp only [hx, hy, and_self, decide_true, Bool.not_true, Bool.false_eq_true, if_false, bi_real, opt_s, (f2i_fw ha _).1, i1, opt2_s, bi_imag, (f2i_fw hb _).1, i2]
    rw [add _ _ (by simp only [List.length_singleton]; omega), opt_s]
    simp only [e0, fw_eql 40 hb FW.zero, fw_eql 40 ha FW.zero, fw_gtr 40 hb FW.zero, opt_s, test_b, decide_eq_true_eq]
    unfold textF
    by_cases h0 : y = 0
    · rw [if_pos h0, if_pos h0]
    rw [if_neg h0, if_neg h0]
    by_cases h1 : x = 0
    · rw [if_pos h1, if_pos h1]
    rw [if_neg h1, if_neg h1]
    by_cases h2 : 0 < y
    · rw [if_pos h2, if_pos h2, add _ _ (by simp only [List.length_singleton]; omega), opt_s, add _ _ (by simp only [List.length_append, List.length_singleton]; omega), opt_s]
    · rw [if_neg h2, if_neg h2, add _ _ (by simp only [List.length_append, List.length_singleton]; omega), opt_s]
  · rw [if_neg ho]
    simp only [ho, decide_false, Bool.not_false, if_true]

/-! ### near, NumBack -/

theorem c_near (n : Nat) (a b : Int) : ∃ v x y, (∀ h, nc (n + 2) 14 [ii a, ii b] h = some (v, h)) ∧ CW v x y ∧ (-1048578 ≤ x ∧ x ≤ 1048578) ∧ (-1048578 ≤ y ∧ y ≤ 1048578) := by
  have W : ∀ (z : Int) h, nc (n + 1) 17 [ii z, ii 0, ii 2097156] h = some (ii (z % (2097156 + 1)), h) := fun z h => c_within n (by decide) (by decide) h
  have B : ∀ z : Int, 0 ≤ z % (2097156 + 1) ∧ z % (2097156 + 1) < 2097156 + 1 := fun z => ⟨Int.emod_nonneg z (by decide), Int.emod_lt_of_pos z (by decide)⟩
  obtain ⟨a1, a2⟩ := B a
  obtain ⟨b1, b2⟩ := B b
  obtain ⟨v, v1, v2⟩ := c_of n (x := a % (2097156 + 1) - 1048576 - 2) (y := b % (2097156 + 1) - 1048576 - 2) (by omega) (by omega)
  refine ⟨v, _, _, fun h => al (F := N14) ⟨[], ?_⟩ (fun _ => rfl) (fun h => ?_) rfl rfl h, v1, by omega, by omega⟩
  · simp only [N14, F14, W, opt2_s, fb_sub, opt_s]
    generalize a % (2097156 + 1) = p at *
    generalize b % (2097156 + 1) = q at *
    rw [wrap64 (n := p - 1048576) (by omega) (by omega), wrap64 (n := p - 1048576 - 2) (by omega) (by omega), wrap64 (n := q - 1048576) (by omega) (by omega), wrap64 (n := q - 1048576 - 2) (by omega) (by omega)]
    rw [v2, opt2_s]
  · obtain ⟨a, b, rfl, _, _⟩ := v1; rfl

theorem back_ok (n : Nat) (a b : Int) : ∃ h', F4 (nc (n + 4)) (ii a) (ii b) [] = some (.lit (.bool true), h') := by
  obtain ⟨v, x, y, v1, v2, hx, hy⟩ := c_near (n + 2) a b
  have v1' : ∀ h, nc (n + 4) 14 [ii a, ii b] h = some (v, h) := v1
  have t := fun h => c_text n v2 h
  have kn : ∀ h, nc (n + 4) 13 [] h = some (.lit (.bool true), h) := c_known (n + 3)
  have rt : ∀ h, nc (n + 4) 16 [v] h = some (.lit (.bool (decide (okP x ∧ okP y))), h) := fun h => c_right (n + 1) v2 h
  simp only [F4, v1', opt2_s, t]
  by_cases ho : okP x ∧ okP y
  · rw [if_pos ho]
    have hl := textF_len ho.1 ho.2
    obtain ⟨r, p1, p2⟩ := c_parse n (s := textF x y) (by omega)
    rw [parse_text ho.1 ho.2] at p2
    obtain ⟨w, rfl, hw⟩ := p2
    simp only [p1, opt2_s, extract_tup, List.getElem?_cons_zero, List.getElem?_cons_succ, opt_s, rt, ho, and_self, decide_true, bx_eqlb, beq_self_eq_true, test_b, if_true, not_b, Bool.not_true, Bool.false_eq_true, if_false, cw_eql 22 v2 hw, kn]
    exact ⟨_, rfl⟩
  · rw [if_neg ho]
    obtain ⟨r, p1, p2⟩ := c_parse n (s := []) (by decide)
    have e : parseF [] = none := rfl
    rw [e] at p2
    cases p2
    simp only [p1, opt2_s, extract_tup, List.getElem?_cons_zero, List.getElem?_cons_succ, opt_s, rt, ho, decide_false, bx_eqlb, beq_self_eq_true, test_b, if_true, not_b, Bool.not_false, kn]
    exact ⟨_, rfl⟩

/-! ### NumParts -/

theorem parts_end (n : Nat) {z : Int} (hz : 0 ≤ z ∧ z ≤ 2097152) (sec mi : Bool) {D : List UInt8} (hD : ∀ c ∈ D, dig c = true) (hne : D ≠ []) (hl : D.length ≤ 4000000) (hV : (z ≤ 1048576 → (dn D : Int) = z) ∧ (1048576 < z → 1048576 < dn D)) :
    ∃ h', S6_7 (nc (n + 4)) (ii z) (.lit (.bool sec)) (.lit (.bool mi)) (ss D) [] = some (.lit (.bool true), h') := by
  have kn : ∀ h, nc (n + 4) 13 [] h = some (.lit (.bool true), h) := c_known (n + 3)
  have add : ∀ p q : List UInt8, p.length + q.length < 1152921504606846976 → fastBin .add (ss p) (ss q) = some (ss (p ++ q)) := fun p q h => fb_adds h
  have key : ∀ T : List UInt8, T = (if mi = true then [45] else []) ++ (D ++ (if sec = true then [105] else [])) → ∃ h', S6_5 (nc (n + 4)) (ii z) (.lit (.bool sec)) (.lit (.bool mi)) (ss T) [] = some (.lit (.bool true), h') := by
    intro T hT
    have hlen : T.length ≤ 9223372036854775807 := by
      rw [hT]; simp only [List.length_append]
      have h1 : (if mi = true then [45] else [] : List UInt8).length ≤ 1 := by split <;> simp
      have h2 : (if sec = true then [105] else [] : List UInt8).length ≤ 1 := by split <;> simp
      omega
    obtain ⟨r, p1, p2⟩ := c_parse n hlen
    have hp : parseF T = okO (some (if sec = true then ((0 : Int), sgI mi (dn D)) else (sgI mi (dn D), (0 : Int)))) := by
      rw [hT]
      cases sec with
      | true => rw [parse_dig hD hne (r := if true = true then [105] else []) (fun c h => by cases h; rfl) mi]; rfl
      | false => rw [parse_dig hD hne (r := if false = true then [105] else []) (fun c h => by cases h) mi]; rfl
    rw [hp] at p2
    clear hT hp
    simp only [S6_5, p1, opt2_s]
    by_cases hz1 : z ≤ 1048576
    · have hd := hV.1 hz1
      have hdn : dn D = z.toNat := by omega
      have okm : okP (sgI mi (dn D)) := by rw [hdn]; unfold okP sgI; split <;> omega
      have ok0 : okP 0 := by decide
      have p3 : okO (some (if sec = true then ((0 : Int), sgI mi (dn D)) else (sgI mi (dn D), (0 : Int)))) = some (if sec = true then ((0 : Int), sgI mi (dn D)) else (sgI mi (dn D), (0 : Int))) := by
        cases sec
        · exact if_pos ⟨okm, ok0⟩
        · exact if_pos ⟨ok0, okm⟩
      rw [p3] at p2
      -- the number that is wanted
      have hs : sgI mi (dn D) = if mi = true then -z else z := by rw [hdn]; unfold sgI; cases mi <;> simp <;> omega
      rw [hs] at p2
      have last : ∀ (Z : Int), Z.natAbs < 2 ^ 53 → (∃ v, r = .tup [v, .lit (.bool true)] ∧ (if sec = true then CW v 0 Z else CW v Z 0)) → ∃ v, r = .tup [v, .lit (.bool true)] ∧ ∃ h', S6_2 (nc (n + 4)) (ii Z) (.lit (.bool sec)) v (.lit (.bool true)) [] = some (.lit (.bool true), h') := by
        intro Z hZ ⟨v, hr, hv⟩
        refine ⟨v, hr, ?_⟩
        obtain ⟨w1, w1v, w1c⟩ := c_of (n + 3) (x := Z) (y := 0) hZ (by decide)
        obtain ⟨w2, w2v, w2c⟩ := c_of (n + 3) (x := 0) (y := Z) (by decide) hZ
        have w1c' : ∀ h, nc (n + 4) 19 [ii Z, ii 0] h = some (w1, h) := w1c
        have w2c' : ∀ h, nc (n + 4) 19 [ii 0, ii Z] h = some (w2, h) := w2c
        cases sec with
        | true =>
          simp only [if_true] at hv
          simp only [S6_2, w1c', opt2_s, S6_1, test_b, if_true, w2c', S6_0, cw_eql 22 hv w2v, and_self, decide_true, opt_s, kn]
          exact ⟨_, rfl⟩
        | false =>
          simp only [Bool.false_eq_true, if_false] at hv
          simp only [S6_2, w1c', opt2_s, S6_1, test_b, Bool.false_eq_true, if_false, S6_0, cw_eql 22 hv w1v, and_self, decide_true, if_true, opt_s, kn]
          exact ⟨_, rfl⟩
      have pr : ∃ v, r = .tup [v, .lit (.bool true)] ∧ (if sec = true then CW v 0 (if mi = true then -z else z) else CW v (if mi = true then -z else z) 0) := by
        cases sec with
        | true => obtain ⟨v, h1, h2⟩ := p2; exact ⟨v, h1, h2⟩
        | false => obtain ⟨v, h1, h2⟩ := p2; exact ⟨v, h1, h2⟩
      obtain ⟨v, rfl, h', hv⟩ := last _ (by split <;> omega) pr
      simp only [extract_tup, List.getElem?_cons_zero, List.getElem?_cons_succ, opt_s, S6_4, fb_gtr, test_b, decide_eq_true_eq]
      rw [if_neg (by omega)]
      simp only [S6_3, test_b]
      cases mi with
      | true =>
        simp only [if_true, neg_i (a := z) ⟨by omega, by omega⟩, opt_s] at hv ⊢
        exact ⟨h', hv⟩
      | false =>
        simp only [Bool.false_eq_true, if_false] at hv ⊢
        exact ⟨h', hv⟩
    · have hd := hV.2 (by omega)
      have nok : ¬ okP (sgI mi (dn D)) := by unfold okP sgI; split <;> omega
      have p3 : okO (some (if sec = true then ((0 : Int), sgI mi (dn D)) else (sgI mi (dn D), (0 : Int)))) = none := by
        cases sec
        · exact if_neg fun h => nok h.1
        · exact if_neg fun h => nok h.2
      rw [p3] at p2
      cases p2
      simp only [extract_tup, List.getElem?_cons_zero, List.getElem?_cons_succ, opt_s, S6_4, fb_gtr, test_b, decide_eq_true_eq]
      rw [if_pos (by omega)]
      simp only [not_b, opt_s, test_b, Bool.not_false, if_true, cw_eql 22 CW.zero CW.zero, and_self, decide_true, kn, opt2_s]
      exact ⟨_, rfl⟩
  have key6 : ∀ R : List UInt8, R = D ++ (if sec = true then [105] else []) → ∃ h', S6_6 (nc (n + 4)) (ii z) (.lit (.bool sec)) (.lit (.bool mi)) (ss R) [] = some (.lit (.bool true), h') := by
    intro R hR
    have hRl : R.length ≤ 4000001 := by
      rw [hR, List.length_append]
      have h2 : (if sec = true then [105] else [] : List UInt8).length ≤ 1 := by split <;> simp
      omega
    simp only [S6_6, test_b]
    cases mi with
    | true =>
      simp only [if_true]
      rw [add _ _ (by simp only [List.length_singleton]; omega), opt_s]
      exact key _ (by rw [hR]; rfl)
    | false =>
      simp only [Bool.false_eq_true, if_false]
      exact key _ (by rw [hR]; rfl)
  simp only [S6_7, test_b]
  cases sec with
  | true =>
    simp only [if_true]
    rw [add _ _ (by simp only [List.length_singleton]; omega), opt_s]
    exact key6 _ rfl
  | false =>
    simp only [Bool.false_eq_true, if_false]
    exact key6 _ (by simp)

theorem parts_loop (n : Nat) {z : Int} (hz : 0 ≤ z ∧ z ≤ 2097152) (sec mi : Bool) {D : List UInt8} (hD : ∀ c ∈ D, dig c = true) (hne : D ≠ []) (hl : D.length ≤ 3900000) (hV : (z ≤ 1048576 → (dn D : Int) = z) ∧ (1048576 < z → 1048576 < dn D)) :
    ∀ (k j i : Nat), j < k → i + j ≤ 100 → ∃ h', S6_9l (nc (n + 4)) k (ii z) (.lit (.bool sec)) (.lit (.bool mi)) (ss D) (ss (List.replicate i 48)) (ii (j : Int)) [] = some (.lit (.bool true), h') := by
  have add : ∀ p q : List UInt8, p.length + q.length < 1152921504606846976 → fastBin .add (ss p) (ss q) = some (ss (p ++ q)) := fun p q h => fb_adds h
  intro k
  induction k with
  | zero => intro j i h; omega
  | succ k ih =>
    intro j i hj hb
    show ∃ h', S6_10b (nc (n + 4)) (S6_9l (nc (n + 4)) k) _ _ _ _ _ _ [] = _
    simp only [S6_10b, fb_gtr, opt_s, test_b, decide_eq_true_eq]
    cases j with
    | zero =>
      rw [if_neg (by omega)]
      simp only [S6_8]
      rw [add _ _ (by rw [List.length_replicate]; omega), opt_s]
      refine parts_end n hz sec mi ?_ ?_ ?_ ?_
      · intro c hc
        rcases List.mem_append.1 hc with hc | hc
        · rw [(List.mem_replicate.1 hc).2]; rfl
        · exact hD c hc
      · intro e; exact hne (List.append_eq_nil_iff.1 e).2
      · rw [List.length_append, List.length_replicate]; omega
      · rw [dn_zeros]; exact hV
    | succ j =>
      rw [if_pos (by omega)]
      rw [add _ _ (by rw [List.length_replicate]; simp only [List.length_singleton]; omega), opt_s, fb_sub, opt_s, wrap64 (by omega) (by omega)]
      have e : ((j + 1 : Nat) : Int) - 1 = (j : Int) := by omega
      have e2 : (List.replicate i 48 ++ [48] : List UInt8) = List.replicate (i + 1) 48 := by rw [List.replicate_succ']
      rw [e, e2]
      exact ih j (i + 1) (by omega) (by omega)

theorem parts_ok (n : Nat) (a b : Int) (sec mi : Bool) : ∃ h', F6 (nc (n + 4)) (ii a) (ii b) (.lit (.bool sec)) (.lit (.bool mi)) [] = some (.lit (.bool true), h') := by
  have add : ∀ p q : List UInt8, p.length + q.length < 1152921504606846976 → fastBin .add (ss p) (ss q) = some (ss (p ++ q)) := fun p q h => fb_adds h
  have W1 : ∀ h, nc (n + 4) 17 [ii a, ii 0, ii 2097152] h = some (ii (a % (2097152 + 1)), h) := fun h => c_within (n + 3) (by decide) (by decide) h
  have W2 : ∀ h, nc (n + 4) 17 [ii b, ii 0, ii 30] h = some (ii (b % (30 + 1)), h) := fun h => c_within (n + 3) (by decide) (by decide) h
  have a1 := Int.emod_nonneg a (show (2097152 + 1 : Int) ≠ 0 by decide)
  have a2 := Int.emod_lt_of_pos a (show (0 : Int) < 2097152 + 1 by decide)
  have b1 := Int.emod_nonneg b (show (30 + 1 : Int) ≠ 0 by decide)
  have b2 := Int.emod_lt_of_pos b (show (0 : Int) < 30 + 1 by decide)
  simp only [F6, S6_16, W1, opt2_s]
  generalize a % (2097152 + 1) = z at *
  obtain ⟨v, v1, v2⟩ := c_of (n + 3) (x := z) (y := 0) (by omega) (by decide)
  have v2' : ∀ h, nc (n + 4) 19 [ii z, ii 0] h = some (v, h) := v2
  have t := fun h => c_text n v1 h
  have go : ∀ D : List UInt8, (∀ c ∈ D, dig c = true) → D ≠ [] → D.length ≤ 3900000 → ((z ≤ 1048576 → (dn D : Int) = z) ∧ (1048576 < z → 1048576 < dn D)) → ∃ h', S6_13 (nc (n + 4)) (ii z) (ii b) (.lit (.bool sec)) (.lit (.bool mi)) (ss D) [] = some (.lit (.bool true), h') := by
    intro D h1 h2 h3 h4
    simp only [S6_13, S6_12, W2, opt2_s, S6_11]
    have e : b % (30 + 1) = (((b % (30 + 1)).toNat : Nat) : Int) := by omega
    rw [e]
    obtain ⟨h', hh⟩ := parts_loop n (z := z) ⟨by omega, by omega⟩ sec mi h1 h2 h3 h4 rounds (b % (30 + 1)).toNat 0 (by simp only [rounds]; omega) (by omega)
    exact ⟨h', hh⟩
  have ok0 : okP 0 := by decide
  simp only [S6_15, v2', opt2_s, t, S6_14, fb_gtr, opt_s, test_b, decide_eq_true_eq]
  by_cases hz : 1048576 < z
  · rw [if_pos hz]
    obtain ⟨w, w1, w2⟩ := c_of (n + 3) (x := 1048576) (y := 0) (by decide) (by decide)
    have w2' : ∀ h, nc (n + 4) 19 [ii 1048576, ii 0] h = some (w, h) := w2
    have tw := fun h => c_text n w1 h
    have okm : okP 1048576 := by decide
    simp only [w2', opt2_s, tw]
    rw [if_pos ⟨okm, ok0⟩]
    have e : textF 1048576 0 = Lib.decDigits 1048576 := by
      unfold textF; rw [if_pos rfl, itoa_eq]; rfl
    have hl := dec_len 1048576
    rw [e, add _ _ (by simp only [List.length_singleton]; omega), opt_s]
    refine go _ ?_ (by simp) (by rw [List.length_append, List.length_singleton]; omega) ⟨fun h => by omega, fun _ => ?_⟩
    · intro c hc
      rcases List.mem_append.1 hc with hc | hc
      · exact dec_dig _ c hc
      · rw [List.mem_singleton] at hc; subst hc; rfl
    · rw [dn_snoc, dec_dn]; decide
  · rw [if_neg hz]
    have okz : okP z := by unfold okP; omega
    rw [if_pos ⟨okz, ok0⟩]
    have e : textF z 0 = Lib.decDigits z.natAbs := by
      unfold textF; rw [if_pos rfl, itoa_eq, decide_eq_false (by omega)]; rfl
    have hl := dec_len z.natAbs
    rw [e]
    exact go _ (dec_dig _) (dec_ne _) (by omega) ⟨fun _ => by rw [dec_dn]; omega, fun h => by omega⟩

end Go.Proofs.YthammkbenflchaaDoor
