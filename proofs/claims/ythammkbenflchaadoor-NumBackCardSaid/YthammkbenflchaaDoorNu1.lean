import Derived.Test.YthammkbenflchaaDoorFl3
import Derived.Test.YthammkbenflchaaDoorShelf
namespace Go.Proofs.YthammkbenflchaaDoor
set_option linter.unusedSimpArgs false
set_option linter.unusedVariables false
open Go.Am Ieee
set_option maxRecDepth 100000

/-! ### chapter 2's runs, by the machine itself -/

theorem gPow : Tryd.prog.globalNamed "internal/strconv.uint64pow10" = some 1 := by kernel_rfl

theorem itoa_prim : PrimOk Tryd.prog gl 36 itoaPrim := itoa_ok gl_get gPow fun n h0 h1 w ht => Tryd.strconv_Itoa n h0 h1 w ht

noncomputable def kenv : Env where
  P := Tryd.prog
  prim := fun f => bif Nat.beq f 36 then some itoaPrim else none
  how := fun _ => .alone
  reg := regA Tryd.prog
  gl := gl

theorem kenv_ok : EnvOk kenv where
  names := namesOk
  reg := fun _ h => regA_ok namesOk mixedOrders h
  prim := fun f p h => by
    simp only [kenv] at h
    cases hb : Nat.beq f 36 with
    | false => rw [hb] at h; cases h
    | true =>
      rw [hb] at h
      cases h
      have := Nat.eq_of_beq_eq_true hb
      subst this
      exact itoa_prim
  low := lowOk

def knownP : List AV → Option AV := tableP [([], .lit (.bool true))]

set_option maxRecDepth 100000 in
theorem known_ran : isR (acall kenv 100 13 [] []) (.lit (.bool true)) = true := by kernel_rfl

theorem known_prim : PrimOk Tryd.prog gl 13 knownP := table_ok kenv_ok (n := 100) (f := 13) fun x hx => by
  rcases List.mem_singleton.1 hx with rfl
  exact isR_spec known_ran

/-! ### the table of functions -/

noncomputable def numEnv : SEnv where
  P := Tryd.prog
  prim := tabP [(13, knownP), (36, itoaPrim)]
  fns := tabF [(3, .alone, N3), (4, .alone, N4), (5, .alone, N5), (6, .alone, N6), (7, .alone, N7), (9, .alone, N9), (10, .alone, N10), (11, .alone, N11), (12, .alone, N12), (14, .alone, N14), (15, .alone, N15), (16, .alone, N16), (17, .alone, N17), (18, .alone, N18), (19, .alone, N19),
    (20, .alone, N20), (21, .alone, N21), (22, .alone, N22), (23, .alone, N23), (24, .alone, N24), (25, .alone, N25), (26, .alone, N26), (27, .alone, N27), (28, .alone, N28), (29, .alone, N29), (30, .alone, N30), (31, .alone, N31), (32, .alone, N32), (33, .alone, N33), (34, .alone, N34), (35, .alone, N35),
    (37, .alone, N37), (38, .alone, N38), (39, .alone, N39), (40, .alone, N40), (41, .alone, N41), (43, .alone, N43), (44, .alone, N44), (45, .alone, N45), (46, .alone, N46)]
  gl := gl

theorem numEnv_ok : SEnvOk numEnv where
  prim := tabP_ok ⟨known_prim, itoa_prim, trivial⟩
  fns := tabF_ok ⟨N3_ok, N4_ok, N5_ok, N6_ok, N7_ok, N9_ok, N10_ok, N11_ok, N12_ok, N14_ok, N15_ok, N16_ok, N17_ok, N18_ok, N19_ok, N20_ok, N21_ok, N22_ok, N23_ok, N24_ok, N25_ok, N26_ok, N27_ok, N28_ok, N29_ok, N30_ok, N31_ok, N32_ok, N33_ok, N34_ok, N35_ok, N37_ok, N38_ok, N39_ok, N40_ok, N41_ok, N43_ok, N44_ok, N45_ok, N46_ok, trivial⟩

noncomputable def nc (n : Nat) : CallF := scall numEnv n

/-- A call of a function whose arguments and answer bear no address. -/
theorem al {n : Nat} {f : FuncId} {F : FnF} {args : List AV} {r : AV} (hc : ∃ hc, F (nc n) args [] = some (r, hc)) (hs : ∀ h, snaps h args = some (args, [])) (hr : ∀ h, snapR h r = some (r, []))
    (hf : numEnv.fns f = some (.alone, F)) (hp : numEnv.prim f = none) (h : Heap) : nc (n + 1) f args h = some (r, h) := by
  obtain ⟨h', hb⟩ := hc
  exact alone_call hp hf (hs h) hb ⟨[], hr h'⟩

theorem c_known (n : Nat) (h : Heap) : nc (n + 1) 13 [] h = some (.lit (.bool true), h) := prim_call (p := knownP) rfl rfl rfl

theorem c_itoa (n : Nat) (z : Int) (h0 : -9223372036854775808 ≤ z) (h1 : z ≤ 9223372036854775807) (h : Heap) : nc (n + 1) 36 [.lit (.int .i64 z)] h = some (.lit (.string ⟨⟨Lib.itoa z⟩⟩), h) :=
  prim_call (p := itoaPrim) rfl rfl (if_pos ⟨h0, h1⟩)

/-! ### Right and plain -/

def okP (x : Int) : Prop := -1048576 ≤ x ∧ x ≤ 1048576
instance (x : Int) : Decidable (okP x) := by unfold okP; infer_instance

theorem c_trunc (n : Nat) {a : Nat} {x : Int} (ha : FW a x) : ∃ w, FW w x ∧ ∀ h, nc (n + 1) 43 [fl a] h = some (fl w, h) := by
  obtain ⟨w, h1, h2⟩ := trunc_fw ha
  exact ⟨w, h2, fun h => al (F := N43) ⟨[], by simp only [N43, F43, h1, opt_s]⟩ (fun _ => rfl) (fun _ => rfl) rfl rfl h⟩

theorem c_abs (n : Nat) {a : Nat} {x : Int} (ha : FW a x) : ∃ w, FW w (x.natAbs : Int) ∧ ∀ h, nc (n + 1) 44 [fl a] h = some (fl w, h) := by
  refine ⟨a % 2 ^ 63, FW.abs ha, fun h => al (F := N44) ⟨[], ?_⟩ (fun _ => rfl) (fun _ => rfl) rfl rfl h⟩
  simp only [N44, F44, lit_bits, opt_s, ab_slow (FW.lt ha), lit_from, Int.toNat_natCast]

theorem c_part (n : Nat) {a : Nat} {x : Int} (ha : FW a x) (h : Heap) : nc (n + 2) 37 [fl a] h = some (.lit (.bool (decide (okP x))), h) := by
  obtain ⟨w, w1, w2⟩ := c_trunc n ha
  obtain ⟨u, u1, u2⟩ := c_abs n ha
  refine al (F := N37) ⟨[], ?_⟩ (fun _ => rfl) (fun _ => rfl) rfl rfl h
  have e : (.lit (.float .f64 4697254411347427328) : AV) = fl 4697254411347427328 := rfl
  simp only [N37, F37, w2, opt2_s, fw_eql 40 ha w1, opt_s, test_b, decide_true, if_true, u2, e, fw_leq 40 u1 fw_max]
  congr 4
  unfold okP
  exact decide_eq_decide.2 (by omega)

theorem c_right (n : Nat) {v : AV} {x y : Int} (hv : CW v x y) (h : Heap) : nc (n + 3) 16 [v] h = some (.lit (.bool (decide (okP x ∧ okP y))), h) := by
  obtain ⟨a, b, rfl, ha, hb⟩ := hv
  refine al (F := N16) ⟨[], ?_⟩ (fun _ => rfl) (fun _ => rfl) rfl rfl h
  simp only [N16, F16, bi_real, opt_s, c_part n ha, opt2_s, test_b, decide_eq_true_eq]
  by_cases hx : okP x
  · rw [if_pos hx]
    simp only [bi_imag, opt_s, c_part n hb, opt2_s, hx, true_and]
  · rw [if_neg hx]
    simp only [hx, false_and, decide_false]

theorem fw_plain {a : Nat} {x : Int} (ha : FW a x) (hx : x.natAbs < 2 ^ 53) : ∃ w, double.add a 0 = some w ∧ FW w x := by
  obtain ⟨w, h1, h2⟩ := ha.add FW.zero (by simpa using hx)
  exact ⟨w, h1, by simpa using h2⟩

theorem c_plain (n : Nat) {v : AV} {x y : Int} (hv : CW v x y) (hx : x.natAbs < 2 ^ 53) (hy : y.natAbs < 2 ^ 53) : ∃ w, CW w x y ∧ ∀ h, nc (n + 1) 33 [v] h = some (w, h) := by
  obtain ⟨a, b, rfl, ha, hb⟩ := hv
  obtain ⟨u, u1, u2⟩ := fw_plain ha hx
  obtain ⟨w, w1, w2⟩ := fw_plain hb hy
  refine ⟨cx u w, ⟨u, w, rfl, u2, w2⟩, fun h => al (F := N33) ⟨[], ?_⟩ (fun _ => rfl) (fun _ => rfl) rfl rfl h⟩
  have e : (.lit (.float .f64 0) : AV) = fl 0 := rfl
  simp only [N33, F33, bi_real, opt_s, e, fx_add u1, bi_imag, fx_add w1, bi_cx]

/-! ### num.Two, num.One -/

theorem okP_abs {x : Int} (h : okP x) : x.natAbs ≤ 1048576 := by unfold okP at h; omega

/-- What an operation gives: a number, or why not. -/
structure Got (r : AV) (x y : Int) (e : Nat) : Prop where
  val : ∃ v, r = .tup [v, .lit (.int .i64 e)] ∧ CW v x y

theorem got_tup {v : AV} {x y : Int} {e : Nat} (h : CW v x y) : Got (.tup [v, .lit (.int .i64 e)]) x y e := ⟨v, rfl, h⟩

theorem snap_got {r : AV} {x y : Int} {e : Nat} (g : Got r x y e) (h : Heap) : snapR h r = some (r, []) := by
  obtain ⟨v, rfl, a, b, rfl, _, _⟩ := g.val; rfl

def twoX (op : Nat) (x y z u : Int) : Int := if op = 0 then x + z else if op = 1 then x - z else x * z - y * u
def twoY (op : Nat) (x y z u : Int) : Int := if op = 0 then y + u else if op = 1 then y - u else x * u + y * z

def opS (op : Nat) : List UInt8 := if op = 0 then [97, 100, 100] else if op = 1 then [115, 117, 98] else [109, 117, 108]

theorem mul_ok {x y : Int} (hx : okP x) (hy : okP y) : (x * y).natAbs ≤ 1099511627776 := by
  have := okP_abs hx
  have := okP_abs hy
  rw [Int.natAbs_mul]
  calc x.natAbs * y.natAbs ≤ 1048576 * 1048576 := Nat.mul_le_mul (by assumption) (by assumption)
    _ = _ := by decide

theorem two_end (n : Nat) {v : AV} {x y : Int} (hv : CW v x y) (hx : x.natAbs < 2 ^ 53) (hy : y.natAbs < 2 ^ 53) (h : Heap) :
    ∃ r, S18_0 (nc (n + 3)) v h = some (r, h) ∧ (okP x ∧ okP y → Got r x y 0) ∧ (¬ (okP x ∧ okP y) → Got r 0 0 44) := by
  simp only [S18_0, c_right n hv, opt2_s, not_b, opt_s, test_b]
  by_cases ho : okP x ∧ okP y
  · obtain ⟨w, w1, w2⟩ := c_plain (n + 2) hv hx hy
    simp only [ho, and_self, decide_true, Bool.not_true, Bool.false_eq_true, if_false, w2, opt2_s]
    exact ⟨_, rfl, fun _ => got_tup w1, fun h => absurd trivial h⟩
  · simp only [ho, decide_false, Bool.not_false, if_true]
    exact ⟨_, rfl, fun h => absurd h (by simp), fun _ => got_tup CW.zero⟩

theorem c_two (n : Nat) {op : Nat} (hop : op ≤ 2) {v w : AV} {x y z u : Int} (hv : CW v x y) (hw : CW w z u) (hx : okP x) (hy : okP y) (hz : okP z) (hu : okP u) :
    ∃ r, (∀ h, nc (n + 4) 18 [.lit (.string ⟨⟨opS op⟩⟩), v, w] h = some (r, h)) ∧ (okP (twoX op x y z u) ∧ okP (twoY op x y z u) → Got r (twoX op x y z u) (twoY op x y z u) 0) ∧ (¬ (okP (twoX op x y z u) ∧ okP (twoY op x y z u)) → Got r 0 0 44) := by
  have r1 := fun h => c_right n hv h
  have r2 := fun h => c_right n hw h
  have ax := okP_abs hx
  have ay := okP_abs hy
  have az := okP_abs hz
  have au := okP_abs hu
  have m1 := mul_ok hx hz
  have m2 := mul_ok hy hu
  have m3 := mul_ok hx hu
  have m4 := mul_ok hy hz
  obtain ⟨a, b, rfl, ha, hb⟩ := hv
  obtain ⟨c, d, rfl, hc, hd⟩ := hw
  have key : ∀ {q : AV} {X Y : Int}, CW q X Y → X.natAbs < 2 ^ 53 → Y.natAbs < 2 ^ 53 → (∀ h, S18_2 (nc (n + 3)) (.lit (.string ⟨⟨opS op⟩⟩)) (cx a b) (cx c d) h = S18_0 (nc (n + 3)) q h) →
      ∃ r, (∀ h, nc (n + 4) 18 [.lit (.string ⟨⟨opS op⟩⟩), cx a b, cx c d] h = some (r, h)) ∧ (okP X ∧ okP Y → Got r X Y 0) ∧ (¬ (okP X ∧ okP Y) → Got r 0 0 44) := by
    intro q X Y hq hX hY hS
    obtain ⟨r, e1, e2, e3⟩ := two_end n hq hX hY []
    have hg : ∃ X' Y' e, Got r X' Y' e := by
      by_cases ho : okP X ∧ okP Y
      · exact ⟨_, _, _, e2 ho⟩
      · exact ⟨_, _, _, e3 ho⟩
    obtain ⟨_, _, _, hg⟩ := hg
    refine ⟨r, fun h => al (F := N18) ⟨[], ?_⟩ (fun _ => rfl) (snap_got hg) rfl rfl h, e2, e3⟩
    simp only [N18, F18, S18_4, r1, r2, opt2_s, not_b, opt_s, test_b, hx, hy, hz, hu, and_self, decide_true, Bool.not_true, Bool.false_eq_true, if_false, S18_3, hS]
    exact e1
  rcases (by omega : op = 0 ∨ op = 1 ∨ op = 2) with rfl | rfl | rfl
  · obtain ⟨u1, u2, u3⟩ := ha.add hc (by omega)
    obtain ⟨v1, v2, v3⟩ := hb.add hd (by omega)
    refine key (X := x + z) (Y := y + u) ⟨u1, v1, rfl, u3, v3⟩ (by omega) (by omega) fun h => ?_
    simp only [S18_2, S18_1, opS, if_true, fb_eqls, opt_s, test_b, decide_true, cx_add u2 v2]
  · obtain ⟨u1, u2, u3⟩ := ha.sub hc (by omega)
    obtain ⟨v1, v2, v3⟩ := hb.sub hd (by omega)
    refine key (X := x - z) (Y := y - u) ⟨u1, v1, rfl, u3, v3⟩ (by omega) (by omega) fun h => ?_
    simp only [S18_2, S18_1, opS, fb_eqls, opt_s, test_b, cx_sub u2 v2]
    rfl
  · obtain ⟨p1, p2, p3⟩ := ha.mul hc (by omega)
    obtain ⟨q1, q2, q3⟩ := hb.mul hd (by omega)
    obtain ⟨s1, s2, s3⟩ := ha.mul hd (by omega)
    obtain ⟨t1, t2, t3⟩ := hb.mul hc (by omega)
    obtain ⟨u1, u2, u3⟩ := p3.sub q3 (by omega)
    obtain ⟨v1, v2, v3⟩ := s3.add t3 (by omega)
    refine key (X := x * z - y * u) (Y := x * u + y * z) ⟨u1, v1, rfl, u3, v3⟩ (by omega) (by omega) fun h => ?_
    simp only [S18_2, S18_1, opS, fb_eqls, opt_s, test_b, cx_mul p2 q2 s2 t2 u2 v2]
    rfl

end Go.Proofs.YthammkbenflchaaDoor
