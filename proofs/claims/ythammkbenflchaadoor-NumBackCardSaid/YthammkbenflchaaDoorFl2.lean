import Derived.Test.YthammkbenflchaaDoorGNum
import Derived.Test.YthammkbenflchaaDoorFl1
namespace Go.Proofs.YthammkbenflchaaDoor
set_option linter.unusedSimpArgs false
set_option linter.unusedVariables false
open Go.Am Ieee
set_option maxRecDepth 100000

/-! ### What the operations on floats answer -/
variable {P : Program}

theorem Sem.pb {α β : Type} (a : α) (f : α → Sem β) : (pure a : Sem α) >>= f = f a := rfl

def fl (w : Nat) : AV := .lit (.float .f64 w)
def cx (a b : Nat) : AV := .lit (.complex .f64 a b)

theorem fa_add {a b w : Nat} (h : double.add a b = some w) : Op.floatArith .add .f64 a b = pure (.float .f64 w) := by
  show (match double.add a b with | some r => (pure (.float .f64 r) : Sem Value) | none => _) = _
  rw [h]
theorem fa_sub {a b w : Nat} (h : double.sub a b = some w) : Op.floatArith .sub .f64 a b = pure (.float .f64 w) := by
  show (match double.sub a b with | some r => (pure (.float .f64 r) : Sem Value) | none => _) = _
  rw [h]
theorem fa_mul {a b w : Nat} (h : double.mul a b = some w) : Op.floatArith .mul .f64 a b = pure (.float .f64 w) := by
  show (match double.mul a b with | some r => (pure (.float .f64 r) : Sem Value) | none => _) = _
  rw [h]

theorem ar_add {a b w : Nat} (h : double.add a b = some w) : Op.Complex.arith .add .f64 a b = pure w := by
  unfold Op.Complex.arith; rw [fa_add h]; rfl
theorem ar_sub {a b w : Nat} (h : double.sub a b = some w) : Op.Complex.arith .sub .f64 a b = pure w := by
  unfold Op.Complex.arith; rw [fa_sub h]; rfl
theorem ar_mul {a b w : Nat} (h : double.mul a b = some w) : Op.Complex.arith .mul .f64 a b = pure w := by
  unfold Op.Complex.arith; rw [fa_mul h]; rfl

theorem bx_slow {op : BinOp} {t : TypeId} {x y : Value} (h1 : fastBin op (.lit x) (.lit y) = none) (h3 : toLit (.lit x) = some x) (h4 : toLit (.lit y) = some y) {s : Sem Value} {v : Value} (hs : (do eqGuard op t (.tmp 0) (.tmp 1) x y; binOp op t x y : Sem Value) = s) (hv : s.peval P = some v) (hn : ¬ (x = .nilIface ∧ y = .nilIface)) :
    binX P .none op t (.lit x) (.lit y) = some (ofVal v) := by
  have h2 : nilTestK .none op (.lit x) (.lit y) = none := rfl
  unfold binX
  rw [h1, h2]
  simp only [litBin, h3, h4, hs, hv]
  split
  · exact absurd ⟨rfl, rfl⟩ hn
  · rw [hs, hv]; rfl

theorem fx_add {t : TypeId} {a b w : Nat} (h : double.add a b = some w) : binX P .none .add t (fl a) (fl b) = some (fl w) :=
  bx_slow (v := .float .f64 w) rfl rfl rfl (s := Op.floatArith .add .f64 a b) rfl (by rw [fa_add h]; rfl) (by simp)

theorem cmp_slow {op : BinOp} {t : TypeId} {a b : Nat} {r : Bool} (h1 : fastBin op (fl a) (fl b) = none) (hs : (do eqGuard op t (.tmp 0) (.tmp 1) (.float .f64 a) (.float .f64 b); binOp op t (.float .f64 a) (.float .f64 b) : Sem Value) = Op.floatCmp op .f64 a b) (hr : Op.floatCmp op .f64 a b = pure (.bool r)) :
    binX P .none op t (fl a) (fl b) = some (.lit (.bool r)) :=
  bx_slow (v := .bool r) h1 rfl rfl (s := Op.floatCmp op .f64 a b) hs (by rw [hr]; rfl) (by simp)

theorem fx_eql (t : TypeId) (a b : Nat) : binX P .none .eql t (fl a) (fl b) = some (.lit (.bool (double.order a b == some .eq))) := cmp_slow rfl rfl rfl
theorem fx_neq (t : TypeId) (a b : Nat) : binX P .none .neq t (fl a) (fl b) = some (.lit (.bool (double.order a b != some .eq))) := cmp_slow rfl rfl rfl
theorem fx_lss (t : TypeId) (a b : Nat) : binX P .none .lss t (fl a) (fl b) = some (.lit (.bool (double.order a b == some .lt))) := cmp_slow rfl rfl rfl
theorem fx_leq (t : TypeId) (a b : Nat) : binX P .none .leq t (fl a) (fl b) = some (.lit (.bool (double.order a b == some .lt || double.order a b == some .eq))) := cmp_slow rfl rfl rfl
theorem fx_gtr (t : TypeId) (a b : Nat) : binX P .none .gtr t (fl a) (fl b) = some (.lit (.bool (double.order a b == some .gt))) := cmp_slow rfl rfl rfl
theorem fx_geq (t : TypeId) (a b : Nat) : binX P .none .geq t (fl a) (fl b) = some (.lit (.bool (double.order a b == some .gt || double.order a b == some .eq))) := cmp_slow rfl rfl rfl

theorem cx_add {t : TypeId} {a b c d u v : Nat} (h1 : double.add a c = some u) (h2 : double.add b d = some v) : binX P .none .add t (cx a b) (cx c d) = some (cx u v) :=
  bx_slow (v := .complex .f64 u v) rfl rfl rfl (s := Op.complexOp .add .f64 a b c d) rfl (by
    have : Op.complexOp .add .f64 a b c d = (do pure (.complex .f64 (← Op.Complex.arith .add .f64 a c) (← Op.Complex.arith .add .f64 b d)) : Sem Value) := rfl
    rw [this, ar_add h1, ar_add h2]; rfl) (by simp)
theorem cx_sub {t : TypeId} {a b c d u v : Nat} (h1 : double.sub a c = some u) (h2 : double.sub b d = some v) : binX P .none .sub t (cx a b) (cx c d) = some (cx u v) :=
  bx_slow (v := .complex .f64 u v) rfl rfl rfl (s := Op.complexOp .sub .f64 a b c d) rfl (by
    have : Op.complexOp .sub .f64 a b c d = (do pure (.complex .f64 (← Op.Complex.arith .sub .f64 a c) (← Op.Complex.arith .sub .f64 b d)) : Sem Value) := rfl
    rw [this, ar_sub h1, ar_sub h2]; rfl) (by simp)
theorem cx_mul {t : TypeId} {a b c d ac bd ad bc u v : Nat} (h1 : double.mul a c = some ac) (h2 : double.mul b d = some bd) (h3 : double.mul a d = some ad) (h4 : double.mul b c = some bc) (h5 : double.sub ac bd = some u) (h6 : double.add ad bc = some v) : binX P .none .mul t (cx a b) (cx c d) = some (cx u v) :=
  bx_slow (v := .complex .f64 u v) rfl rfl rfl (s := Op.complexOp .mul .f64 a b c d) rfl (by
    have : Op.complexOp .mul .f64 a b c d = (do
        let x ← Op.Complex.arith .mul .f64 a c
        let y ← Op.Complex.arith .mul .f64 b d
        let u ← Op.Complex.arith .sub .f64 x y
        let z ← Op.Complex.arith .mul .f64 a d
        let w ← Op.Complex.arith .mul .f64 b c
        let v ← Op.Complex.arith .add .f64 z w
        pure (.complex .f64 u v) : Sem Value) := by
      simp only [Op.complexOp, Op.Complex.conv, if_true, Op.Complex.product, Op.Complex.mul, Op.Complex.sub, Op.Complex.add, bind_assoc, pure_bind]
      rfl
    rw [this, ar_mul h1, ar_mul h2, Sem.pb, Sem.pb, ar_sub h5, ar_mul h3, ar_mul h4, Sem.pb, Sem.pb, Sem.pb, ar_add h6]; rfl) (by simp)
theorem cx_eql (t : TypeId) (a b c d : Nat) : binX P .none .eql t (cx a b) (cx c d) = some (.lit (.bool (double.order a c == some .eq && double.order b d == some .eq))) :=
  bx_slow (v := .bool _) rfl rfl rfl (s := Op.complexOp .eql .f64 a b c d) rfl rfl (by simp)
theorem cx_neq (t : TypeId) (a b c d : Nat) : binX P .none .neq t (cx a b) (cx c d) = some (.lit (.bool !(double.order a c == some .eq && double.order b d == some .eq))) :=
  bx_slow (v := .bool _) rfl rfl rfl (s := Op.complexOp .neq .f64 a b c d) rfl rfl (by simp)

theorem bi_real (a b : Nat) : litBi Tryd.prog .real [22] 40 [false] [cx a b] = some (fl a) := by kernel_rfl
theorem bi_imag (a b : Nat) : litBi Tryd.prog .imag [22] 40 [false] [cx a b] = some (fl b) := by kernel_rfl
theorem bi_cx (a b : Nat) (c d : Bool) : litBi Tryd.prog .complex [40, 40] 22 [c, d] [fl a, fl b] = some (cx a b) := by kernel_rfl
theorem bi_min (a b : Int) (c d : Bool) : litBi Tryd.prog .min [3, 3] 3 [c, d] [.lit (.int .i64 a), .lit (.int .i64 b)] = some (.lit (.int .i64 (if b < a then b else a))) := by kernel_rfl
theorem i2f3 (n : Int) (h : Heap) : convX Tryd.prog 3 40 (.lit (.int .i64 n)) h = some (fl (double.write (.number (n < 0) n.natAbs 0))) := by kernel_rfl
theorem i2f2 (n : Int) (h : Heap) : convX Tryd.prog 2 40 (.lit (.int .i64 n)) h = some (fl (double.write (.number (n < 0) n.natAbs 0))) := by kernel_rfl
theorem lit_bits (a : Nat) : litCall Tryd.prog [fl a] 51 = some (.lit (.int .u64 a)) := by kernel_rfl
theorem lit_from (n : Int) : litCall Tryd.prog [.lit (.int .u64 n)] 50 = some (fl n.toNat) := by kernel_rfl
theorem lit_trunc (a : Nat) : litCall Tryd.prog [fl a] 48 = match (((Extern.MathFloor.toIntegral "math.archTrunc" .zero #[.float .f64 a]) >>= fun v => (pure (Next.value v) : Sem Next)).peval Tryd.prog) with
    | some (.value v) => some (ofVal v)
    | _ => none := by kernel_rfl
theorem f2i_lit (a : Nat) (h : Heap) : convX Tryd.prog 40 3 (fl a) h = ((Conv.floatToInt .f64 a .i64).peval Tryd.prog).map ofVal := by kernel_rfl
theorem f2i_lit2 (a : Nat) (h : Heap) : convX Tryd.prog 40 2 (fl a) h = ((Conv.floatToInt .f64 a .i64).peval Tryd.prog).map ofVal := by kernel_rfl
theorem un_neg (a : Nat) : litUn P .neg (fl a) = some (fl (Op.negFloat .f64 a)) := rfl
theorem un_negc (a b : Nat) : litUn P .neg (cx a b) = some (cx (Op.negFloat .f64 a) (Op.negFloat .f64 b)) := rfl

end Go.Proofs.YthammkbenflchaaDoor
