/-
  Symbols that stand for whole numbers; hawserkeep.Num.
-/
import Derived.Test.YtkkjoomlfmofbaaGreatDoorNm11
import Derived.Test.YtkkjoomlfmofbaaGreatDoorAmU
import Derived.Test.YtkkjoomlfmofbaaGreatDoorTf11
import Derived.Test.YtkkjoomlfmofbaaGreatDoorTa11
set_option linter.unusedSimpArgs false
set_option linter.unusedVariables false
set_option linter.unusedSectionVars false
namespace Go.Proofs.YtkkjoomlfmofbaaGreatDoor
open Go.Am Ieee
set_option maxRecDepth 100000

theorem cop_eql {a b c d : Nat} {x y z u : Int} (h1 : FW a x) (h2 : FW b y) (h3 : FW c z) (h4 : FW d u) : Op.complexOp .eql .f64 a b c d = pure (.bool (decide (x = z ∧ y = u))) := by
  have e : Op.complexOp .eql .f64 a b c d = pure (.bool (double.order a c == some .eq && double.order b d == some .eq)) := rfl
  rw [e, h1.order h3, h2.order h4, beq_cmp_eq, beq_cmp_eq, ← Bool.decide_and]

theorem cop_neq {a b c d : Nat} {x y z u : Int} (h1 : FW a x) (h2 : FW b y) (h3 : FW c z) (h4 : FW d u) : Op.complexOp .neq .f64 a b c d = pure (.bool (!decide (x = z ∧ y = u))) := by
  have e : Op.complexOp .neq .f64 a b c d = pure (.bool !(double.order a c == some .eq && double.order b d == some .eq)) := rfl
  rw [e, h1.order h3, h2.order h4, beq_cmp_eq, beq_cmp_eq, ← Bool.decide_and]

/-- Symbols for whole numbers. -/
@[reducible] def mkNu (w : Nat → Nat × Nat) (v : Nat → Int × Int) (hw : ∀ n, FW (w n).1 (v n).1 ∧ FW (w n).2 (v n).2) (h1 : v 1000 ≠ v 1001) (h2 : v 1002 ≠ (0, 0)) (h3 : v 1003 = v 1004) : Nu where
  re n := (w n).1
  im n := (w n).2
  eql a b ha hb := by
    rw [cop_eql (hw a).1 (hw a).2 (hw b).1 (hw b).2]
    rcases ha with rfl | rfl <;> rcases hb with rfl | rfl
    · simp
    · rw [decide_eq_false (fun ⟨p, q⟩ => h1 (Prod.ext p q))]; rfl
    · rw [decide_eq_false (fun ⟨p, q⟩ => h1 (Prod.ext p.symm q.symm))]; rfl
    · simp
  neq a b ha hb := by
    rw [cop_neq (hw a).1 (hw a).2 (hw b).1 (hw b).2]
    rcases ha with rfl | rfl <;> rcases hb with rfl | rfl
    · simp
    · rw [decide_eq_false (fun ⟨p, q⟩ => h1 (Prod.ext p q))]; rfl
    · rw [decide_eq_false (fun ⟨p, q⟩ => h1 (Prod.ext p.symm q.symm))]; rfl
    · simp
  eql0 := by
    rw [cop_eql (hw 1002).1 (hw 1002).2 FW.zero FW.zero, decide_eq_false (fun ⟨p, q⟩ => h2 (Prod.ext p q))]
  neq0 := by
    rw [cop_neq (hw 1002).1 (hw 1002).2 FW.zero FW.zero, decide_eq_false (fun ⟨p, q⟩ => h2 (Prod.ext p q))]; rfl
  eqlA := by
    rw [cop_eql (hw 1003).1 (hw 1003).2 (hw 1004).1 (hw 1004).2, decide_eq_true ⟨congrArg Prod.fst h3, congrArg Prod.snd h3⟩]
  neqA := by
    rw [cop_neq (hw 1003).1 (hw 1003).2 (hw 1004).1 (hw 1004).2, decide_eq_true ⟨congrArg Prod.fst h3, congrArg Prod.snd h3⟩]; rfl

theorem fw_one : FW 4607182418800017408 1 := ⟨false, 1, by decide, rfl, by decide⟩

def numV (v : AV) : AV := .agg [(iL 1), (iL 0), v, nL, nL]
def ansV (v : AV) : AV := .agg [(iL 0), (iL 1), (iL 0), v, nL, nL]

/-- hawserkeep.Num of whole numbers. -/
theorem c_num {x y : Int} (hx : x.natAbs < 2 ^ 53) (hy : y.natAbs < 2 ^ 53) :
    ∃ a b, FW a x ∧ FW b y ∧ ∀ (E : SEnv) (n : Nat), E.prim 13 = none → E.fns 13 = some (.alone, N13) → ∀ h, scall E (n + 1) 13 [ii x, ii y] h = some (numV (cx a b), h) := by
  obtain ⟨a, a1, _, a2⟩ := i2f_fw hx []
  obtain ⟨b, b1, _, b2⟩ := i2f_fw hy []
  rw [i2f3] at a1 b1
  have e1 : ∀ h, convX P0 3 45 (ii x) h = some (fl a) := fun h => by
    rw [show convX P0 3 45 (ii x) h = convX Tryz.prog 3 45 (.lit (.int .i64 x)) h from rfl, i2f3]
    exact a1
  have e2 : ∀ h, convX P0 3 45 (ii y) h = some (fl b) := fun h => by
    rw [show convX P0 3 45 (ii y) h = convX Tryz.prog 3 45 (.lit (.int .i64 y)) h from rfl, i2f3]
    exact b1
  have e3 : litBi P0 .complex [45, 45] 24 [false, false] [fl a, fl b] = some (cx a b) := bi_cx a b false false
  refine ⟨a, b, a2, b2, fun E n hp hf h => alone_call (F := N13) hp hf rfl (hc := [.arr ⟨5, false, false, [numV (cx a b)]⟩]) (r0 := numV (cx a b)) ?_ ⟨[], rfl⟩⟩
  show F13 (scall E n) (ii x) (ii y) [] = _
  have key : ∀ c : CF, F13 c (ii x) (ii y) [] = opt (convX P0 3 45 (ii x) [.arr ⟨5, false, false, [.agg [(iL 0), (iL 0), cL, nL, nL]]⟩]) fun t6 => opt (convX P0 3 45 (ii y) [.arr ⟨5, false, false, [.agg [(iL 0), (iL 0), cL, nL, nL]]⟩]) fun t8 => opt (litBi P0 .complex [45, 45] 24 [false, false] [t6, t8]) fun t9 => opt (buildX [(iL 0), (iL 0), cL, nL, nL] [(0, 1), (1, 1), (2, 1), (3, 1), (4, 1)] [(0, (iL 1)), (2, t9)]) fun t10 => optH (storeX 5 (.ptr 0 0 0) t10 [.arr ⟨5, false, false, [.agg [(iL 0), (iL 0), cL, nL, nL]]⟩]) fun h2 => opt (loadX (some 5) (.ptr 0 0 0) h2) fun res => some (res, h2) := fun c => rfl
  rw [key, e1, opt_s, e2, opt_s, e3, opt_s]
  rfl

end Go.Proofs.YtkkjoomlfmofbaaGreatDoor
