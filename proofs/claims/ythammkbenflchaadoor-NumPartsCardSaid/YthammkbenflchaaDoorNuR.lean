import Derived.Test.YthammkbenflchaaDoorNu1
import Derived.Test.YthammkbenflchaaDoorCards
import Derived.Test.YthammkbenflchaaDoorTie
import Derived.WalkKit
import Derived.ProofKit
import Derived.OpenShut
import Derived.ChangeMaps5
import Derived.Deep.DeepHandedRow
import Derived.Lib.LaidTab
import Derived.Stop.LaidErr
namespace Go.Proofs.YthammkbenflchaaDoor
set_option linter.unusedSimpArgs false
set_option linter.unusedVariables false
open Go.ChangeShapes Go.WideShapes Go.ChangeAt Go.RowKit
open Go.Am

/-! ### What the rows of this seat have in common -/

theorem own : ownKnob Tryd.prog.godebug = none := by kernel_rfl
theorem gType : (Tryd.prog.globals[1]?).map (·.type) = some 81 := by kernel_rfl
theorem sameTable : (Rows.laid_internal_strconv_uint64pow10 : DataW Unit) = Lib.tabData .u64 Lib.pow10Tab := by kernel_rfl

theorem tabIs_of {W : World} (h : laidMet Tryd.prog [("math/bits.deBruijn32tab", Rows.laid_math_bits_deBruijn32tab), ("math/bits.deBruijn64tab", Rows.laid_math_bits_deBruijn64tab), ("internal/strconv.uint64pow10", Rows.laid_internal_strconv_uint64pow10)] W) : Lib.TabIs Tryd.prog W "internal/strconv.uint64pow10" .u64 Lib.pow10Tab := by
  have h2 := h.tail.tail
  rw [sameTable] at h2
  exact Lib.tabIs_of_head (rest := []) gPow gType Tryd.underlying81 Tryd.underlying69 (by kernel_rfl) (by kernel_rfl) h2

def cells (d : DataW Unit) : Array Value :=
  match d with
  | .agg l => (l.map fun
    | .lit (.int k z) => Value.int k z
    | _ => undef).toArray
  | _ => #[]

def put (d : DataW Unit) : Obj → Obj
  | .cells _ t frozen => .cells (cells d) t frozen
  | o => o

section
variable {H : Type} {enc : TypeId × Value → H} {P : Program} {w : World} {base : Nat} {spare : Nat → Bool} {held : Bool}

theorem trodAll_four {t0 t1 t2 t3 : TypeId} {args : Array Value} {ds : List (DataW H)} {ps : List MemPlace} (h : DataW.TrodAll enc P w base spare held [t0, t1, t2, t3] args.toList ds ps) :
    ∃ v0 v1 v2 v3 d0 d1 d2 d3 p0 p1 p2 p3, args = #[v0, v1, v2, v3] ∧ ds = [d0, d1, d2, d3] ∧ ps = p0 ++ p1 ++ p2 ++ p3 ∧ DataW.Trod enc P w base spare held t0 v0 d0 p0 ∧ DataW.Trod enc P w base spare held t1 v1 d1 p1 ∧ DataW.Trod enc P w base spare held t2 v2 d2 p2 ∧ DataW.Trod enc P w base spare held t3 v3 d3 p3 := by
  obtain ⟨v0, vs, d0, ds', p0, q0, hargs, rfl, rfl, h0, hr⟩ := trodAll_cons h
  obtain ⟨v1, v2, v3, d1, d2, d3, p1, p2, p3, ha, rfl, rfl, h1, h2, h3⟩ := trodAll_three (args := vs.toArray) (by simpa using hr)
  refine ⟨v0, v1, v2, v3, d0, d1, d2, d3, p0, p1, p2, p3, ?_, rfl, by simp, h0, h1, h2, h3⟩
  have : vs = [v1, v2, v3] := by simpa using congrArg Array.toList ha
  subst this
  cases args; simp_all

theorem trodAll_five {t0 t1 t2 t3 t4 : TypeId} {args : Array Value} {ds : List (DataW H)} {ps : List MemPlace} (h : DataW.TrodAll enc P w base spare held [t0, t1, t2, t3, t4] args.toList ds ps) :
    ∃ v0 v1 v2 v3 v4 d0 d1 d2 d3 d4 p0 p1 p2 p3 p4, args = #[v0, v1, v2, v3, v4] ∧ ds = [d0, d1, d2, d3, d4] ∧ ps = p0 ++ p1 ++ p2 ++ p3 ++ p4 ∧ DataW.Trod enc P w base spare held t0 v0 d0 p0 ∧ DataW.Trod enc P w base spare held t1 v1 d1 p1 ∧ DataW.Trod enc P w base spare held t2 v2 d2 p2 ∧ DataW.Trod enc P w base spare held t3 v3 d3 p3 ∧ DataW.Trod enc P w base spare held t4 v4 d4 p4 := by
  obtain ⟨v0, vs, d0, ds', p0, q0, hargs, rfl, rfl, h0, hr⟩ := trodAll_cons h
  obtain ⟨v1, v2, v3, v4, d1, d2, d3, d4, p1, p2, p3, p4, ha, rfl, rfl, h1, h2, h3, h4⟩ := trodAll_four (args := vs.toArray) (by simpa using hr)
  refine ⟨v0, v1, v2, v3, v4, d0, d1, d2, d3, d4, p0, p1, p2, p3, p4, ?_, rfl, by simp, h0, h1, h2, h3, h4⟩
  have : vs = [v1, v2, v3, v4] := by simpa using congrArg Array.toList ha
  subst this
  cases args; simp_all

theorem trodAll_six {t0 t1 t2 t3 t4 t5 : TypeId} {args : Array Value} {ds : List (DataW H)} {ps : List MemPlace} (h : DataW.TrodAll enc P w base spare held [t0, t1, t2, t3, t4, t5] args.toList ds ps) :
    ∃ v0 v1 v2 v3 v4 v5 d0 d1 d2 d3 d4 d5 p0 p1 p2 p3 p4 p5, args = #[v0, v1, v2, v3, v4, v5] ∧ ds = [d0, d1, d2, d3, d4, d5] ∧ ps = p0 ++ p1 ++ p2 ++ p3 ++ p4 ++ p5 ∧ DataW.Trod enc P w base spare held t0 v0 d0 p0 ∧ DataW.Trod enc P w base spare held t1 v1 d1 p1 ∧ DataW.Trod enc P w base spare held t2 v2 d2 p2 ∧ DataW.Trod enc P w base spare held t3 v3 d3 p3 ∧ DataW.Trod enc P w base spare held t4 v4 d4 p4 ∧ DataW.Trod enc P w base spare held t5 v5 d5 p5 := by
  obtain ⟨v0, vs, d0, ds', p0, q0, hargs, rfl, rfl, h0, hr⟩ := trodAll_cons h
  obtain ⟨v1, v2, v3, v4, v5, d1, d2, d3, d4, d5, p1, p2, p3, p4, p5, ha, rfl, rfl, h1, h2, h3, h4, h5⟩ := trodAll_five (args := vs.toArray) (by simpa using hr)
  refine ⟨v0, v1, v2, v3, v4, v5, d0, d1, d2, d3, d4, d5, p0, p1, p2, p3, p4, p5, ?_, rfl, by simp, h0, h1, h2, h3, h4, h5⟩
  have : vs = [v1, v2, v3, v4, v5] := by simpa using congrArg Array.toList ha
  subst this
  cases args; simp_all
end

theorem size_len (a : ByteArray) (h : a.size ≤ maxLen) : a.data.toList.length ≤ 9223372036854775807 := by
  have e : a.data.toList.length = a.size := rfl
  rw [e]
  exact Nat.le_trans h (by decide)

end Go.Proofs.YthammkbenflchaaDoor
