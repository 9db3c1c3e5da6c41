import Derived.Test.YtomjidlkaocmkaaGreatRows
import Derived.WalkKit
import Derived.ProofKit
import Derived.OpenShut
import Derived.KernelRfl
namespace Go.Proofs.YtomjidlkaocmkaaGreat.meanNumbers
set_option maxRecDepth 100000
theorem and_t {a b : Bool} (ha : a = true) (hb : b = true) : (a && b) = true := by rw [ha, hb]; rfl
set_option maxHeartbeats 4000000 in
theorem closed : joinedFacts Tryz.pinned.checked.prog 3 Tryz.f3 Rows.meanNumbersSpec Rows.meanNumbersRow = true := by
  unfold joinedFacts
  repeat' (with_reducible refine and_t ?_ ?_)
  all_goals as_aux_lemma => kernel_rfl
end Go.Proofs.YtomjidlkaocmkaaGreat.meanNumbers
