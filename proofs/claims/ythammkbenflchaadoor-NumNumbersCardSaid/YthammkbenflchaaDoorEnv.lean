/-
  The abstract machine over this program: strconv.Itoa by its contract, every other function by its own code; the table of powers of ten is told.
-/
import Derived.Test.YthammkbenflchaaDoorAmP
import Derived.Test.YthammkbenflchaaDoorShelf
import Derived.KernelRfl
namespace Go.Proofs.YthammkbenflchaaDoor
open Go.Am

theorem gPow : Tryd.prog.globalNamed "internal/strconv.uint64pow10" = some 1 := by kernel_rfl

def table : Tr := Tr.set 64 .leaf (4294967297 + 1) (tabAV .u64 Lib.pow10Tab)

theorem table_get : table.get (4294967297 + 1) = tabAV .u64 Lib.pow10Tab := by
  unfold table
  rw [Tr.set_get 64 .leaf _ _ _ (by omega), if_pos rfl]

noncomputable def env : Env where
  P := Tryd.prog
  prim := fun f => bif Nat.beq f 36 then some itoaPrim else none
  how := fun _ => .alone
  reg := regA Tryd.prog
  gl := table

theorem names : (Tryd.prog.funcs.toList.all fun fn => !(fn.body.isSome && (fn.name == "runtime.NumGoroutine"))) = true := by kernel_rfl

theorem namesOk : NamesOk Tryd.prog := by
  intro f fn h hb
  have hm : fn ∈ Tryd.prog.funcs.toList := Array.mem_toList_iff.2 (Array.mem_of_getElem? h)
  have := List.all_eq_true.1 names fn hm
  simp only [hb, Bool.true_and, Bool.not_eq_true'] at this
  exact this

theorem mixedOrders : Tryd.prog.follows .mixedOrders = true := by kernel_rfl

theorem env_ok : EnvOk env where
  names := namesOk
  reg := fun _ h => regA_ok namesOk mixedOrders h
  prim := fun f p h => by
    simp only [env] at h
    cases hb : Nat.beq f 36 with
    | false => rw [hb] at h; cases h
    | true =>
      rw [hb] at h
      cases h
      have := Nat.eq_of_beq_eq_true hb
      subst this
      exact itoa_ok table_get gPow fun n h0 h1 w ht => Tryd.strconv_Itoa n h0 h1 w ht
  low := low_one (b := 1) (v := tabAV .u64 Lib.pow10Tab) (by omega)

def isT : Option (AV × Heap) → Bool
  | some (.lit (.bool b), _) => b
  | _ => false

theorem isT_spec {r : Option (AV × Heap)} (h : isT r = true) : ∃ h', r = some (.lit (.bool true), h') := by
  unfold isT at h
  split at h
  · subst h; exact ⟨_, rfl⟩
  · cases h

end Go.Proofs.YthammkbenflchaaDoor
