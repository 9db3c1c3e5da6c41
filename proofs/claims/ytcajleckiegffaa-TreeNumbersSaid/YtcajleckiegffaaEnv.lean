/-
  The abstract machine over this program: strings.Join by its contract, every other function by its own code.
-/
import Derived.Test.YtcajleckiegffaaAmN
import Derived.Test.YtcajleckiegffaaShelf
import Derived.KernelRfl
namespace Go.Proofs.Ytcajleckiegffaa
open Go.Am

noncomputable def env : Env where
  P := Try.prog
  prim := fun f => bif Nat.beq f 24 then some joinPrim else none
  how := fun _ => .alone
  reg := regA Try.prog

theorem names : (Try.prog.funcs.toList.all fun fn => !(fn.body.isSome && (fn.name == "runtime.NumGoroutine"))) = true := by kernel_rfl

theorem namesOk : NamesOk Try.prog := by
  intro f fn h hb
  have hm : fn ∈ Try.prog.funcs.toList := Array.mem_toList_iff.2 (Array.mem_of_getElem? h)
  have := List.all_eq_true.1 names fn hm
  simp only [hb, Bool.true_and, Bool.not_eq_true'] at this
  exact this

theorem mixedOrders : Try.prog.follows .mixedOrders = true := by kernel_rfl

theorem env_ok : EnvOk env where
  names := namesOk
  reg := fun _ h => regA_ok namesOk mixedOrders h
  prim := fun f p h => by
    simp only [env] at h
    cases hb : Nat.beq f 24 with
    | false => rw [hb] at h; cases h
    | true =>
      rw [hb] at h
      cases h
      have := Nat.eq_of_beq_eq_true hb
      subst this
      exact join_ok Try.strings_Join_none Try.strings_Join

def isT : Option (AV × Heap) → Bool
  | some (.lit (.bool b), _) => b
  | _ => false

theorem isT_spec {r : Option (AV × Heap)} (h : isT r = true) : ∃ h', r = some (.lit (.bool true), h') := by
  unfold isT at h
  split at h
  · subst h; exact ⟨_, rfl⟩
  · cases h

end Go.Proofs.Ytcajleckiegffaa
