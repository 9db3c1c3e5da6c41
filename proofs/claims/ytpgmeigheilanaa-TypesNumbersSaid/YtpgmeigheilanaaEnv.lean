/-
  The abstract machine over this program: strings.Join by its contract, every other function by its own code.
-/
import Derived.Test.YtpgmeigheilanaaAmN
import Derived.Test.YtpgmeigheilanaaShelf
import Derived.Test.YtpgmeigheilanaaProg
import Derived.KernelRfl
namespace Go.Proofs.Ytpgmeigheilanaa
open Go.Am

def memN (n : Nat) : List Nat → Bool
  | [] => false
  | m :: l => bif Nat.beq n m then true else memN n l

noncomputable def env : Env where
  P := Try.prog
  prim := fun f => bif Nat.beq f 21 then some joinPrim else none
  how := fun f => bif memN f [23, 29, 30, 43, 60, 61, 62, 63, 64, 65, 67, 68, 77, 78, 79, 80, 81, 85] then .raw else bif memN f [] then .within else .alone
  reg := regA Try.prog
  gl := .leaf

theorem names : (Try.prog.funcs.toList.all fun fn => !(fn.body.isSome && (fn.name == "runtime.NumGoroutine"))) = true := by kernel_rfl

theorem namesOk : NamesOk Try.prog := by
  intro f fn h hb
  have hm : fn ∈ Try.prog.funcs.toList := Array.mem_toList_iff.2 (Array.mem_of_getElem? h)
  have := List.all_eq_true.1 names fn hm
  simp only [hb, Bool.true_and, Bool.not_eq_true'] at this
  exact this

theorem mixedOrders : Try.prog.follows .mixedOrders = true := by kernel_rfl

theorem env_ok : EnvOk env where
  names := namesOk
  reg := fun _ h => regA_ok namesOk mixedOrders h
  prim := fun f p h => by
    simp only [env] at h
    cases hb : Nat.beq f 21 with
    | false => rw [hb] at h; cases h
    | true =>
      rw [hb] at h
      cases h
      have := Nat.eq_of_beq_eq_true hb
      subst this
      exact join_ok Try.strings_Join_none Try.strings_Join
  low := fun i _ => by show Tr.get .leaf i = _; unfold Tr.get; rfl

def isT : Option (AV × Heap) → Bool
  | some (.lit (.bool b), _) => b
  | _ => false

theorem isT_spec {r : Option (AV × Heap)} (h : isT r = true) : ∃ h', r = some (.lit (.bool true), h') := by
  unfold isT at h
  split at h
  · subst h; exact ⟨_, rfl⟩
  · cases h

end Go.Proofs.Ytpgmeigheilanaa
