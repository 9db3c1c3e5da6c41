/-
  The abstract machine over this program: strings.Join by its contract, every other function by its own code.
-/
import Derived.Test.YtenaiofflgnegaaGreatAmN
import Derived.Test.YtenaiofflgnegaaGreatShelf
import Derived.Test.YtenaiofflgnegaaGreatProg
import Derived.KernelRfl
namespace Go.Proofs.YtenaiofflgnegaaGreat
open Go.Am

def memN (n : Nat) : List Nat → Bool
  | [] => false
  | m :: l => bif Nat.beq n m then true else memN n l

noncomputable def env : Env where
  P := Tryz.prog
  prim := fun f => bif Nat.beq f 99 then some joinPrim else none
  how := fun f => bif memN f [26, 27, 30, 31, 35, 37, 57, 66, 67, 69, 70, 73, 77, 79, 81, 89, 90, 100, 101, 102, 103, 104, 105, 106, 107, 110, 111, 112, 113, 114, 115, 117, 118, 122, 123, 144, 145, 146, 147, 148, 149, 150, 151, 168, 169] then .raw else bif memN f [38, 20] then .within else .alone
  reg := regA Tryz.prog
  gl := .leaf

theorem names : (Tryz.prog.funcs.toList.all fun fn => !(fn.body.isSome && (fn.name == "runtime.NumGoroutine"))) = true := by kernel_rfl

theorem namesOk : NamesOk Tryz.prog := by
  intro f fn h hb
  have hm : fn ∈ Tryz.prog.funcs.toList := Array.mem_toList_iff.2 (Array.mem_of_getElem? h)
  have := List.all_eq_true.1 names fn hm
  simp only [hb, Bool.true_and, Bool.not_eq_true'] at this
  exact this

theorem mixedOrders : Tryz.prog.follows .mixedOrders = true := by kernel_rfl

theorem env_ok : EnvOk env where
  names := namesOk
  reg := fun _ h => regA_ok namesOk mixedOrders h
  prim := fun f p h => by
    simp only [env] at h
    cases hb : Nat.beq f 99 with
    | false => rw [hb] at h; cases h
    | true =>
      rw [hb] at h
      cases h
      have := Nat.eq_of_beq_eq_true hb
      subst this
      exact join_ok Tryz.strings_Join_none Tryz.strings_Join
  low := fun i _ => by show Tr.get .leaf i = _; unfold Tr.get; rfl

def isT : Option (AV × Heap) → Bool
  | some (.lit (.bool b), _) => b
  | _ => false

theorem isT_spec {r : Option (AV × Heap)} (h : isT r = true) : ∃ h', r = some (.lit (.bool true), h') := by
  unfold isT at h
  split at h
  · subst h; exact ⟨_, rfl⟩
  · cases h

end Go.Proofs.YtenaiofflgnegaaGreat
