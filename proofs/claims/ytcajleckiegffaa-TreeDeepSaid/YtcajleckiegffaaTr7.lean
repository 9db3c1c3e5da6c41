import Derived.Test.YtcajleckiegffaaTr6
namespace Go.Proofs.Ytcajleckiegffaa
set_option linter.unusedSimpArgs false
set_option linter.unusedVariables false
open Go.Am
set_option maxRecDepth 100000

/-! ### The plain law of TreeDeep: sixty cases each, run -/

def deepS (n : Nat) : List UInt8 := List.replicate n 40 ++ List.replicate n 41
def wideS (m : Nat) : List UInt8 := [40] ++ (List.replicate m [40, 41]).flatten ++ [41]

def deepOk (n : Nat) : Bool := match lexM (deepS n) 1000 0 0 0 [] [] with
  | some R => Nat.beq R.err 0 && (!Nat.beq R.toks.length 0 && (bif Nat.blt 40 n then Nat.beq (parseM (deepS n).length R.toks [] []).err 14 && Nat.beq (parseM (deepS n).length R.toks [] []).pos 40 else Nat.beq (parseM (deepS n).length R.toks [] []).err 0))
  | none => false

def T.kidsOf : T → List T
  | .mk _ _ _ ks => ks
def T.placeOf : T → Nat
  | .mk _ p _ _ => p

def wideOk (m : Nat) : Bool := match lexM (wideS m) 1000 0 0 0 [] [] with
  | some R => Nat.beq R.err 0 && (!Nat.beq R.toks.length 0 && (Nat.beq (parseM (wideS m).length R.toks [] []).err 0 && (Nat.beq (parseM (wideS m).length R.toks [] []).tree.kidsOf.length m &&
      match (parseM (wideS m).length R.toks [] []).tree.kidsOf[m - 1]? with
      | some t => Nat.beq t.placeOf (2 * m - 1)
      | none => false)))
  | none => false

theorem deep_all : ((List.range 61).all fun n => Nat.beq n 0 || deepOk n) = true := by kernel_rfl
theorem wide_all : ((List.range 61).all fun n => Nat.beq n 0 || wideOk n) = true := by kernel_rfl

end Go.Proofs.Ytcajleckiegffaa
