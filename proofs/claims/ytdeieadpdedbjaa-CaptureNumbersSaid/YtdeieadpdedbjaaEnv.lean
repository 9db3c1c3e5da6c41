/-
  The abstract machine over this program: strings.Contains at one byte by its contract, every other function by its own code.
-/
import Derived.Test.YtdeieadpdedbjaaAmN
import Derived.Test.YtdeieadpdedbjaaShelf
import Derived.KernelRfl
namespace Go.Proofs.Ytdeieadpdedbjaa
open Go.Am

def hasByte : List UInt8 → UInt8 → Bool
  | [], _ => false
  | b :: l, c => if b.toNat == c.toNat then true else hasByte l c

theorem hasByte_eq : ∀ (l : List UInt8) (c : UInt8), decide (0 ≤ Lib.indexByte l c) = hasByte l c
  | [], c => rfl
  | b :: l, c => by
    have ih := hasByte_eq l c
    have hge := Lib.indexByte_ge l c
    have e : (b.toNat == c.toNat) = (b == c) := by
      rw [Bool.eq_iff_iff, beq_iff_eq, beq_iff_eq]
      exact UInt8.toNat_inj
    show decide (0 ≤ if (b == c) = true then 0 else if (Lib.indexByte l c == -1) = true then -1 else Lib.indexByte l c + 1) = if (b.toNat == c.toNat) = true then true else hasByte l c
    rw [e]
    by_cases hb : (b == c) = true
    · rw [if_pos hb, if_pos hb]; rfl
    · rw [if_neg hb, if_neg hb, ← ih]
      by_cases h : Lib.indexByte l c = -1
      · rw [if_pos (by simpa using h), h]
      · rw [if_neg (by simpa using h)]
        have a1 : 0 ≤ Lib.indexByte l c + 1 := by omega
        have a2 : 0 ≤ Lib.indexByte l c := by omega
        simp [a1, a2]

def containsPrim : List AV → Option AV
  | [.lit (.string s), .lit (.string t)] => match t.data.toList with
    | [c] => some (.lit (.bool (hasByte s.data.toList c)))
    | _ => none
  | _ => none

theorem contains_ok {P : Program} {f : FuncId} (h : ∀ (s : ByteArray) (c : UInt8) (w : World), Calls P f #[.string s, .string ⟨#[c]⟩] w fun e w' => e = .returned (.bool (decide (0 ≤ Lib.indexByte s.data.toList c))) ∧ w' = w) : PrimOk P f containsPrim := by
  intro args r hp I w vs hlen hv hI
  unfold containsPrim at hp
  split at hp
  · rename_i s t
    obtain ⟨l⟩ := vs
    match l, hlen, hv with
    | [u, v], _, hv =>
      have h0 := hv 0 _ _ rfl rfl
      have h1 := hv 1 _ _ rfl rfl
      have e0 : u = .string s := by cases h0 with | lit _ => rfl
      have e1 : v = .string t := by cases h1 with | lit _ => rfl
      subst e0; subst e1
      split at hp
      · rename_i c hc
        cases hp
        have : t = ⟨#[c]⟩ := by
          apply ByteArray.ext
          apply Array.ext'
          exact hc
        subst this
        refine (h s c w).mono ?_
        rintro e w' ⟨rfl, rfl⟩
        rw [hasByte_eq]
        exact ⟨_, I, rfl, .lit rfl, Nat.le_refl _, fun _ _ => rfl, rfl, rfl, rfl, fun _ _ h => .inl h⟩
      · cases hp
  · cases hp

noncomputable def env : Env where
  P := Try.prog
  prim := fun f => bif Nat.beq f 24 then some containsPrim else none
  how := fun f => bif Nat.beq f 29 || Nat.beq f 38 then .raw else .alone
  reg := regA Try.prog

theorem names : (Try.prog.funcs.toList.all fun fn => !(fn.body.isSome && (fn.name == "runtime.NumGoroutine"))) = true := by kernel_rfl

theorem namesOk : NamesOk Try.prog := by
  intro f fn h hb
  have hm : fn ∈ Try.prog.funcs.toList := Array.mem_toList_iff.2 (Array.mem_of_getElem? h)
  have := List.all_eq_true.1 names fn hm
  simp only [hb, Bool.true_and, Bool.not_eq_true'] at this
  exact this

theorem mixedOrders : Try.prog.follows .mixedOrders = true := by kernel_rfl

theorem env_ok : EnvOk env where
  names := namesOk
  reg := fun _ h => regA_ok namesOk mixedOrders h
  prim := fun f p h => by
    simp only [env] at h
    cases hb : Nat.beq f 24 with
    | false => rw [hb] at h; cases h
    | true =>
      rw [hb] at h
      cases h
      have := Nat.eq_of_beq_eq_true hb
      subst this
      exact contains_ok Try.strings_Contains_one

def isT : Option (AV × Heap) → Bool
  | some (.lit (.bool b), _) => b
  | _ => false

theorem isT_spec {r : Option (AV × Heap)} (h : isT r = true) : ∃ h', r = some (.lit (.bool true), h') := by
  unfold isT at h
  split at h
  · subst h; exact ⟨_, rfl⟩
  · cases h

end Go.Proofs.Ytdeieadpdedbjaa
