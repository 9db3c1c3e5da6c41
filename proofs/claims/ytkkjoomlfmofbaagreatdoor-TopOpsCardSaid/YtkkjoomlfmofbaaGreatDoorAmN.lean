import Derived.Test.YtkkjoomlfmofbaaGreatDoorAmM
import Derived.Lib.Join
set_option linter.unusedSimpArgs false
set_option linter.unusedVariables false
set_option linter.unusedSectionVars false
/-! A library function by its contract: strings.Join. -/
namespace Go.Am
open Go.RowKit

variable {P : Program} {T : Tr}

def strs : List AV → Option (List ByteArray)
  | [] => some []
  | .lit (.string s) :: r => match strs r with
    | some l => some (s :: l)
    | none => none
  | _ => none

def joined (xs : List ByteArray) (sep : ByteArray) : List UInt8 := Lib.join (xs.map (·.data.toList)) sep.data.toList

def joinPrim : List AV → Option AV
  | [.isl sz _ l, .lit (.string sep)] => match strs l with
    | some xs => if Nat.beq sz 1 = true ∧ xs.length ≤ 140737488355328 ∧ (joined xs sep).length ≤ 140737488355328 then some (.lit (.string ⟨(joined xs sep).toArray⟩)) else none
    | none => none
  | [.lit (.slice none 0 0), .lit (.string _)] => some (.lit (.string ⟨#[]⟩))
  | _ => none

theorem strs_get : ∀ {l : List AV} {xs : List ByteArray}, strs l = some xs → l.length = xs.length ∧ ∀ (j : Nat) s, xs[j]? = some s → l[j]? = some (.lit (.string s))
  | [], xs, h => by simp only [strs, Option.some.injEq] at h; subst h; exact ⟨rfl, fun j s hs => by simp at hs⟩
  | c :: r, xs, h => by
    unfold strs at h
    split at h
    · rename_i heq; cases heq
    · rename_i s r' heq
      cases heq
      split at h
      · rename_i l' hl
        cases h
        obtain ⟨h1, h2⟩ := strs_get hl
        refine ⟨by simp [h1], fun j s' hs => ?_⟩
        cases j with
        | zero => simp at hs ⊢; exact hs
        | succ j => simp at hs ⊢; exact h2 j s' hs
      · cases h
    · cases h

theorem join_ok [Nu] {f : FuncId}
    (h0 : ∀ (a : Option Addr) (c : Nat) (sep : ByteArray) (w : World), Calls P f #[.slice a 0 c, .string sep] w fun e w' => e = .returned (.string ⟨#[]⟩) ∧ w' = w)
    (h1 : ∀ (bk o c : Nat) (xs : List ByteArray) (sep : ByteArray) (w : World), (∀ (j : Nat) x, xs[j]? = some x → w.cell? ⟨bk, o + j, none⟩ = some (.string x)) → bk < w.heap.size → xs.length ≤ 140737488355328 → xs.length ≤ c →
      (Lib.join (xs.map (·.data.toList)) sep.data.toList).length ≤ 140737488355328 →
      Calls P f #[.slice (some ⟨bk, o, none⟩) xs.length c, .string sep] w fun e w' => e = .returned (.string ⟨(Lib.join (xs.map (·.data.toList)) sep.data.toList).toArray⟩) ∧ Below w.heap.size w w') : PrimOk P T f joinPrim := by
  intro args r hp I w vs _ hlen hv hI
  have two : ∀ {x y : AV}, args = [x, y] → ∃ u v, vs = #[u, v] ∧ VD I w x u ∧ VD I w y v := by
    intro x y he
    subst he
    obtain ⟨l⟩ := vs
    match l, hlen, hv with
    | [u, v], _, hv => exact ⟨u, v, rfl, hv 0 _ _ rfl rfl, hv 1 _ _ rfl rfl⟩
  unfold joinPrim at hp
  split at hp
  · rename_i sz full l sep
    obtain ⟨u, v, rfl, hu, hs⟩ := two rfl
    have hse : v = .string sep := by cases hs with | lit _ => rfl
    subst hse
    split at hp
    · rename_i xs hxs
      split at hp
      · rename_i hb
        obtain ⟨b1, b2, b3⟩ := hb
        have hsz := Nat.eq_of_beq_eq_true b1
        subst hsz
        cases hp
        obtain ⟨hl, hg⟩ := strs_get hxs
        cases hu with
        | @isl _ _ _ a cap uu hc hf hsz ha hok hrel =>
          by_cases hnil : l = []
          · subst hnil
            have : xs = [] := List.length_eq_zero_iff.1 hl.symm
            subst this
            refine (h0 a cap sep w).mono ?_
            rintro e w' ⟨rfl, rfl⟩
            exact ⟨_, I, rfl, .lit rfl, Nat.le_refl _, fun _ _ => rfl, rfl, rfl, rfl, fun _ _ h => .inl h⟩
          · obtain ⟨b, o, rfl, hcell⟩ := ha hnil
            have hcells : ∀ (j : Nat) x, xs[j]? = some x → w.cell? ⟨b, o + j, none⟩ = some (.string x) := by
              intro j x hx
              have hj := hg j x hx
              have hjl : j < l.length := (List.getElem?_eq_some_iff.1 hj).1
              have hc' := (hcell j 0 hjl Nat.zero_lt_one).2
              have hr := hrel j _ 0 (.lit (.string x)) hj rfl
              have : uu j 0 = .string x := by
                generalize uu j 0 = z at hr
                cases hr with
                | lit _ => rfl
              rw [this] at hc'
              simpa using hc'
            have hbk : b < w.heap.size := by
              have h0' : 0 < l.length := by cases l with | nil => exact absurd rfl hnil | cons => simp
              have hc' := (hcell 0 0 h0' Nat.zero_lt_one).2
              rcases Nat.lt_or_ge b w.heap.size with h | h
              · exact h
              · simp [World.cell?, Array.getElem?_eq_none h] at hc'
            rw [hl]
            refine (h1 b o cap xs sep w hcells hbk b2 (by omega) b3).mono ?_
            rintro e w' ⟨rfl, hB⟩
            exact ⟨_, I, rfl, .lit rfl, hB.size, hB.block, hB.os, hB.tape, hB.output, fun _ _ h => .inl h⟩
      · cases hp
    · cases hp
  · obtain ⟨u, v, rfl, hu, hs⟩ := two rfl
    rename_i sep
    have hse : v = .string sep := by cases hs with | lit _ => rfl
    have hue : u = .slice none 0 0 := by cases hu with | lit _ => rfl
    subst hse; subst hue
    cases hp
    refine (h0 none 0 sep w).mono ?_
    rintro e w' ⟨rfl, rfl⟩
    exact ⟨_, I, rfl, .lit rfl, Nat.le_refl _, fun _ _ => rfl, rfl, rfl, rfl, fun _ _ h => .inl h⟩
  · cases hp

end Go.Am
