/-
  Library functions by their contracts: strings.Join, strings.IndexAny, strings.ContainsRune (texts of ASCII).
-/
import Derived.Test.YtomjidlkaocmkaaGreatAmO
import Derived.Test.YtomjidlkaocmkaaGreatAmX
import Derived.Test.YtomjidlkaocmkaaGreatShelf
namespace Go.Proofs.YtomjidlkaocmkaaGreat
open Go.Am

def ascB (l : List UInt8) : Bool := l.all fun b => decide (b.toNat < 128)

def anyPrim : List AV → Option AV
  | [.lit (.string s), .lit (.string t)] => if s.data.toList.length < 4294967281 ∧ t.data.toList.length < 4294967281 ∧ ascB s.data.toList = true ∧ ascB t.data.toList = true then some (.lit (.int .i64 (Lib.indexAny s.data.toList t.data.toList))) else none
  | _ => none

theorem any_prim {T : Tr} : PrimOk Tryz.prog T 315 anyPrim := by
  intro args r hp I w vs _ hlen hv hI
  unfold anyPrim at hp
  split at hp
  · rename_i s t
    obtain ⟨l⟩ := vs
    match l, hlen, hv with
    | [u, v], _, hv =>
      have h0 := hv 0 _ _ rfl rfl
      have h1 := hv 1 _ _ rfl rfl
      have e0 : u = .string s := by cases h0 with | lit _ => rfl
      have e1 : v = .string t := by cases h1 with | lit _ => rfl
      subst e0; subst e1
      split at hp
      · rename_i hc
        cases hp
        obtain ⟨c1, c2, c3, c4⟩ := hc
        have asc_of : ∀ {l : List UInt8}, ascB l = true → ∀ (j : Nat) b, l[j]? = some b → b.toNat < 128 := fun h j b hj => of_decide_eq_true (List.all_eq_true.1 h b (List.mem_of_getElem? hj))
        refine (Tryz.strings_IndexAny_laid s t w (by rw [← ByteArray.size_data, ← Array.length_toList]; exact c1) (by rw [← ByteArray.size_data, ← Array.length_toList]; exact c2) (asc_of c3) (asc_of c4)).mono ?_
        rintro e w' ⟨rfl, hB⟩
        exact ⟨_, I, rfl, .lit rfl, hB.size, hB.block, hB.os, hB.tape, hB.output, fun _ _ h => .inl h⟩
      · cases hp
  · cases hp

def runePrim : List AV → Option AV
  | [.lit (.string s), .lit (.int .i32 r)] => if 0 ≤ r ∧ r < 128 then some (.lit (.bool (decide (0 ≤ Lib.indexByte s.data.toList r.toNat.toUInt8)))) else none
  | _ => none

theorem rune_prim {T : Tr} : PrimOk Tryz.prog T 266 runePrim := by
  intro args r hp I w vs _ hlen hv hI
  unfold runePrim at hp
  split at hp
  · rename_i s t
    obtain ⟨l⟩ := vs
    match l, hlen, hv with
    | [u, v], _, hv =>
      have h0 := hv 0 _ _ rfl rfl
      have h1 := hv 1 _ _ rfl rfl
      have e0 : u = .string s := by cases h0 with | lit _ => rfl
      have e1 : v = .int .i32 t := by cases h1 with | lit _ => rfl
      subst e0; subst e1
      split at hp
      · rename_i hc
        cases hp
        refine (Tryz.strings_ContainsRune_ascii s t w hc.1 hc.2).mono ?_
        rintro e w' ⟨rfl, rfl⟩
        exact ⟨_, I, rfl, .lit rfl, Nat.le_refl _, fun _ _ => rfl, rfl, rfl, rfl, fun _ _ h => .inl h⟩
      · cases hp
  · cases hp

end Go.Proofs.YtomjidlkaocmkaaGreat
