/-
  Library functions by their contracts: strings.Join, strings.IndexAny, strings.ContainsRune (texts of ASCII), strconv.Atoi (texts of 18 bytes at most), strconv.Itoa.
-/
import Derived.Test.YtkkjoomlfmofbaaGreatDoorAmO
import Derived.Test.YtkkjoomlfmofbaaGreatDoorAmX
import Derived.Test.YtkkjoomlfmofbaaGreatDoorAmP
import Derived.Lib.SmallJoins
import Derived.Test.YtkkjoomlfmofbaaGreatDoorG111
import Derived.Test.YtkkjoomlfmofbaaGreatDoorShelf
set_option linter.unusedSimpArgs false
set_option linter.unusedVariables false
set_option linter.unusedSectionVars false
namespace Go.Proofs.YtkkjoomlfmofbaaGreatDoor
open Go.Am

def ascB (l : List UInt8) : Bool := l.all fun b => decide (b.toNat < 128)

def anyPrim : List AV → Option AV
  | [.lit (.string s), .lit (.string t)] => if s.data.toList.length < 4294967281 ∧ t.data.toList.length < 4294967281 ∧ ascB s.data.toList = true ∧ ascB t.data.toList = true then some (.lit (.int .i64 (Lib.indexAny s.data.toList t.data.toList))) else none
  | _ => none

theorem any_prim [Nu] {T : Tr} : PrimOk Tryz.prog T 352 anyPrim := by
  intro args r hp I w vs _ hlen hv hI
  unfold anyPrim at hp
  split at hp
  · rename_i s t
    obtain ⟨l⟩ := vs
    match l, hlen, hv with
    | [u, v], _, hv =>
      have h0 := hv 0 _ _ rfl rfl
      have h1 := hv 1 _ _ rfl rfl
      have e0 : u = .string s := by cases h0 with | lit _ => rfl
      have e1 : v = .string t := by cases h1 with | lit _ => rfl
      subst e0; subst e1
      split at hp
      · rename_i hc
        cases hp
        obtain ⟨c1, c2, c3, c4⟩ := hc
        have asc_of : ∀ {l : List UInt8}, ascB l = true → ∀ (j : Nat) b, l[j]? = some b → b.toNat < 128 := fun h j b hj => of_decide_eq_true (List.all_eq_true.1 h b (List.mem_of_getElem? hj))
        refine (Tryz.strings_IndexAny_laid s t w (by rw [← ByteArray.size_data, ← Array.length_toList]; exact c1) (by rw [← ByteArray.size_data, ← Array.length_toList]; exact c2) (asc_of c3) (asc_of c4)).mono ?_
        rintro e w' ⟨rfl, hB⟩
        exact ⟨_, I, rfl, .lit rfl, hB.size, hB.block, hB.os, hB.tape, hB.output, fun _ _ h => .inl h⟩
      · cases hp
  · cases hp

def runePrim : List AV → Option AV
  | [.lit (.string s), .lit (.int .i32 r)] => if 0 ≤ r ∧ r < 128 then some (.lit (.bool (decide (0 ≤ Lib.indexByte s.data.toList r.toNat.toUInt8)))) else none
  | _ => none

theorem rune_prim [Nu] {T : Tr} : PrimOk Tryz.prog T 451 runePrim := by
  intro args r hp I w vs _ hlen hv hI
  unfold runePrim at hp
  split at hp
  · rename_i s t
    obtain ⟨l⟩ := vs
    match l, hlen, hv with
    | [u, v], _, hv =>
      have h0 := hv 0 _ _ rfl rfl
      have h1 := hv 1 _ _ rfl rfl
      have e0 : u = .string s := by cases h0 with | lit _ => rfl
      have e1 : v = .int .i32 t := by cases h1 with | lit _ => rfl
      subst e0; subst e1
      split at hp
      · rename_i hc
        cases hp
        refine (Tryz.strings_ContainsRune_ascii s t w hc.1 hc.2).mono ?_
        rintro e w' ⟨rfl, rfl⟩
        exact ⟨_, I, rfl, .lit rfl, Nat.le_refl _, fun _ _ => rfl, rfl, rfl, rfl, fun _ _ h => .inl h⟩
      · cases hp
  · cases hp

theorem join_prim [Nu] {T : Tr} : PrimOk Tryz.prog T 243 joinPrim := join_ok (fun a c sep w => Tryz.strings_Join_none a c sep w) (fun bk o c xs sep w h1 h2 h3 h4 h5 => Tryz.strings_Join bk o c xs sep w h1 h2 h3 h4 h5)

theorem gPow : Tryz.prog.globalNamed "internal/strconv.uint64pow10" = some 6 := by kernel_rfl

theorem itoa_prim [Nu] : PrimOk Tryz.prog gl 350 itoaPrim := itoa_ok gl_pow gPow fun n h0 h1 w ht => Tryz.strconv_Itoa n h0 h1 w ht

def atoiPrim : List AV → Option AV
  | [.lit (.string s)] => if s.data.toList.length ≤ 18 then match Lib.atoi s.data.toList with
    | some n => some (.tup [.lit (.int .i64 n), .lit .nilIface])
    | none => some (.tup [.lit (.int .i64 0), .iface 611 .junk])
    else none
  | _ => none

theorem atoi_prim [Nu] : PrimOk Tryz.prog gl 349 atoiPrim := by
  intro args r hp I w vs hgl hlen hv hI
  unfold atoiPrim at hp
  split at hp
  · rename_i s
    obtain ⟨l⟩ := vs
    match l, hlen, hv with
    | [u], _, hv =>
      have h0 := hv 0 _ _ rfl rfl
      have e0 : u = .string s := by cases h0 with | lit _ => rfl
      subst e0
      split at hp
      · rename_i hc
        have hs : s.size ≤ 18 := hc
        split at hp
        · rename_i n hn
          cases hp
          refine (Tryz.strconv_Atoi s n hs hn w).mono ?_
          rintro e w' ⟨rfl, t, rfl⟩
          have hB := Go.Joins.below_bytesWorld w.heap.size w 5 t (Nat.le_refl _)
          refine ⟨_, I, rfl, .tup (vs := #[.int .i64 n, .nilIface]) rfl (fun i c v hc hv => ?_), hB.size, hB.block, hB.os, hB.tape, hB.output, fun _ _ h => .inl h⟩
          match i, hc, hv with
          | 0, hc, hv => cases hc; cases hv; exact .lit rfl
          | 1, hc, hv => cases hc; cases hv; exact .lit rfl
          | i + 2, hc, hv => simp at hc
        · rename_i hn
          cases hp
          have hg := hgl.v 4
          rw [show gl.get (4294967297 + 4) = .iptr (.agg [.iface 652 .junk]) 0 from gl_err] at hg
          simp only [globOf] at hg
          have hcell : ∃ ev, w.cell? ⟨4, 0, none⟩ = some (.iface 652 ev) := by
            generalize hpp : Value.pointer (some ⟨4, 0, none⟩) = p at hg
            cases hg with
            | @iptr _ _ b o uu ha hok hrel =>
              simp only [Value.pointer.injEq, Option.some.injEq, Addr.mk.injEq] at hpp
              obtain ⟨rfl, ho, _⟩ := hpp
              have ho : o = 0 := by omega
              subst ho
              have h1 := (ha 0 (by simp [cellsOf])).2
              have h2 : VD I w (.iface 652 .junk) (uu 0) := hrel 0 _ rfl
              generalize uu 0 = z at h1 h2
              cases h2 with
              | iface _ => exact ⟨_, h1⟩
          obtain ⟨ev, hev⟩ := hcell
          refine (Tryz.strconv_Atoi_err s hs hn _ w hev (.inr ⟨_, _, rfl⟩)).mono ?_
          rintro e w' ⟨N, rfl, _, _, hB⟩
          refine ⟨_, I, rfl, .tup (vs := #[.int .i64 0, .iface 611 (.pointer (some ⟨N, 0, none⟩))]) rfl (fun i c v hc hv => ?_), hB.size, hB.block, hB.os, hB.tape, hB.output, fun _ _ h => .inl h⟩
          match i, hc, hv with
          | 0, hc, hv => cases hc; cases hv; exact .lit rfl
          | 1, hc, hv => cases hc; cases hv; exact .iface .junk
          | i + 2, hc, hv => simp at hc
      · cases hp
  · cases hp

end Go.Proofs.YtkkjoomlfmofbaaGreatDoor
