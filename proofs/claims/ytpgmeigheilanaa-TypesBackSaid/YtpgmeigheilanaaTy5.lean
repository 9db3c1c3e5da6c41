import Derived.Test.YtpgmeigheilanaaTy4
import Derived.Test.YtpgmeigheilanaaAmO
import Derived.Test.YtpgmeigheilanaaShelf
namespace Go.Proofs.Ytpgmeigheilanaa
set_option linter.unusedSimpArgs false
set_option linter.unusedVariables false
open Go.Am
set_option maxRecDepth 100000

/-! ### the machine itself, and what it answers once and for all -/

noncomputable def kenv : Env where
  P := Try.prog
  prim := fun f => bif Nat.beq f 21 then some joinPrim else none
  how := fun _ => .alone
  reg := regA Try.prog
  gl := gl

theorem kenv_ok : EnvOk kenv where
  names := namesOk
  reg := fun _ h => regA_ok namesOk mixedOrders h
  prim := fun f p h => by
    simp only [kenv] at h
    cases hb : Nat.beq f 21 with
    | false => rw [hb] at h; cases h
    | true =>
      rw [hb] at h
      cases h
      have := Nat.eq_of_beq_eq_true hb
      subst this
      exact join_ok Try.strings_Join_none Try.strings_Join
  low := lowOk

def knownP : List AV → Option AV := tableP [([], .lit (.bool true))]

theorem known_ran : isR (acall kenv 100 10 [] []) (.lit (.bool true)) = true := by kernel_rfl

theorem known_prim : PrimOk Try.prog gl 10 knownP := table_ok kenv_ok (n := 100) (f := 10) fun x hx => by
  rcases List.mem_singleton.1 hx with rfl
  exact isR_spec known_ran

def namedA (a b : List UInt8) (ok : Bool) : AV := .tup [sv a, sv b, .lit (.bool ok)]

def namedT : List (List AV × AV) := [([sv [110, 117, 109]], namedA [] [] false), ([sv [98, 121, 116, 101, 115]], namedA [] [] false), ([sv [109, 46, 84]], namedA [109] [84] true), ([sv [97, 46, 66]], namedA [97] [66] true), ([sv [120, 95, 49, 46, 89]], namedA [120, 95, 49] [89] true)]

theorem named0 : isR (acall kenv 100 31 [sv [110, 117, 109]] []) (namedA [] [] false) = true := by kernel_rfl
theorem named1 : isR (acall kenv 100 31 [sv [98, 121, 116, 101, 115]] []) (namedA [] [] false) = true := by kernel_rfl
theorem named2 : isR (acall kenv 100 31 [sv [109, 46, 84]] []) (namedA [109] [84] true) = true := by kernel_rfl
theorem named3 : isR (acall kenv 100 31 [sv [97, 46, 66]] []) (namedA [97] [66] true) = true := by kernel_rfl
theorem named4 : isR (acall kenv 100 31 [sv [120, 95, 49, 46, 89]] []) (namedA [120, 95, 49] [89] true) = true := by kernel_rfl

theorem named_prim : PrimOk Try.prog gl 31 (tableP namedT) := table_ok kenv_ok (n := 100) (f := 31) fun x hx => by
  simp only [namedT, List.mem_cons, List.not_mem_nil, or_false] at hx
  rcases hx with rfl | rfl | rfl | rfl | rfl
  · exact isR_spec named0
  · exact isR_spec named1
  · exact isR_spec named2
  · exact isR_spec named3
  · exact isR_spec named4

def ascB (l : List UInt8) : Bool := l.all fun b => decide (b.toNat < 128)

def anyPrim : List AV → Option AV
  | [.lit (.string s), .lit (.string t)] => if s.data.toList.length < 4294967281 ∧ t.data.toList.length < 4294967281 ∧ ascB s.data.toList = true ∧ ascB t.data.toList = true then some (.lit (.int .i64 (Lib.indexAny s.data.toList t.data.toList))) else none
  | _ => none

theorem any_prim : PrimOk Try.prog gl 40 anyPrim := by
  intro args r hp I w vs _ hlen hv hI
  unfold anyPrim at hp
  split at hp
  · rename_i s t
    obtain ⟨l⟩ := vs
    match l, hlen, hv with
    | [u, v], _, hv =>
      have h0 := hv 0 _ _ rfl rfl
      have h1 := hv 1 _ _ rfl rfl
      have e0 : u = .string s := by cases h0 with | lit _ => rfl
      have e1 : v = .string t := by cases h1 with | lit _ => rfl
      subst e0; subst e1
      split at hp
      · rename_i hc
        cases hp
        obtain ⟨c1, c2, c3, c4⟩ := hc
        have asc_of : ∀ {l : List UInt8}, ascB l = true → ∀ (j : Nat) b, l[j]? = some b → b.toNat < 128 := fun h j b hj => of_decide_eq_true (List.all_eq_true.1 h b (List.mem_of_getElem? hj))
        refine (Try.strings_IndexAny_laid s t w (by rw [← ByteArray.size_data, ← Array.length_toList]; exact c1) (by rw [← ByteArray.size_data, ← Array.length_toList]; exact c2) (asc_of c3) (asc_of c4)).mono ?_
        rintro e w' ⟨rfl, hB⟩
        exact ⟨_, I, rfl, .lit rfl, hB.size, hB.block, hB.os, hB.tape, hB.output, fun _ _ h => .inl h⟩
      · cases hp
  · cases hp

/-! ### Contracts over any table that holds these functions -/

structure HasTypes (E : SEnv) : Prop where
  p10 : E.prim 10 = some knownP
  p21 : E.prim 21 = some joinPrim
  p31 : E.prim 31 = some (tableP namedT)
  p40 : E.prim 40 = some anyPrim
  p8 : E.prim 8 = none
  p9 : E.prim 9 = none
  p11 : E.prim 11 = none
  p12 : E.prim 12 = none
  p13 : E.prim 13 = none
  p14 : E.prim 14 = none
  p15 : E.prim 15 = none
  p22 : E.prim 22 = none
  p23 : E.prim 23 = none
  p24 : E.prim 24 = none
  p33 : E.prim 33 = none
  p39 : E.prim 39 = none
  p52 : E.prim 52 = none
  f8 : E.fns 8 = some (.alone, N8)
  f9 : E.fns 9 = some (.alone, N9)
  f11 : E.fns 11 = some (.alone, N11)
  f12 : E.fns 12 = some (.alone, N12)
  f13 : E.fns 13 = some (.alone, N13)
  f14 : E.fns 14 = some (.alone, N14)
  f15 : E.fns 15 = some (.alone, N15)
  f22 : E.fns 22 = some (.alone, N22)
  f23 : E.fns 23 = some (.alone, N23)
  f24 : E.fns 24 = some (.alone, N24)
  f33 : E.fns 33 = some (.alone, N33)
  f39 : E.fns 39 = some (.alone, N39)
  f52 : E.fns 52 = some (.alone, N52)

theorem asc_B {l : List UInt8} (h : asc l) : ascB l = true := List.all_eq_true.2 fun b hb => decide_eq_true (h b hb)

theorem cut_to {l : List UInt8} {k : IntKind} {b : Int} (h0 : 0 ≤ b) (h2 : b ≤ l.length) :
    fastCut (.lit (.string ⟨⟨l⟩⟩)) none (some (.lit (.int k b))) none = some (.lit (.string ⟨⟨l.take b.toNat⟩⟩)) := by
  simp only [fastCut, bound, intLit, h0, if_true]
  rw [if_pos ⟨by omega, by show b.toNat ≤ l.length; omega⟩]
  simp

theorem HasTypes.leaf {E : SEnv} (H : HasTypes E) (n : Nat) : LeafCall (scall E (n + 2)) where
  named := fun k h => by
    have key : ∀ w a b ok, tableP namedT [sv w] = some (namedA a b ok) → scall E (n + 2) 31 [sv w] h = some (.tup [sv a, sv b, .lit (.bool ok)], h) := fun w a b ok hw => prim_call (p := tableP namedT) H.p31 rfl hw
    match k with
    | 0 => exact ⟨_, _, key _ _ _ _ rfl⟩
    | 1 => exact ⟨_, _, key _ _ _ _ rfl⟩
    | 2 => exact ⟨_, _, key _ _ _ _ rfl⟩
    | 3 => exact ⟨_, _, key _ _ _ _ rfl⟩
    | k + 4 =>
      have e : atomY (k + 4) = [120, 95, 49, 46, 89] := by simp [atomY]
      have e2 : decide (2 ≤ k + 4) = true := decide_eq_true (by omega)
      rw [e, e2]
      exact ⟨_, _, key _ _ _ _ rfl⟩
  plain := fun k h => by
    refine alone_call H.p33 H.f33 rfl (hc := []) (r0 := .lit (.bool (decide (k < 2)))) ?_ ⟨[], rfl⟩
    simp only [N33, F33, fb_eqls, opt_s, test_b, decide_eq_true_eq]
    match k with
    | 0 => rfl
    | 1 => rfl
    | 2 => rfl
    | 3 => rfl
    | k + 4 =>
      have e : atomY (k + 4) = [120, 95, 49, 46, 89] := by simp [atomY]
      have e2 : decide (k + 4 < 2) = false := decide_eq_false (by omega)
      rw [e, e2]
      rfl
  any := fun s h hl ha => prim_call (p := anyPrim) H.p40 rfl (if_pos ⟨hl, by decide, asc_B ha, by decide⟩)
  pre := fun s h hl => by
    have c52 : scall E (n + 1) 52 [sv s, sv [40, 41]] [] = some (.lit (.bool (decide (s.take 2 = [40, 41]))), []) := by
      refine alone_call H.p52 H.f52 rfl (hc := []) (r0 := .lit (.bool (decide (s.take 2 = [40, 41])))) ?_ ⟨[], rfl⟩
      simp only [N52, F52, lenStr_s, opt_s, fb_geq, test_b, decide_eq_true_eq]
      by_cases h2 : 2 ≤ s.length
      · rw [if_pos (by simp only [List.length_cons, List.length_nil]; omega), cut_to (by omega) (by simp only [List.length_cons, List.length_nil]; omega)]
        simp only [opt_s, fb_eqls]
        rfl
      · rw [if_neg (by simp only [List.length_cons, List.length_nil]; omega)]
        have : ¬ s.take 2 = [40, 41] := fun e => h2 (by
          have := congrArg List.length e
          rw [List.length_take] at this
          simp only [List.length_cons, List.length_nil] at this
          omega)
        rw [decide_eq_false this]
    refine alone_call (n := n + 1) H.p39 H.f39 rfl (hc := []) (r0 := .lit (.bool (decide (s.take 2 = [40, 41])))) ?_ ⟨[], rfl⟩
    simp only [N39, F39, c52, opt2_s]

theorem rowS_free (ps : List Y) : (rowS ps).all free1 = true := by
  rw [List.all_eq_true]
  intro x hx
  obtain ⟨t, _, rfl⟩ := List.mem_map.1 hx
  rfl

theorem HasTypes.both {E : SEnv} (H : HasTypes E) : ∀ N m, 2 * N ≤ m → FirstCall (scall E (m + 2)) N ∧ ParamsCall (scall E (m + 3)) N := by
  have par : ∀ N m, FirstCall (scall E (m + 2)) N → ParamsCall (scall E (m + 3)) N := by
    intro N m F ps rest h h6 hg hN ha hl
    obtain ⟨v, K, o, r1, r2, r3⟩ := F22_ok (H.leaf m) F ps rest [] h6 hg hN ha hl
    obtain ⟨ids, hs⟩ := r2.snap (rowS_free ps)
    have ef : Go.Am.frozen 1 (rowS ps) o = rowP ps := by
      unfold rowP
      cases o with
      | none => rw [if_pos (r3.1 rfl)]; rfl
      | some id => rw [if_neg (fun e => by have := r3.2 e; cases this)]; rfl
    rw [ef] at hs
    refine alone_call (n := m + 2) H.p22 H.f22 rfl (r0 := .tup [v, iv (((joinY ps).length + 2 : Nat) : Int)]) r1 ⟨ids, ?_⟩
    simp only [snapR, snaps, hs, snap1_lit, Option.map_some, List.append_nil]
  intro N
  induction N with
  | zero =>
    intro m _
    have f0 : FirstCall (scall E (m + 2)) 0 := fun t rest h _ hN => by have := text_pos t; omega
    exact ⟨f0, par 0 m f0⟩
  | succ N ih =>
    intro m hm
    obtain ⟨m, rfl⟩ : ∃ q, m = q + 2 := ⟨m - 2, by omega⟩
    have f1 : FirstCall (scall E (m + 2 + 2)) (N + 1) := by
      intro t rest h hg hN he ha hl
      have b1 := (ih (m + 1) (by omega)).1
      have b2 := (ih m (by omega)).2
      exact alone_call (n := m + 3) H.p24 H.f24 rfl (hc := []) (F24_ok (H.leaf (m + 1)) b1 b2 t rest [] hg hN he ha hl) ⟨[], rfl⟩
    exact ⟨f1, par (N + 1) (m + 2) f1⟩

end Go.Proofs.Ytpgmeigheilanaa
