import Derived.Test.YtcajleckiegffaaTr8
import Derived.Test.YtcajleckiegffaaAmN
import Derived.Test.YtcajleckiegffaaShelf
namespace Go.Proofs.Ytcajleckiegffaa
set_option linter.unusedSimpArgs false
set_option linter.unusedVariables false
open Go.Am
set_option maxRecDepth 100000

/-! ### chapter 4's runs, by the machine itself -/

noncomputable def kenv4 : Env where
  P := Try.prog
  prim := fun f => bif Nat.beq f 24 then some joinPrim else none
  how := fun _ => .alone
  reg := regA Try.prog
  gl := gl

theorem kenv4_ok : EnvOk kenv4 where
  names := namesOk
  reg := fun _ h => regA_ok namesOk mixedOrders h
  prim := fun f p h => by
    simp only [kenv4] at h
    cases hb : Nat.beq f 24 with
    | false => rw [hb] at h; cases h
    | true =>
      rw [hb] at h
      cases h
      have := Nat.eq_of_beq_eq_true hb
      subst this
      exact join_ok Try.strings_Join_none Try.strings_Join
  low := lowOk

set_option maxRecDepth 100000 in
theorem known4_ran : isR (acall kenv4 100 14 [] []) (.lit (.bool true)) = true := by kernel_rfl

theorem known4_prim : PrimOk Try.prog gl 14 knownP := table_ok kenv4_ok (n := 100) (f := 14) fun x hx => by
  rcases List.mem_singleton.1 hx with rfl
  exact isR_spec known4_ran

/-! ### Contracts over any table that holds these functions -/

structure HasLex (E : SEnv) : Prop where
  p10 : E.prim 10 = none
  p11 : E.prim 11 = some knownP
  p20 : E.prim 20 = none
  p21 : E.prim 21 = none
  p28 : E.prim 28 = none
  f10 : E.fns 10 = some (.alone, N10)
  f20 : E.fns 20 = some (.alone, N20)
  f21 : E.fns 21 = some (.alone, N21)
  f28 : E.fns 28 = some (.alone, N28)

theorem HasLex.call28 {E : SEnv} (H : HasLex E) (n : Nat) (x y r : AV) (h : Heap) (hx : snaps h [x, y] = some ([x, y], [])) (hl : litCall Try.prog [x, y] 34 = some r) (hr : ∃ ids, snapR [] r = some (r, ids)) : scall E (n + 1) 28 [x, y] h = some (r, h) :=
  alone_call H.p28 H.f28 hx (r0 := r) (hc := []) (by simp only [N28, F28, hl, opt_s]) hr

theorem HasLex.call21 {E : SEnv} (H : HasLex E) (n : Nat) (x y r : AV) (h : Heap) (hx : ∀ h, snaps h [x, y] = some ([x, y], [])) (hl : litCall Try.prog [x, y] 34 = some r) (hr : ∃ ids, snapR [] r = some (r, ids)) : scall E (n + 2) 21 [x, y] h = some (r, h) :=
  alone_call H.p21 H.f21 (hx h) (r0 := r) (hc := []) (by simp only [N21, F21, H.call28 n x y r [] (hx _) hl hr, opt2_s]) hr

theorem HasLex.lex {E : SEnv} (H : HasLex E) (n : Nat) : LexCall (scall E (n + 3)) where
  hex := fun c h => H.call21 (n + 1) hexC _ _ h (fun _ => rfl) (hex_lit c) ⟨[], rfl⟩
  sp := fun c h => by
    obtain ⟨z, h1, h2⟩ := sp_lit c
    exact ⟨z, H.call21 (n + 1) spC _ _ h (fun _ => rfl) h1 ⟨[], rfl⟩, h2⟩
  esc := fun l h => alone_call H.p20 H.f20 rfl (hc := []) (esc_ok _ (fun c h => H.call21 n hexC _ _ h (fun _ => rfl) (hex_lit c) ⟨[], rfl⟩) l []) ⟨[], rfl⟩

theorem HasLex.split {E : SEnv} (H : HasLex E) (n : Nat) : SplitCall (scall E (n + 4)) where
  split := fun s h => by
    obtain ⟨v, hc, o, h1, h2⟩ := F10_ok (H.lex n) s []
    obtain ⟨u, ids, h3, h4⟩ := SliceV.of h2 (tok_free _)
    refine ⟨u, alone_call H.p10 H.f10 rfl h1 ⟨ids, ?_⟩, h4⟩
    simp only [snapR, snaps, h3, snap1_lit, List.append_nil, Option.map_some]
  known := fun h => prim_call (p := knownP) H.p11 rfl rfl

structure HasParse (E : SEnv) : Prop extends HasLex E where
  p12 : E.prim 12 = none
  f12 : E.fns 12 = some (.alone, N12)

theorem HasParse.parse {E : SEnv} (H : HasParse E) (n : Nat) : ParseCall (scall E (n + 5)) where
  parse := fun s h => by
    obtain ⟨v, hc, h1, h2⟩ := F12_ok (H.toHasLex.split n) s []
    refine ⟨v, alone_call H.p12 H.f12 rfl h1 ⟨[], ?_⟩, h2⟩
    simp only [snapR, snaps, h2.snap, snap1_lit, List.append_nil, Option.map_some]

end Go.Proofs.Ytcajleckiegffaa
