import Derived.Test.YtcajleckiegffaaLx4
import Derived.Test.YtcajleckiegffaaRows
import Derived.WalkKit
import Derived.ProofKit
import Derived.OpenShut
import Derived.ChangeMaps5
namespace Go.Proofs.Ytcajleckiegffaa
set_option linter.unusedSimpArgs false
set_option linter.unusedVariables false
open Go.Am
set_option maxRecDepth 100000

/-! ### chapter 3's runs, by the machine itself -/

noncomputable def kenv : Env where
  P := Try.prog
  prim := fun _ => none
  how := fun _ => .alone
  reg := regA Try.prog
  gl := gl

theorem kenv_ok : EnvOk kenv where
  names := namesOk
  reg := fun _ h => regA_ok namesOk mixedOrders h
  prim := fun f p h => by cases h
  low := lowOk

theorem known_ran : isR (acall kenv 100 11 [] []) (.lit (.bool true)) = true := by kernel_rfl

noncomputable def knownP : List AV → Option AV := tableP [([], .lit (.bool true))]

theorem known_prim : PrimOk Try.prog gl 11 knownP := table_ok kenv_ok (n := 100) (f := 11) fun x hx => by
  rcases List.mem_singleton.1 hx with rfl
  exact isR_spec known_ran

/-! ### The table of functions -/

noncomputable def senv : SEnv where
  P := Try.prog
  prim := tabP [(11, knownP)]
  fns := tabF [(3, .alone, N3), (4, .alone, N4), (10, .alone, N10), (20, .alone, N20), (21, .alone, N21), (28, .alone, N28)]
  gl := gl

theorem senv_ok : SEnvOk senv where
  prim := tabP_ok ⟨known_prim, trivial⟩
  fns := tabF_ok ⟨N3_ok, N4_ok, N10_ok, N20_ok, N21_ok, N28_ok, trivial⟩

def hexC : AV := .lit (.string ⟨⟨[48, 49, 50, 51, 52, 53, 54, 55, 56, 57, 97, 98, 99, 100, 101, 102]⟩⟩)
def spC : AV := .lit (.string ⟨⟨[9, 10, 13, 32, 59, 40, 41, 34]⟩⟩)
def hexN (n : Nat) : Int := if 48 ≤ n ∧ n ≤ 57 then n - 48 else if 97 ≤ n ∧ n ≤ 102 then n - 87 else -1
def spN (n : Nat) : Bool := n = 9 || n = 10 || n = 13 || n = 32 || n = 59 || n = 40 || n = 41 || n = 34

theorem hex_all : ((List.range 256).all fun n => match litCall Try.prog [hexC, .lit (.int .u8 n)] 34 with
    | some (.lit (.int .i64 z)) => z == hexN n
    | _ => false) = true := by kernel_rfl
theorem sp_all : ((List.range 256).all fun n => match litCall Try.prog [spC, .lit (.int .u8 n)] 34 with
    | some (.lit (.int .i64 z)) => decide (0 ≤ z) == spN n
    | _ => false) = true := by kernel_rfl

theorem hex_lit (c : UInt8) : litCall Try.prog [hexC, .lit (.int .u8 c.toNat)] 34 = some (.lit (.int .i64 (hexD c))) := by
  have := List.all_eq_true.1 hex_all c.toNat (List.mem_range.2 c.toNat_lt)
  split at this
  · rename_i z hz
    rw [hz, eq_of_beq this]; rfl
  · cases this

theorem sp_lit (c : UInt8) : ∃ n, litCall Try.prog [spC, .lit (.int .u8 c.toNat)] 34 = some (.lit (.int .i64 n)) ∧ (0 ≤ n ↔ special c = true) := by
  have := List.all_eq_true.1 sp_all c.toNat (List.mem_range.2 c.toNat_lt)
  split at this
  · rename_i z hz
    refine ⟨z, hz, ?_⟩
    have e := eq_of_beq this
    have : special c = spN c.toNat := by simp [special, spc, spN]
    rw [this, ← e]; simp
  · cases this

theorem call28 (n : Nat) (x y r : AV) (h : Heap) (hx : snaps h [x, y] = some ([x, y], [])) (hl : litCall Try.prog [x, y] 34 = some r) (hr : ∃ ids, snapR [] r = some (r, ids)) : scall senv (n + 1) 28 [x, y] h = some (r, h) :=
  alone_call (E := senv) (f := 28) (F := N28) rfl rfl hx (r0 := r) (hc := []) (by simp only [N28, F28, hl, opt_s]) hr

theorem call21 (n : Nat) (x y r : AV) (h : Heap) (hx : ∀ h, snaps h [x, y] = some ([x, y], [])) (hl : litCall Try.prog [x, y] 34 = some r) (hr : ∃ ids, snapR [] r = some (r, ids)) : scall senv (n + 2) 21 [x, y] h = some (r, h) :=
  alone_call (E := senv) (f := 21) (F := N21) rfl rfl (hx h) (r0 := r) (hc := []) (by simp only [N21, F21, call28 n x y r [] (hx _) hl hr, opt2_s]) hr

theorem lexCall (n : Nat) : LexCall (scall senv (n + 3)) where
  hex := fun c h => call21 (n + 1) hexC _ _ h (fun _ => rfl) (hex_lit c) ⟨[], rfl⟩
  sp := fun c h => by
    obtain ⟨z, h1, h2⟩ := sp_lit c
    exact ⟨z, call21 (n + 1) spC _ _ h (fun _ => rfl) h1 ⟨[], rfl⟩, h2⟩
  esc := fun l h => alone_call (E := senv) (f := 20) (F := N20) rfl rfl rfl (hc := []) (esc_ok _ (fun c h => call21 n hexC _ _ h (fun _ => rfl) (hex_lit c) ⟨[], rfl⟩) l []) ⟨[], rfl⟩

theorem tok_free (l : List Tok) : (l.map tokAV).all free1 = true := by
  rw [List.all_eq_true]
  intro x hx
  obtain ⟨t, _, rfl⟩ := List.mem_map.1 hx
  rfl

theorem splitCall (n : Nat) : SplitCall (scall senv (n + 4)) where
  split := fun s h => by
    obtain ⟨v, hc, o, h1, h2⟩ := F10_ok (lexCall n) s []
    obtain ⟨u, ids, h3, h4⟩ := SliceV.of h2 (tok_free _)
    refine ⟨u, alone_call (E := senv) (f := 10) (F := N10) rfl rfl rfl h1 ⟨ids, ?_⟩, h4⟩
    simp only [snapR, snaps, h3, snap1_lit, List.append_nil, Option.map_some]
  known := fun h => prim_call (E := senv) (f := 11) (p := knownP) rfl rfl rfl

theorem places_ran (s : ByteArray) : scall senv 6 3 [.lit (.string s)] [] = some (.lit (.bool true), []) := by
  obtain ⟨⟨l⟩⟩ := s
  obtain ⟨h', h1⟩ := F3_ok (splitCall 1) l []
  exact alone_call (E := senv) (f := 3) (F := N3) rfl rfl rfl h1 ⟨[], rfl⟩
end Go.Proofs.Ytcajleckiegffaa
