import Derived.Test.YtkkjoomlfmofbaaGreatDoorAmX
import Derived.Test.YtkkjoomlfmofbaaGreatDoorAmO
set_option linter.unusedSimpArgs false
set_option linter.unusedVariables false
set_option linter.unusedSectionVars false
/-! Short words for texts that are only run. -/
namespace Go.Am
@[reducible] def CF := CallF
@[reducible] def iL (n : Int) : AV := .lit (.int .i64 n)
@[reducible] def uL (n : Int) : AV := .lit (.int .u8 n)
@[reducible] def sL (l : List UInt8) : AV := .lit (.string ⟨⟨l⟩⟩)
@[reducible] def eL : AV := .lit (.string ⟨⟨[]⟩⟩)
@[reducible] def tL : AV := .lit (.bool true)
@[reducible] def fL : AV := .lit (.bool false)
@[reducible] def dL : AV := .lit undef
@[reducible] def nL : AV := .lit (.slice none 0 0)
@[reducible] def cL : AV := .lit (.complex .f64 0 0)
@[reducible] def pL : AV := .lit (.pointer none)
def gK : Kg := fun _ => stuckK
@[reducible] def _root_.Go.Code.s2 (c : Code) : Code := c.snd.snd
@[reducible] def _root_.Go.Code.s3 (c : Code) : Code := c.s2.snd
@[reducible] def _root_.Go.Code.s4 (c : Code) : Code := c.s3.snd
@[reducible] def _root_.Go.Code.s5 (c : Code) : Code := c.s4.snd
@[reducible] def _root_.Go.Code.s6 (c : Code) : Code := c.s5.snd
@[reducible] def _root_.Go.Code.s7 (c : Code) : Code := c.s6.snd
@[reducible] def _root_.Go.Code.s8 (c : Code) : Code := c.s7.snd
@[reducible] def _root_.Go.Code.s9 (c : Code) : Code := c.s8.snd
@[reducible] def A0 := Heap → Res
def L0 (f : A0) : Kt := fun _ h => f h
@[reducible] def A1 := AV → A0
def L1 (f : A1) (x0 : Nat) : Kt := fun s h => f (s.rd x0) h
@[reducible] def A2 := AV → A1
def L2 (f : A2) (x0 x1 : Nat) : Kt := fun s h => f (s.rd x0) (s.rd x1) h
@[reducible] def A3 := AV → A2
def L3 (f : A3) (x0 x1 x2 : Nat) : Kt := fun s h => f (s.rd x0) (s.rd x1) (s.rd x2) h
@[reducible] def A4 := AV → A3
def L4 (f : A4) (x0 x1 x2 x3 : Nat) : Kt := fun s h => f (s.rd x0) (s.rd x1) (s.rd x2) (s.rd x3) h
@[reducible] def A5 := AV → A4
def L5 (f : A5) (x0 x1 x2 x3 x4 : Nat) : Kt := fun s h => f (s.rd x0) (s.rd x1) (s.rd x2) (s.rd x3) (s.rd x4) h
@[reducible] def A6 := AV → A5
def L6 (f : A6) (x0 x1 x2 x3 x4 x5 : Nat) : Kt := fun s h => f (s.rd x0) (s.rd x1) (s.rd x2) (s.rd x3) (s.rd x4) (s.rd x5) h
@[reducible] def A7 := AV → A6
def L7 (f : A7) (x0 x1 x2 x3 x4 x5 x6 : Nat) : Kt := fun s h => f (s.rd x0) (s.rd x1) (s.rd x2) (s.rd x3) (s.rd x4) (s.rd x5) (s.rd x6) h
@[reducible] def A8 := AV → A7
def L8 (f : A8) (x0 x1 x2 x3 x4 x5 x6 x7 : Nat) : Kt := fun s h => f (s.rd x0) (s.rd x1) (s.rd x2) (s.rd x3) (s.rd x4) (s.rd x5) (s.rd x6) (s.rd x7) h
@[reducible] def A9 := AV → A8
def L9 (f : A9) (x0 x1 x2 x3 x4 x5 x6 x7 x8 : Nat) : Kt := fun s h => f (s.rd x0) (s.rd x1) (s.rd x2) (s.rd x3) (s.rd x4) (s.rd x5) (s.rd x6) (s.rd x7) (s.rd x8) h
@[reducible] def A10 := AV → A9
def L10 (f : A10) (x0 x1 x2 x3 x4 x5 x6 x7 x8 x9 : Nat) : Kt := fun s h => f (s.rd x0) (s.rd x1) (s.rd x2) (s.rd x3) (s.rd x4) (s.rd x5) (s.rd x6) (s.rd x7) (s.rd x8) (s.rd x9) h
@[reducible] def A11 := AV → A10
def L11 (f : A11) (x0 x1 x2 x3 x4 x5 x6 x7 x8 x9 x10 : Nat) : Kt := fun s h => f (s.rd x0) (s.rd x1) (s.rd x2) (s.rd x3) (s.rd x4) (s.rd x5) (s.rd x6) (s.rd x7) (s.rd x8) (s.rd x9) (s.rd x10) h
@[reducible] def A12 := AV → A11
def L12 (f : A12) (x0 x1 x2 x3 x4 x5 x6 x7 x8 x9 x10 x11 : Nat) : Kt := fun s h => f (s.rd x0) (s.rd x1) (s.rd x2) (s.rd x3) (s.rd x4) (s.rd x5) (s.rd x6) (s.rd x7) (s.rd x8) (s.rd x9) (s.rd x10) (s.rd x11) h
@[reducible] def A13 := AV → A12
def L13 (f : A13) (x0 x1 x2 x3 x4 x5 x6 x7 x8 x9 x10 x11 x12 : Nat) : Kt := fun s h => f (s.rd x0) (s.rd x1) (s.rd x2) (s.rd x3) (s.rd x4) (s.rd x5) (s.rd x6) (s.rd x7) (s.rd x8) (s.rd x9) (s.rd x10) (s.rd x11) (s.rd x12) h
@[reducible] def A14 := AV → A13
def L14 (f : A14) (x0 x1 x2 x3 x4 x5 x6 x7 x8 x9 x10 x11 x12 x13 : Nat) : Kt := fun s h => f (s.rd x0) (s.rd x1) (s.rd x2) (s.rd x3) (s.rd x4) (s.rd x5) (s.rd x6) (s.rd x7) (s.rd x8) (s.rd x9) (s.rd x10) (s.rd x11) (s.rd x12) (s.rd x13) h
@[reducible] def A15 := AV → A14
def L15 (f : A15) (x0 x1 x2 x3 x4 x5 x6 x7 x8 x9 x10 x11 x12 x13 x14 : Nat) : Kt := fun s h => f (s.rd x0) (s.rd x1) (s.rd x2) (s.rd x3) (s.rd x4) (s.rd x5) (s.rd x6) (s.rd x7) (s.rd x8) (s.rd x9) (s.rd x10) (s.rd x11) (s.rd x12) (s.rd x13) (s.rd x14) h
@[reducible] def A16 := AV → A15
def L16 (f : A16) (x0 x1 x2 x3 x4 x5 x6 x7 x8 x9 x10 x11 x12 x13 x14 x15 : Nat) : Kt := fun s h => f (s.rd x0) (s.rd x1) (s.rd x2) (s.rd x3) (s.rd x4) (s.rd x5) (s.rd x6) (s.rd x7) (s.rd x8) (s.rd x9) (s.rd x10) (s.rd x11) (s.rd x12) (s.rd x13) (s.rd x14) (s.rd x15) h
@[reducible] def A17 := AV → A16
def L17 (f : A17) (x0 x1 x2 x3 x4 x5 x6 x7 x8 x9 x10 x11 x12 x13 x14 x15 x16 : Nat) : Kt := fun s h => f (s.rd x0) (s.rd x1) (s.rd x2) (s.rd x3) (s.rd x4) (s.rd x5) (s.rd x6) (s.rd x7) (s.rd x8) (s.rd x9) (s.rd x10) (s.rd x11) (s.rd x12) (s.rd x13) (s.rd x14) (s.rd x15) (s.rd x16) h
def n0 (F : CallF → A0) : FnF
  | c, [], h => F c h
  | _, _, _ => none
theorem n0_ok [Nu] {P : Program} {T : Tr} {D : List Nat} (hnm : NamesOk P) (hm : P.follows .mixedOrders = true) (hlow : ∀ i, i ≤ 4294967296 → T.get i = .lit undef) {f : FuncId} {fn : Func} {n : Nat} {F : CallF → A0} (hf : P.funcs[f]? = some fn) (hb : fn.body.isSome = true)
    (hn : max fn.ntmps 0 = n) (hle : Nat.ble n 4294967296 = true) (hT : ∀ (c : CallF) (h : Heap), (rk D P c n (codeOf fn)).1 (finK P fn.results.toList) [] (finK P fn.results.toList) gK (argsTr T 0 []) h = F c h) : FnOk P T f (n0 F) :=
  FnOk.of (D := D) hnm hm hlow hf hb fun call args h r hF => by
    unfold n0 at hF
    split at hF
    · rw [← hF, ← hT]; exact bodyK_at hn hle rfl rfl
    · cases hF
def n1 (F : CallF → A1) : FnF
  | c, [a0], h => F c a0 h
  | _, _, _ => none
theorem n1_ok [Nu] {P : Program} {T : Tr} {D : List Nat} (hnm : NamesOk P) (hm : P.follows .mixedOrders = true) (hlow : ∀ i, i ≤ 4294967296 → T.get i = .lit undef) {f : FuncId} {fn : Func} {n : Nat} {F : CallF → A1} (hf : P.funcs[f]? = some fn) (hb : fn.body.isSome = true)
    (hn : max fn.ntmps 1 = n) (hle : Nat.ble n 4294967296 = true) (hT : ∀ (c : CallF) (a0 : AV) (h : Heap), (rk D P c n (codeOf fn)).1 (finK P fn.results.toList) [] (finK P fn.results.toList) gK (argsTr T 0 [a0]) h = F c a0 h) : FnOk P T f (n1 F) :=
  FnOk.of (D := D) hnm hm hlow hf hb fun call args h r hF => by
    unfold n1 at hF
    split at hF
    · rw [← hF, ← hT]; exact bodyK_at hn hle rfl rfl
    · cases hF
def n2 (F : CallF → A2) : FnF
  | c, [a0, a1], h => F c a0 a1 h
  | _, _, _ => none
theorem n2_ok [Nu] {P : Program} {T : Tr} {D : List Nat} (hnm : NamesOk P) (hm : P.follows .mixedOrders = true) (hlow : ∀ i, i ≤ 4294967296 → T.get i = .lit undef) {f : FuncId} {fn : Func} {n : Nat} {F : CallF → A2} (hf : P.funcs[f]? = some fn) (hb : fn.body.isSome = true)
    (hn : max fn.ntmps 2 = n) (hle : Nat.ble n 4294967296 = true) (hT : ∀ (c : CallF) (a0 a1 : AV) (h : Heap), (rk D P c n (codeOf fn)).1 (finK P fn.results.toList) [] (finK P fn.results.toList) gK (argsTr T 0 [a0, a1]) h = F c a0 a1 h) : FnOk P T f (n2 F) :=
  FnOk.of (D := D) hnm hm hlow hf hb fun call args h r hF => by
    unfold n2 at hF
    split at hF
    · rw [← hF, ← hT]; exact bodyK_at hn hle rfl rfl
    · cases hF
def n3 (F : CallF → A3) : FnF
  | c, [a0, a1, a2], h => F c a0 a1 a2 h
  | _, _, _ => none
theorem n3_ok [Nu] {P : Program} {T : Tr} {D : List Nat} (hnm : NamesOk P) (hm : P.follows .mixedOrders = true) (hlow : ∀ i, i ≤ 4294967296 → T.get i = .lit undef) {f : FuncId} {fn : Func} {n : Nat} {F : CallF → A3} (hf : P.funcs[f]? = some fn) (hb : fn.body.isSome = true)
    (hn : max fn.ntmps 3 = n) (hle : Nat.ble n 4294967296 = true) (hT : ∀ (c : CallF) (a0 a1 a2 : AV) (h : Heap), (rk D P c n (codeOf fn)).1 (finK P fn.results.toList) [] (finK P fn.results.toList) gK (argsTr T 0 [a0, a1, a2]) h = F c a0 a1 a2 h) : FnOk P T f (n3 F) :=
  FnOk.of (D := D) hnm hm hlow hf hb fun call args h r hF => by
    unfold n3 at hF
    split at hF
    · rw [← hF, ← hT]; exact bodyK_at hn hle rfl rfl
    · cases hF
def n4 (F : CallF → A4) : FnF
  | c, [a0, a1, a2, a3], h => F c a0 a1 a2 a3 h
  | _, _, _ => none
theorem n4_ok [Nu] {P : Program} {T : Tr} {D : List Nat} (hnm : NamesOk P) (hm : P.follows .mixedOrders = true) (hlow : ∀ i, i ≤ 4294967296 → T.get i = .lit undef) {f : FuncId} {fn : Func} {n : Nat} {F : CallF → A4} (hf : P.funcs[f]? = some fn) (hb : fn.body.isSome = true)
    (hn : max fn.ntmps 4 = n) (hle : Nat.ble n 4294967296 = true) (hT : ∀ (c : CallF) (a0 a1 a2 a3 : AV) (h : Heap), (rk D P c n (codeOf fn)).1 (finK P fn.results.toList) [] (finK P fn.results.toList) gK (argsTr T 0 [a0, a1, a2, a3]) h = F c a0 a1 a2 a3 h) : FnOk P T f (n4 F) :=
  FnOk.of (D := D) hnm hm hlow hf hb fun call args h r hF => by
    unfold n4 at hF
    split at hF
    · rw [← hF, ← hT]; exact bodyK_at hn hle rfl rfl
    · cases hF
def n5 (F : CallF → A5) : FnF
  | c, [a0, a1, a2, a3, a4], h => F c a0 a1 a2 a3 a4 h
  | _, _, _ => none
theorem n5_ok [Nu] {P : Program} {T : Tr} {D : List Nat} (hnm : NamesOk P) (hm : P.follows .mixedOrders = true) (hlow : ∀ i, i ≤ 4294967296 → T.get i = .lit undef) {f : FuncId} {fn : Func} {n : Nat} {F : CallF → A5} (hf : P.funcs[f]? = some fn) (hb : fn.body.isSome = true)
    (hn : max fn.ntmps 5 = n) (hle : Nat.ble n 4294967296 = true) (hT : ∀ (c : CallF) (a0 a1 a2 a3 a4 : AV) (h : Heap), (rk D P c n (codeOf fn)).1 (finK P fn.results.toList) [] (finK P fn.results.toList) gK (argsTr T 0 [a0, a1, a2, a3, a4]) h = F c a0 a1 a2 a3 a4 h) : FnOk P T f (n5 F) :=
  FnOk.of (D := D) hnm hm hlow hf hb fun call args h r hF => by
    unfold n5 at hF
    split at hF
    · rw [← hF, ← hT]; exact bodyK_at hn hle rfl rfl
    · cases hF
def n6 (F : CallF → A6) : FnF
  | c, [a0, a1, a2, a3, a4, a5], h => F c a0 a1 a2 a3 a4 a5 h
  | _, _, _ => none
theorem n6_ok [Nu] {P : Program} {T : Tr} {D : List Nat} (hnm : NamesOk P) (hm : P.follows .mixedOrders = true) (hlow : ∀ i, i ≤ 4294967296 → T.get i = .lit undef) {f : FuncId} {fn : Func} {n : Nat} {F : CallF → A6} (hf : P.funcs[f]? = some fn) (hb : fn.body.isSome = true)
    (hn : max fn.ntmps 6 = n) (hle : Nat.ble n 4294967296 = true) (hT : ∀ (c : CallF) (a0 a1 a2 a3 a4 a5 : AV) (h : Heap), (rk D P c n (codeOf fn)).1 (finK P fn.results.toList) [] (finK P fn.results.toList) gK (argsTr T 0 [a0, a1, a2, a3, a4, a5]) h = F c a0 a1 a2 a3 a4 a5 h) : FnOk P T f (n6 F) :=
  FnOk.of (D := D) hnm hm hlow hf hb fun call args h r hF => by
    unfold n6 at hF
    split at hF
    · rw [← hF, ← hT]; exact bodyK_at hn hle rfl rfl
    · cases hF
/-! Calls that have been run once, as a table. -/
theorem stable_ok [Nu] {E : SEnv} (ok : SEnvOk E) {n : Nat} {f : FuncId} {t : List (List AV × AV)} (ht : ∀ x ∈ t, scall E n f x.1 [] = some (x.2, [])) : PrimOk E.P E.gl f (tableP t) := by
  intro args r hp I w vs hgl hlen hv hI
  have hc := ht _ (tableP_spec hp)
  refine (scall_ok ok n f args [] r [] hc ⟨fun _ => (0, 0), I⟩ w vs (R.nil _ hI) hgl hlen fun i c v h1 h2 => .deep (hv i c v h1 h2)).mono ?_
  rintro e w' ⟨v, g', rfl, hvv, hp, hR⟩
  refine ⟨v, g'.I, rfl, hvv.deep_nil, hp.size, fun b hb => hp.frame b hb fun id ha => ?_, hp.os, hp.tape, hp.output, fun b o hi => ?_⟩
  · have := ha.lt; simp at this
  · rcases hp.immNew b o hi with h | h | ⟨j, hj, _⟩
    · exact .inl h
    · exact .inr ⟨h, (hR.imm b o hi).1⟩
    · have := hj.lt; simp at this

def AllR (E : SEnv) (n : Nat) (f : FuncId) : List (List AV × AV) → Prop
  | [] => True
  | x :: l => isR (scall E n f x.1 []) x.2 = true ∧ AllR E n f l

theorem AllR.all {E : SEnv} {n : Nat} {f : FuncId} : ∀ {l : List (List AV × AV)}, AllR E n f l → ∀ x ∈ l, scall E n f x.1 [] = some (x.2, [])
  | [], _, x, hx => by cases hx
  | y :: l, h, x, hx => by
    rcases List.mem_cons.1 hx with rfl | hx
    · exact isR_spec h.1
    · exact h.2.all x hx

def SEnv.withP (E : SEnv) (f : FuncId) (p : List AV → Option AV) : SEnv := { E with prim := fun g => bif Nat.beq g f then some p else E.prim g }

theorem SEnvOk.withP [Nu] {E : SEnv} (ok : SEnvOk E) {f : FuncId} {p : List AV → Option AV} (hp : PrimOk E.P E.gl f p) : SEnvOk (E.withP f p) where
  fns := ok.fns
  prim := fun g q h => by
    simp only [SEnv.withP] at h
    cases hb : Nat.beq g f with
    | true =>
      rw [hb] at h
      cases h
      rw [Nat.eq_of_beq_eq_true hb]
      exact hp
    | false =>
      rw [hb] at h
      exact ok.prim g q h


/-- A function that is not printed: the machine goes through its code. -/
noncomputable def coldF (P : Program) (T : Tr) (fn : Func) : FnF := fun call args h => bodyK [] P T call fn args h

theorem cold_ok [Nu] {P : Program} {T : Tr} (hnm : NamesOk P) (hm : P.follows .mixedOrders = true) (hlow : ∀ i, i ≤ 4294967296 → T.get i = .lit undef) {f : FuncId} {fn : Func} (hf : P.funcs[f]? = some fn) (hb : fn.body.isSome = true) : FnOk P T f (coldF P T fn) :=
  FnOk.of (D := []) hnm hm hlow hf hb (fun _ _ _ _ h => h)

/-- Symbols that nobody asks for. -/
@[reducible] def noNu : Nu where
  re n := if n = 1001 ∨ n = 1002 then 4607182418800017408 else 0
  im _ := 0
  eql a b ha hb := by rcases ha with rfl | rfl <;> rcases hb with rfl | rfl <;> rfl
  neq a b ha hb := by rcases ha with rfl | rfl <;> rcases hb with rfl | rfl <;> rfl
  eql0 := rfl
  neq0 := rfl
  eqlA := rfl
  neqA := rfl

end Go.Am
