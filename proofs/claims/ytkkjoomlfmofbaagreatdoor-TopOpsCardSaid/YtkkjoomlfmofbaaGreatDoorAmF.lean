import Derived.Test.YtkkjoomlfmofbaaGreatDoorAmE
set_option linter.unusedSimpArgs false
set_option linter.unusedVariables false
set_option linter.unusedSectionVars false
/-! Code. -/
namespace Go.Am

variable {P : Program} {T : Tr}

/-- What a run of code says of it. -/
def RunOk [Nu] (P : Program) (T : Tr) (c : Code) (k : St → Out) : Prop :=
  ∀ st x st', k st = some (x, st') → ∀ g w a, RelSt T g w a st → c.wp P (After T g st.h w x st') a w

theorem RunOk.pure [Nu] {c : Code} {x : AExit} (h : ∀ Q : Exit → Act → World → Prop, ∀ a w, Q (conv x) a w → c.wp P Q a w) : RunOk P T c (fun st => some (x, st)) := by
  intro st y st' hk g w a rel
  cases hk
  exact h _ a w ⟨rfl, g, Post.refl _ _ _, rel⟩

theorem seq_ok [Nu] {a b : Code} {ka kb : St → Out} (ha : RunOk P T a ka) (hb : RunOk P T b kb) : RunOk P T (.seq a b) (fun st => andThen (ka st) kb) := by
  intro st x st' hk g w act rel
  simp only at hk
  cases h1 : ka st with
  | none => rw [h1] at hk; cases hk
  | some p =>
    obtain ⟨y, st1⟩ := p
    rw [h1] at hk
    refine wp_seq ((wp_mono (ha st y st1 h1 g w act rel)) fun e a' w' q => ?_)
    obtain ⟨rfl, g', p', rel'⟩ := q
    cases y with
    | normal =>
      simp only [andThen] at hk
      exact wp_mono (hb st1 x st' hk g' w' a' rel') fun e a2 w2 q2 => q2.trans p'
    | exit id => simp only [andThen, Option.some.injEq, Prod.mk.injEq] at hk; obtain ⟨rfl, rfl⟩ := hk; exact ⟨rfl, g', p', rel'⟩
    | goto l => simp only [andThen, Option.some.injEq, Prod.mk.injEq] at hk; obtain ⟨rfl, rfl⟩ := hk; exact ⟨rfl, g', p', rel'⟩
    | ret => simp only [andThen, Option.some.injEq, Prod.mk.injEq] at hk; obtain ⟨rfl, rfl⟩ := hk; exact ⟨rfl, g', p', rel'⟩

theorem block_ok [Nu] {id : Nat} {c : Code} {k : St → Out} (hc : RunOk P T c k) : RunOk P T (.block id c) (fun st => blockEnd id (k st)) := by
  intro st x st' hk g w act rel
  simp only at hk
  cases h1 : k st with
  | none => rw [h1] at hk; cases hk
  | some p =>
    obtain ⟨y, st1⟩ := p
    rw [h1] at hk
    refine wp_block ((wp_mono (hc st y st1 h1 g w act rel)) fun e a' w' q => ?_)
    obtain ⟨rfl, g', p', rel'⟩ := q
    cases y with
    | exit i =>
      simp only [blockEnd] at hk
      by_cases hi : i = id
      · rw [if_pos hi] at hk; cases hk
        simp only [conv, Exit.inBlock, if_pos hi]
        exact ⟨rfl, g', p', rel'⟩
      · rw [if_neg hi] at hk; cases hk
        simp only [conv, Exit.inBlock, if_neg hi]
        exact ⟨rfl, g', p', rel'⟩
    | normal => simp only [blockEnd, Option.some.injEq, Prod.mk.injEq] at hk; obtain ⟨rfl, rfl⟩ := hk; exact ⟨rfl, g', p', rel'⟩
    | goto l => simp only [blockEnd, Option.some.injEq, Prod.mk.injEq] at hk; obtain ⟨rfl, rfl⟩ := hk; exact ⟨rfl, g', p', rel'⟩
    | ret => simp only [blockEnd, Option.some.injEq, Prod.mk.injEq] at hk; obtain ⟨rfl, rfl⟩ := hk; exact ⟨rfl, g', p', rel'⟩

theorem Arrives.lift {m : Machine} {b : Frame} {x : Item} {k : List Item} {cs : List Frame} {e : Exit} {a : Act} {w : World} (hx : x.plain = true) (hne : e ≠ .normal) (h : Arrives P m b (x :: k) cs e a w) :
    Arrives P m b k cs e a w := Arrives.pass hx (fun _ _ => .inl hne) h

theorem loop_ok [Nu] {c : Code} {k : St → Out} (hc : RunOk P T c k) (n : Nat) : RunOk P T (.loop c) (fun st => loopN k n st) := by
  have key : ∀ n st x st', loopN k n st = some (x, st') → ∀ g w a, RelSt T g w a st → ∀ (b : Frame) (ks : List Item) (cs : List Frame),
      ∃ e a' w', After T g st.h w x st' e a' w' ∧ Arrives P (lone (b.at a (.code c :: .inLoop c :: ks)) cs w) b ks cs e a' w' := by
    intro n
    induction n with
    | zero => intro st x st' hk; cases hk
    | succ n ih =>
      intro st x st' hk g w a rel b ks cs
      simp only [loopN] at hk
      cases h1 : k st with
      | none => rw [h1] at hk; cases hk
      | some p =>
        obtain ⟨y, st1⟩ := p
        rw [h1] at hk
        obtain ⟨e, a1, w1, ⟨rfl, g1, p1, rel1⟩, harr⟩ := hc st y st1 h1 g w a rel b (.inLoop c :: ks) cs
        cases y with
        | normal =>
          obtain ⟨e2, a2, w2, q2, harr2⟩ := ih st1 x st' hk g1 w1 a1 rel1 b ks cs
          exact ⟨e2, a2, w2, q2.trans p1, .of_steps (Steps.trans harr (.one step_inLoop)) harr2⟩
        | exit id => cases hk; exact ⟨_, a1, w1, ⟨rfl, g1, p1, rel1⟩, Arrives.lift rfl (by simp [conv]) harr⟩
        | goto l => cases hk; exact ⟨_, a1, w1, ⟨rfl, g1, p1, rel1⟩, Arrives.lift rfl (by simp [conv]) harr⟩
        | ret => cases hk; exact ⟨_, a1, w1, ⟨rfl, g1, p1, rel1⟩, Arrives.lift rfl (by simp [conv]) harr⟩
  intro st x st' hk g w a rel b ks cs
  obtain ⟨e, a', w', q, harr⟩ := key n st x st' hk g w a rel b ks cs
  exact ⟨e, a', w', q, .of_steps (.one step_loop) harr⟩

theorem scope_ok [Nu] {c : Code} {k : St → Out} {from_ : Nat → Option (St → Out)} (hc : RunOk P T c k)
    (hf : ∀ l, match from_ l with | some kl => ∃ rest, findLabel c l = some rest ∧ RunOk P T rest kl | none => findLabel c l = none) (n : Nat) :
    RunOk P T (.scope c) (fun st => jumpN from_ n (k st)) := by
  have key : ∀ n y st x st', jumpN from_ n (some (y, st)) = some (x, st') → ∀ g w a, RelSt T g w a st → ∀ (m : Machine) (b : Frame) (ks : List Item) (cs : List Frame),
      Arrives P m b (.inScope c :: ks) cs (conv y) a w → ∃ e a' w', After T g st.h w x st' e a' w' ∧ Arrives P m b ks cs e a' w' := by
    intro n
    induction n with
    | zero => intro y st x st' hk; cases hk
    | succ n ih =>
      intro y st x st' hk g w a rel m b ks cs harr
      cases y with
      | normal => simp only [jumpN] at hk; cases hk; exact ⟨_, a, w, ⟨rfl, g, Post.refl _ _ _, rel⟩, Steps.trans harr (.one step_inScope)⟩
      | exit id => simp only [jumpN] at hk; cases hk; exact ⟨_, a, w, ⟨rfl, g, Post.refl _ _ _, rel⟩, fun k' hk' => harr k' (by simp [exitTo, hk'])⟩
      | ret => simp only [jumpN] at hk; cases hk; exact ⟨_, a, w, ⟨rfl, g, Post.refl _ _ _, rel⟩, harr⟩
      | goto l =>
        simp only [jumpN] at hk
        have hfl := hf l
        cases hl : from_ l with
        | none =>
          rw [hl] at hk hfl
          simp only at hfl hk
          cases hk
          exact ⟨_, a, w, ⟨rfl, g, Post.refl _ _ _, rel⟩, fun k' hk' => harr k' (by simp [gotoIn, hfl, hk'])⟩
        | some kl =>
          rw [hl] at hk hfl
          simp only at hfl hk
          obtain ⟨rest, hr, hrun⟩ := hfl
          have hg : gotoIn l (.inScope c :: ks) = some (.code rest :: .inScope c :: ks) := by simp [gotoIn, hr]
          cases h1 : kl st with
          | none => rw [h1] at hk; cases n <;> cases hk
          | some p =>
            obtain ⟨y1, st1⟩ := p
            rw [h1] at hk
            obtain ⟨e, a1, w1, ⟨rfl, g1, p1, rel1⟩, harr1⟩ := hrun st y1 st1 h1 g w a rel b (.inScope c :: ks) cs
            obtain ⟨e2, a2, w2, q2, harr2⟩ := ih y1 st1 x st' hk g1 w1 a1 rel1 m b ks cs (.of_steps (harr _ hg) harr1)
            exact ⟨e2, a2, w2, q2.trans p1, harr2⟩
  intro st x st' hk g w a rel b ks cs
  simp only at hk
  cases h1 : k st with
  | none => rw [h1] at hk; cases n <;> cases hk
  | some p =>
    obtain ⟨y, st1⟩ := p
    rw [h1] at hk
    obtain ⟨e, a1, w1, ⟨rfl, g1, p1, rel1⟩, harr⟩ := hc st y st1 h1 g w a rel b (.inScope c :: ks) cs
    obtain ⟨e2, a2, w2, q2, harr2⟩ := key n y st1 x st' hk g1 w1 a1 rel1 _ b ks cs (.of_steps (.one step_scope) harr)
    exact ⟨e2, a2, w2, q2.trans p1, harr2⟩

theorem run_ok [Nu] {reg : Array Oper → Bool → St → Option St} (hr : RegOk P T reg) : ∀ c : Code, RunOk P T c (run reg c).1 ∧
    ∀ l, match (run reg c).2 l with | some kl => ∃ rest, findLabel c l = some rest ∧ RunOk P T rest kl | none => findLabel c l = none
  | .skip => ⟨RunOk.pure (x := .normal) fun Q a w q => wp_skip q, fun l => rfl⟩
  | .label l => ⟨RunOk.pure (x := .normal) fun Q a w q => wp_label q, fun l' => by
      simp only [run]
      by_cases hl : l = l'
      · rw [if_pos hl]
        exact ⟨.skip, by simp [findLabel, hl], RunOk.pure (x := .normal) fun Q a w q => wp_skip q⟩
      · rw [if_neg hl]
        simp [findLabel, hl]⟩
  | .region id ops draw => ⟨fun st x st' hk g w a rel => by
      simp only [run] at hk
      cases h1 : reg ops draw st with
      | none => rw [h1] at hk; cases hk
      | some st1 => rw [h1] at hk; cases hk; exact hr ops draw st _ h1 id g w a rel, fun l => rfl⟩
  | .seq a b => by
    obtain ⟨a1, a2⟩ := run_ok hr a
    obtain ⟨b1, b2⟩ := run_ok hr b
    refine ⟨seq_ok a1 b1, fun l => ?_⟩
    simp only [run]
    have ha := a2 l
    cases hl : (run reg a).2 l with
    | some kl =>
      rw [hl] at ha
      obtain ⟨rest, h1, h2⟩ := ha
      exact ⟨.seq rest b, by simp [findLabel, h1], seq_ok h2 b1⟩
    | none =>
      rw [hl] at ha
      have hb := b2 l
      simp only at ha ⊢
      cases hl2 : (run reg b).2 l with
      | some kl =>
        rw [hl2] at hb
        obtain ⟨rest, h1, h2⟩ := hb
        exact ⟨rest, by simp [findLabel, ha, h1], h2⟩
      | none => rw [hl2] at hb; simp only at hb ⊢; simp [findLabel, ha, hb]
  | .cond c t f => by
    obtain ⟨t1, _⟩ := run_ok hr t
    obtain ⟨f1, _⟩ := run_ok hr f
    refine ⟨fun st x st' hk g w a rel => ?_, fun l => rfl⟩
    simp only [run] at hk
    have hv := ev_ok rel.f c
    split at hk
    · rename_i he
      rw [he] at hv
      exact wp_cond_true hv.lit_inv (t1 st x st' hk g w a rel)
    · rename_i he
      rw [he] at hv
      exact wp_cond_false hv.lit_inv (f1 st x st' hk g w a rel)
    · cases hk
  | .block id b => ⟨block_ok (run_ok hr b).1, fun l => rfl⟩
  | .loop b => ⟨loop_ok (run_ok hr b).1 rounds, fun l => rfl⟩
  | .scope b => ⟨scope_ok (run_ok hr b).1 (run_ok hr b).2 rounds, fun l => rfl⟩
  | .exit id => ⟨RunOk.pure (x := .exit id) fun Q a w q => wp_exit q, fun l => rfl⟩
  | .goto l => ⟨RunOk.pure (x := .goto l) fun Q a w q => wp_goto q, fun l => rfl⟩
  | .ret => ⟨RunOk.pure (x := .ret) fun Q a w q => wp_ret q, fun l => rfl⟩
  | .rangeFunc .. => ⟨fun st x st' hk => by simp [run] at hk, fun l => rfl⟩
  | .refuse _ => ⟨fun st x st' hk => by simp [run] at hk, fun l => rfl⟩

end Go.Am
