import Derived.Test.YtkkjoomlfmofbaaGreatDoorAmS3
import Derived.Test.YtkkjoomlfmofbaaGreatDoorAmQ
set_option linter.unusedSectionVars false
/-! Code in continuation form; functions; the machine over them. -/
namespace Go
set_option linter.unusedSimpArgs false
set_option linter.unusedVariables false
namespace Am

variable {P : Program} {T : Tr} {D : List Nat}

abbrev Kx := List (Nat × Kt)
abbrev Kg := Nat → Kt
abbrev Ck := Kt → Kx → Kt → Kg → Kt

def stuckK : Kt := fun _ _ => none

def Kx.at : Kx → Nat → Kt
  | [], _ => stuckK
  | (i, k) :: l, j => bif Nat.beq j i then k else Kx.at l j

def loopK (F : Kt → Kt) : Nat → Kt
  | 0 => stuckK
  | m + 1 => F (loopK F m)

def jumpK (from_ : Nat → Kg → Option Kt) (kg : Kg) : Nat → Nat → Kt
  | 0, _ => stuckK
  | m + 1, l => match from_ l (jumpK from_ kg m) with
    | some k => k
    | none => kg l

noncomputable def rk (D : List Nat) (P : Program) (call : CallF) (n : Nat) : Code → Ck × (Nat → Option Ck)
  | .skip => (fun kn _ _ _ => kn, fun _ => none)
  | .label l => (fun kn _ _ _ => kn, fun l' => bif Nat.beq l l' then some fun kn _ _ _ => kn else none)
  | .region id ops draw => (fun kn _ _ _ s h => bif D.any (Nat.beq id) then none else bif draw then drawK P call n ops kn s h else stepsK P call n ops ops.toList kn s h, fun _ => none)
  | .seq a b => (fun kn kx kr kg => (rk D P call n a).1 ((rk D P call n b).1 kn kx kr kg) kx kr kg, fun l => match (rk D P call n a).2 l with
      | some f => some fun kn kx kr kg => f ((rk D P call n b).1 kn kx kr kg) kx kr kg
      | none => (rk D P call n b).2 l)
  | .cond c t f => (fun kn kx kr kg s h => test (evK s c) ((rk D P call n t).1 kn kx kr kg s h) ((rk D P call n f).1 kn kx kr kg s h), fun _ => none)
  | .block id b => (fun kn kx kr kg => (rk D P call n b).1 kn ((id, kn) :: kx) kr kg, fun _ => none)
  | .loop b => (fun _ kx kr kg => loopK (fun k => (rk D P call n b).1 k kx kr kg) rounds, fun _ => none)
  | .scope b => (fun kn kx kr kg => (rk D P call n b).1 kn kx kr (jumpK (fun l kg' => match (rk D P call n b).2 l with
      | some f => some (f kn kx kr kg')
      | none => none) kg rounds), fun _ => none)
  | .exit i => (fun _ kx _ _ => kx.at i, fun _ => none)
  | .goto l => (fun _ _ _ kg => kg l, fun _ => none)
  | .ret => (fun _ _ kr _ => kr, fun _ => none)
  | .rangeFunc .. => (fun _ _ _ _ => stuckK, fun _ => none)
  | .refuse _ => (fun _ _ _ _ => stuckK, fun _ => none)

def ends (kn : Kt) (kx : Kx) (kr : Kt) (kg : Kg) : AExit → Kt
  | .normal => kn
  | .exit i => kx.at i
  | .goto l => kg l
  | .ret => kr

/-- What stands behind a piece of code, its continuations told. -/
def Behind [Nu] (T : Tr) (g : Gh) (h : Heap) (w : World) (n : Nat) (k : AExit → Kt) (res : AV × Heap) : Exit → Act → World → Prop :=
  fun e a' w' => ∃ x s' h', After T g h w x ⟨n, s', h'⟩ e a' w' ∧ k x s' h' = some res

theorem Behind.trans [Nu] {g g1 : Gh} {h h1 : Heap} {w w1 : World} (p : Post g h w g1 h1 w1) {n : Nat} {k : AExit → Kt} {res : AV × Heap} {e : Exit} {a' : Act} {w' : World} (q : Behind T g1 h1 w1 n k res e a' w') : Behind T g h w n k res e a' w' := by
  obtain ⟨x, s', h', q1, q2⟩ := q
  exact ⟨x, s', h', q1.trans p, q2⟩

def CkOk [Nu] (P : Program) (T : Tr) (n : Nat) (c : Code) (f : Ck) : Prop :=
  ∀ kn kx kr kg s h res, f kn kx kr kg s h = some res → ∀ g w a, RelSt T g w a ⟨n, s, h⟩ → c.wp P (Behind T g h w n (ends kn kx kr kg) res) a w

theorem CkOk.pure [Nu] {n : Nat} {c : Code} {f : Ck} {x : AExit} (hf : ∀ kn kx kr kg, f kn kx kr kg = ends kn kx kr kg x) (h : ∀ Q : Exit → Act → World → Prop, ∀ a w, Q (conv x) a w → c.wp P Q a w) : CkOk P T n c f := by
  intro kn kx kr kg s hp res hk g w a rel
  rw [hf] at hk
  exact h _ a w ⟨x, s, hp, ⟨rfl, g, Post.refl _ _ _, rel⟩, hk⟩

theorem seqK_ok [Nu] {n : Nat} {a b : Code} {fa fb : Ck} (ha : CkOk P T n a fa) (hb : CkOk P T n b fb) : CkOk P T n (.seq a b) (fun kn kx kr kg => fa (fb kn kx kr kg) kx kr kg) := by
  intro kn kx kr kg s h res hk g w act rel
  refine wp_seq ((wp_mono (ha _ _ _ _ _ _ _ hk g w act rel)) fun e a' w' q => ?_)
  obtain ⟨x, s', h', ⟨rfl, g', p', rel'⟩, hx⟩ := q
  cases x with
  | normal => exact wp_mono (hb _ _ _ _ _ _ _ hx g' w' a' rel') fun e a2 w2 q2 => q2.trans p'
  | exit id => exact ⟨.exit id, s', h', ⟨rfl, g', p', rel'⟩, hx⟩
  | goto l => exact ⟨.goto l, s', h', ⟨rfl, g', p', rel'⟩, hx⟩
  | ret => exact ⟨.ret, s', h', ⟨rfl, g', p', rel'⟩, hx⟩

theorem blockK_ok [Nu] {n : Nat} {id : Nat} {c : Code} {f : Ck} (hc : CkOk P T n c f) : CkOk P T n (.block id c) (fun kn kx kr kg => f kn ((id, kn) :: kx) kr kg) := by
  intro kn kx kr kg s h res hk g w act rel
  refine wp_block ((wp_mono (hc _ _ _ _ _ _ _ hk g w act rel)) fun e a' w' q => ?_)
  obtain ⟨x, s', h', ⟨rfl, g', p', rel'⟩, hx⟩ := q
  cases x with
  | exit i =>
    simp only [ends, Kx.at] at hx
    by_cases hi : i = id
    · subst hi
      simp only [conv, Exit.inBlock, if_pos]
      rw [Nat.beq_refl] at hx
      exact ⟨.normal, s', h', ⟨rfl, g', p', rel'⟩, hx⟩
    · simp only [conv, Exit.inBlock, if_neg hi]
      have : Nat.beq i id = false := by
        cases hb : Nat.beq i id with
        | false => rfl
        | true => exact absurd (Nat.eq_of_beq_eq_true hb) hi
      rw [this] at hx
      exact ⟨.exit i, s', h', ⟨rfl, g', p', rel'⟩, hx⟩
  | normal => exact ⟨.normal, s', h', ⟨rfl, g', p', rel'⟩, hx⟩
  | goto l => exact ⟨.goto l, s', h', ⟨rfl, g', p', rel'⟩, hx⟩
  | ret => exact ⟨.ret, s', h', ⟨rfl, g', p', rel'⟩, hx⟩

theorem loopK_ok [Nu] {n : Nat} {c : Code} {f : Ck} (hc : CkOk P T n c f) (m : Nat) : CkOk P T n (.loop c) (fun _ kx kr kg => loopK (fun k => f k kx kr kg) m) := by
  intro kn kx kr kg s h res hk g w a rel b ks cs
  have key : ∀ m s h, loopK (fun k => f k kx kr kg) m s h = some res → ∀ g w a, RelSt T g w a ⟨n, s, h⟩ → ∀ (b : Frame) (ks : List Item) (cs : List Frame),
      ∃ e a' w', Behind T g h w n (ends kn kx kr kg) res e a' w' ∧ Arrives P (lone (b.at a (.code c :: .inLoop c :: ks)) cs w) b ks cs e a' w' := by
    intro m
    induction m with
    | zero => intro s h hk; cases hk
    | succ m ih =>
      intro s h hk g w a rel b ks cs
      simp only [loopK] at hk
      obtain ⟨e, a1, w1, ⟨x, s1, h1, ⟨rfl, g1, p1, rel1⟩, hx⟩, harr⟩ := hc _ _ _ _ _ _ _ hk g w a rel b (.inLoop c :: ks) cs
      cases x with
      | normal =>
        obtain ⟨e2, a2, w2, q2, harr2⟩ := ih s1 h1 hx g1 w1 a1 rel1 b ks cs
        exact ⟨e2, a2, w2, q2.trans p1, .of_steps (Steps.trans harr (.one step_inLoop)) harr2⟩
      | exit id => exact ⟨_, a1, w1, ⟨.exit id, s1, h1, ⟨rfl, g1, p1, rel1⟩, hx⟩, Arrives.lift rfl (by simp [conv]) harr⟩
      | goto l => exact ⟨_, a1, w1, ⟨.goto l, s1, h1, ⟨rfl, g1, p1, rel1⟩, hx⟩, Arrives.lift rfl (by simp [conv]) harr⟩
      | ret => exact ⟨_, a1, w1, ⟨.ret, s1, h1, ⟨rfl, g1, p1, rel1⟩, hx⟩, Arrives.lift rfl (by simp [conv]) harr⟩
  obtain ⟨e, a', w', q, harr⟩ := key m s h hk g w a rel b ks cs
  exact ⟨e, a', w', q, .of_steps (.one step_loop) harr⟩

theorem scopeK_ok [Nu] {n : Nat} {c : Code} {f : Ck} {fr : Nat → Option Ck} (hc : CkOk P T n c f)
    (hf : ∀ l, match fr l with | some fl => ∃ rest, findLabel c l = some rest ∧ CkOk P T n rest fl | none => findLabel c l = none) (m : Nat) :
    CkOk P T n (.scope c) (fun kn kx kr kg => f kn kx kr (jumpK (fun l kg' => match fr l with
      | some f => some (f kn kx kr kg')
      | none => none) kg m)) := by
  intro kn kx kr kg s h res hk g w a rel b ks cs
  have key : ∀ m x s h, ends kn kx kr (jumpK (fun l kg' => match fr l with
      | some f => some (f kn kx kr kg')
      | none => none) kg m) x s h = some res → ∀ g w a, RelSt T g w a ⟨n, s, h⟩ → ∀ (m : Machine) (b : Frame) (ks : List Item) (cs : List Frame),
      Arrives P m b (.inScope c :: ks) cs (conv x) a w → ∃ e a' w', Behind T g h w n (ends kn kx kr kg) res e a' w' ∧ Arrives P m b ks cs e a' w' := by
    intro m
    induction m with
    | zero =>
      intro x s h hk g w a rel m b ks cs harr
      cases x with
      | normal => exact ⟨_, a, w, ⟨.normal, s, h, ⟨rfl, g, Post.refl _ _ _, rel⟩, hk⟩, Steps.trans harr (.one step_inScope)⟩
      | exit id => exact ⟨_, a, w, ⟨.exit id, s, h, ⟨rfl, g, Post.refl _ _ _, rel⟩, hk⟩, fun k' hk' => harr k' (by simp [exitTo, hk'])⟩
      | ret => exact ⟨_, a, w, ⟨.ret, s, h, ⟨rfl, g, Post.refl _ _ _, rel⟩, hk⟩, harr⟩
      | goto l => cases hk
    | succ m ih =>
      intro x s h hk g w a rel M b ks cs harr
      cases x with
      | normal => exact ⟨_, a, w, ⟨.normal, s, h, ⟨rfl, g, Post.refl _ _ _, rel⟩, hk⟩, Steps.trans harr (.one step_inScope)⟩
      | exit id => exact ⟨_, a, w, ⟨.exit id, s, h, ⟨rfl, g, Post.refl _ _ _, rel⟩, hk⟩, fun k' hk' => harr k' (by simp [exitTo, hk'])⟩
      | ret => exact ⟨_, a, w, ⟨.ret, s, h, ⟨rfl, g, Post.refl _ _ _, rel⟩, hk⟩, harr⟩
      | goto l =>
        simp only [ends, jumpK] at hk
        have hfl := hf l
        cases hl : fr l with
        | none =>
          rw [hl] at hk hfl
          simp only at hfl hk
          exact ⟨_, a, w, ⟨.goto l, s, h, ⟨rfl, g, Post.refl _ _ _, rel⟩, hk⟩, fun k' hk' => harr k' (by simp [gotoIn, hfl, hk'])⟩
        | some kl =>
          rw [hl] at hk hfl
          simp only at hfl hk
          obtain ⟨rest, hr, hrun⟩ := hfl
          have hg : gotoIn l (.inScope c :: ks) = some (.code rest :: .inScope c :: ks) := by simp [gotoIn, hr]
          obtain ⟨e, a1, w1, ⟨x1, s1, h1, ⟨rfl, g1, p1, rel1⟩, hx⟩, harr1⟩ := hrun _ _ _ _ _ _ _ hk g w a rel b (.inScope c :: ks) cs
          obtain ⟨e2, a2, w2, q2, harr2⟩ := ih x1 s1 h1 hx g1 w1 a1 rel1 M b ks cs (.of_steps (harr _ hg) harr1)
          exact ⟨e2, a2, w2, q2.trans p1, harr2⟩
  obtain ⟨e, a1, w1, ⟨x1, s1, h1, ⟨rfl, g1, p1, rel1⟩, hx⟩, harr⟩ := hc _ _ _ _ _ _ _ hk g w a rel b (.inScope c :: ks) cs
  obtain ⟨e2, a2, w2, q2, harr2⟩ := key m x1 s1 h1 hx g1 w1 a1 rel1 _ b ks cs (.of_steps (.one step_scope) harr)
  exact ⟨e2, a2, w2, q2.trans p1, harr2⟩

/-- A region that draws its order, told by what holds of its records. -/
theorem drawK_ok [Nu] (hn : NamesOk P) (hm : P.follows .mixedOrders = true) {call : CallF} (hcall : CallOk P T call) {ops : Array Oper} {n : Nat} {kn : Kt} {s0 : Tr} {h0 : Heap} {res : AV × Heap} (h : drawK P call n ops kn s0 h0 = some res)
    (id : Nat) (g : Gh) (w : World) (a : Act) (rel : RelSt T g w a ⟨n, s0, h0⟩) :
    (Code.region id ops true).wp P (fun e a' w' => ∃ s' h', After T g h0 w .normal ⟨n, s', h'⟩ e a' w' ∧ kn s' h' = some res) a w := by
  unfold drawK at h
  split at h
  · cases h
  · rename_i out hst
    have hle : n ≤ 4294967296 := rel.f.2.1
    obtain ⟨sok, hlen⟩ := stat_ok ops _ _ _ hst .nil rfl rfl
    obtain ⟨d, x1, hx1, hfin, k, hmap, htbl⟩ := drawsK_ok (s0 := s0) hle
      { rok := .nil, sl := fun t => rfl, ef := fun j hj => by simp at hj, sub := fun x hx j hj => (by
          rcases List.mem_cons.1 hx with rfl | hx
          · simp at hj
          · cases hx), cl := fun r hr => by cases hr } (fun q hq => by cases hq) h
    simp only [List.reverse_reverse, List.map_nil, List.append_nil] at hmap
    rw [← hmap] at sok
    have hlen' : d.rs.length = ops.size := by rw [← hlen, ← hmap, List.length_map]
    refine wp_region_any hm ?_
    obtain ⟨pd, rd⟩ := drew_ok rel.r
    refine any_ok hn hcall hle k sok hlen' (g0 := g) (h0 := h0) (w0 := w) ?_ ops.size (List.range ops.size) _ a _ (by simp) (fun i hi _ => List.mem_range.2 hi) (by simp) ?_
    · intro a' w' X hX ⟨⟨g', x, s, hx, hp, rel', hs, hS, hD, hE⟩, _⟩
      have hxS : x.S = d.effs := by
        apply Nat.eq_of_testBit_eq
        intro j
        cases h1 : d.effs.testBit j with
        | true =>
          obtain ⟨r, hr, h2, h3⟩ := k.ef j h1
          subst h2
          have hlt := sok.lt r.s (List.mem_map_of_mem hr)
          simp only [List.length_map] at hlt
          exact hE r hr h3 (hX _ (by omega))
        | false =>
          cases h2 : x.S.testBit j with
          | false => rfl
          | true => have := k.sub x hx j h2; rw [h1] at this; cases this
      have hxe : x = x1 := by
        have : x ∈ d.tbl.filter fun x => Nat.beq x.S d.effs := List.mem_filter.2 ⟨hx, by rw [hxS]; exact Nat.beq_refl _⟩
        rw [hx1] at this
        exact List.mem_singleton.1 this
      subst hxe
      have same : ∀ i, s.get i = d.s.get i := fun i => by
        rw [hs i, W_agree (Y := fun _ => true), ← k.sl i]
        intro r hr _
        have hlt := sok.lt r.s (List.mem_map_of_mem hr)
        simp only [List.length_map] at hlt
        exact hX _ (by omega)
      refine ⟨d.s, x.H, ⟨rfl, g', hp, rel'.r, ⟨rel'.f.1, rel'.f.2.1, fun i => ?_, fun i hi => ?_, rel'.f.2.2.2.2⟩, rel'.d⟩, hfin⟩
      · have := rel'.f.2.2.1 i
        simp only [Tr.tmp, same] at this ⊢
        exact this
      · rw [← same i]; exact rel'.f.2.2.2.1 i hi
    · have hX0 : ∀ j, (Array.replicate ops.size false).getD j false = false := by
        intro j; simp [Array.getD]
      refine ⟨⟨g, ⟨0, 0, h0⟩, s0, htbl _ (by simp), pd, ⟨rd, rel.f.ext pd, rel.d⟩, fun t => ?_, fun j hj => (by simp at hj), fun j hj => (by simp at hj), fun r hr _ h => ?_⟩, fun r hr h => ?_⟩
      · have : ∀ rs : List Rc, W n s0 (fun j => (Array.replicate ops.size false).getD j false) rs t = s0.get t := by
          intro rs
          induction rs with
          | nil => rfl
          | cons r rs ih =>
            show (if (wr n r.s.o.dst t && (Array.replicate ops.size false).getD r.s.i false) = true then _ else _) = _
            rw [hX0, Bool.and_false, if_neg (by simp)]
            exact ih
        exact (this d.rs).symm
      · simp only [hX0] at h; cases h
      · simp only [hX0] at h; cases h

theorem test_some {v : AV} {t f : Res} {r : AV × Heap} (h : test v t f = some r) : (v = .lit (.bool true) ∧ t = some r) ∨ (v = .lit (.bool false) ∧ f = some r) := by
  unfold test at h
  split at h
  · exact .inl ⟨rfl, h⟩
  · exact .inr ⟨rfl, h⟩
  · cases h

theorem rk_ok [Nu] (hn : NamesOk P) (hm : P.follows .mixedOrders = true) {call : CallF} (hcall : CallOk P T call) {n : Nat} : ∀ c : Code, CkOk P T n c (rk D P call n c).1 ∧
    ∀ l, match (rk D P call n c).2 l with | some fl => ∃ rest, findLabel c l = some rest ∧ CkOk P T n rest fl | none => findLabel c l = none
  | .skip => ⟨CkOk.pure (x := .normal) (fun _ _ _ _ => rfl) fun Q a w q => wp_skip q, fun l => rfl⟩
  | .label l => ⟨CkOk.pure (x := .normal) (fun _ _ _ _ => rfl) fun Q a w q => wp_label q, fun l' => by
      simp only [rk]
      by_cases hl : l = l'
      · subst hl
        rw [Nat.beq_refl]
        exact ⟨.skip, by simp [findLabel], CkOk.pure (x := .normal) (fun _ _ _ _ => rfl) fun Q a w q => wp_skip q⟩
      · have : Nat.beq l l' = false := by
          cases hb : Nat.beq l l' with
          | false => rfl
          | true => exact absurd (Nat.eq_of_beq_eq_true hb) hl
        rw [this]
        simp [findLabel, hl]⟩
  | .region id ops draw => ⟨fun kn kx kr kg s h res hk g w a rel => by
      simp only [rk] at hk
      cases hD : D.any (Nat.beq id) with
      | true => rw [hD] at hk; cases hk
      | false =>
      rw [hD] at hk
      simp only [cond_false] at hk
      cases draw with
      | true =>
        refine wp_mono (drawK_ok hn hm hcall hk id g w a rel) ?_
        rintro e a' w' ⟨s', h', q, q2⟩
        exact ⟨.normal, s', h', q, q2⟩
      | false =>
        obtain ⟨s', h', h1, h2⟩ := stepsK_ok hk
        refine wp_region_list ?_
        exact steps_ok hn hcall h1 rel fun g' w' a' p' rel' => ⟨.normal, s', h', ⟨rfl, g', p', rel'⟩, h2⟩, fun l => rfl⟩
  | .seq a b => by
    obtain ⟨a1, a2⟩ := rk_ok hn hm hcall (n := n) a
    obtain ⟨b1, b2⟩ := rk_ok hn hm hcall (n := n) b
    refine ⟨(show CkOk P T n (.seq a b) (fun kn kx kr kg => (rk D P call n a).1 ((rk D P call n b).1 kn kx kr kg) kx kr kg) from seqK_ok a1 b1), fun l => ?_⟩
    simp only [rk]
    have ha := a2 l
    cases hl : (rk D P call n a).2 l with
    | some kl =>
      rw [hl] at ha
      obtain ⟨rest, h1, h2⟩ := ha
      exact ⟨.seq rest b, by simp [findLabel, h1], seqK_ok h2 b1⟩
    | none =>
      rw [hl] at ha
      have hb := b2 l
      simp only at ha ⊢
      cases hl2 : (rk D P call n b).2 l with
      | some kl =>
        rw [hl2] at hb
        obtain ⟨rest, h1, h2⟩ := hb
        exact ⟨rest, by simp [findLabel, ha, h1], h2⟩
      | none => rw [hl2] at hb; simp only at hb ⊢; simp [findLabel, ha, hb]
  | .cond c t f => by
    obtain ⟨t1, _⟩ := rk_ok hn hm hcall (n := n) t
    obtain ⟨f1, _⟩ := rk_ok hn hm hcall (n := n) f
    refine ⟨fun kn kx kr kg s h res hk g w a rel => ?_, fun l => rfl⟩
    simp only [rk] at hk
    have hv := ev_ok rel.f c
    rw [evK_eq] at hk
    rcases test_some hk with ⟨he, hk⟩ | ⟨he, hk⟩
    · rw [he] at hv
      exact wp_cond_true hv.lit_inv (t1 _ _ _ _ _ _ _ hk g w a rel)
    · rw [he] at hv
      exact wp_cond_false hv.lit_inv (f1 _ _ _ _ _ _ _ hk g w a rel)
  | .block id b => ⟨blockK_ok (rk_ok hn hm hcall (n := n) b).1, fun l => rfl⟩
  | .loop b => ⟨loopK_ok (rk_ok hn hm hcall (n := n) b).1 rounds, fun l => rfl⟩
  | .scope b => ⟨scopeK_ok (rk_ok hn hm hcall (n := n) b).1 (rk_ok hn hm hcall (n := n) b).2 rounds, fun l => rfl⟩
  | .exit id => ⟨CkOk.pure (x := .exit id) (fun _ _ _ _ => rfl) fun Q a w q => wp_exit q, fun l => rfl⟩
  | .goto l => ⟨CkOk.pure (x := .goto l) (fun _ _ _ _ => rfl) fun Q a w q => wp_goto q, fun l => rfl⟩
  | .ret => ⟨CkOk.pure (x := .ret) (fun _ _ _ _ => rfl) fun Q a w q => wp_ret q, fun l => rfl⟩
  | .rangeFunc .. => ⟨fun kn kx kr kg s h res hk => (by cases hk), fun l => rfl⟩
  | .refuse _ => ⟨fun kn kx kr kg s h res hk => (by cases hk), fun l => rfl⟩

theorem rk_from {call : CallF} {n : Nat} : ∀ (c : Code) (l : Nat), (rk D P call n c).2 l = (findLabel c l).map fun r => (rk D P call n r).1
  | .skip, _ => rfl
  | .label l, l' => by
    simp only [rk, findLabel]
    by_cases hl : l = l'
    · subst hl; simp [rk]
    · have : Nat.beq l l' = false := by
        cases hb : Nat.beq l l' with
        | false => rfl
        | true => exact absurd (Nat.eq_of_beq_eq_true hb) hl
      simp [hl, this]
  | .region .., _ => rfl
  | .seq a b, l => by
    simp only [rk, findLabel, rk_from a l, rk_from b l]
    cases findLabel a l <;> rfl
  | .cond .., _ => rfl
  | .block .., _ => rfl
  | .loop .., _ => rfl
  | .scope .., _ => rfl
  | .exit .., _ => rfl
  | .goto .., _ => rfl
  | .ret, _ => rfl
  | .rangeFunc .., _ => rfl
  | .refuse .., _ => rfl

end Am
namespace Code
def fst : Go.Code → Go.Code
  | .seq a _ => a
  | _ => .skip
def snd : Go.Code → Go.Code
  | .seq _ b => b
  | _ => .skip
def thn : Go.Code → Go.Code
  | .cond _ t _ => t
  | _ => .skip
def els : Go.Code → Go.Code
  | .cond _ _ f => f
  | _ => .skip
def tst : Go.Code → Operand
  | .cond c _ _ => c
  | _ => .tmp 0
def bd : Go.Code → Go.Code
  | .block _ b => b
  | .loop b => b
  | .scope b => b
  | _ => .skip
def isSeq : Go.Code → Bool
  | .seq _ _ => true
  | _ => false
def isCond : Go.Code → Bool
  | .cond .. => true
  | _ => false
def isBlock (id : Nat) : Go.Code → Bool
  | .block i _ => Nat.beq i id
  | _ => false
def isLoop : Go.Code → Bool
  | .loop _ => true
  | _ => false
def isScope : Go.Code → Bool
  | .scope _ => true
  | _ => false
def at_ (c : Go.Code) (l : Nat) : Go.Code := (findLabel c l).getD .skip

end Code
namespace Am
variable {P : Program} {T : Tr} {D : List Nat}

section Cuts
variable {call : CallF} {n : Nat} {kn kr : Kt} {kx : Kx} {kg : Kg} {c : Code}

theorem seq_t {B A : Kt} (hc : c.isSeq = true) (hb : (rk D P call n c.snd).1 kn kx kr kg = B) (ha : (rk D P call n c.fst).1 B kx kr kg = A) : (rk D P call n c).1 kn kx kr kg = A := by
  cases c <;> first | (cases hc; done) | skip
  subst hb; exact ha

theorem cond_t {A B : Kt} (hc : c.isCond = true) (ha : (rk D P call n c.thn).1 kn kx kr kg = A) (hb : (rk D P call n c.els).1 kn kx kr kg = B) :
    (rk D P call n c).1 kn kx kr kg = fun s h => test (evK s c.tst) (A s h) (B s h) := by
  cases c <;> first | (cases hc; done) | skip
  subst ha; subst hb; rfl

theorem block_t {A : Kt} {id : Nat} (hc : c.isBlock id = true) (ha : (rk D P call n c.bd).1 kn ((id, kn) :: kx) kr kg = A) : (rk D P call n c).1 kn kx kr kg = A := by
  cases c <;> first | (cases hc; done) | skip
  have := Nat.eq_of_beq_eq_true hc
  subst this; exact ha

theorem loop_t {A : Kt} (hc : c.isLoop = true) (ha : loopK (fun k => (rk D P call n c.bd).1 k kx kr kg) rounds = A) : (rk D P call n c).1 kn kx kr kg = A := by
  cases c <;> first | (cases hc; done) | skip
  exact ha

theorem scope_t {A : Kt} {J : Kg} (hc : c.isScope = true) (hj : jumpK (fun l kg' => match (rk D P call n c.bd).2 l with
      | some f => some (f kn kx kr kg')
      | none => none) kg rounds = J) (ha : (rk D P call n c.bd).1 kn kx kr J = A) : (rk D P call n c).1 kn kx kr kg = A := by
  cases c <;> first | (cases hc; done) | skip
  subst hj; exact ha

theorem loop_ind {A : Nat → Kt} (h0 : A 0 = stuckK) (h1 : ∀ m, (rk D P call n c).1 (A m) kx kr kg = A (m + 1)) : ∀ m, loopK (fun k => (rk D P call n c).1 k kx kr kg) m = A m
  | 0 => h0.symm
  | m + 1 => by
    show (rk D P call n c).1 (loopK _ m) kx kr kg = _
    rw [loop_ind h0 h1 m, h1 m]

theorem jump_ind {J : Nat → Kg} (h0 : J 0 = fun _ => stuckK) (h1 : ∀ m l, (match findLabel c l with
      | some r => (rk D P call n r).1 kn kx kr (J m)
      | none => kg l) = J (m + 1) l) : ∀ m, jumpK (fun l kg' => match (rk D P call n c).2 l with
      | some f => some (f kn kx kr kg')
      | none => none) kg m = J m
  | 0 => h0.symm
  | m + 1 => by
    funext l
    rw [← h1 m l, ← jump_ind h0 h1 m]
    simp only [jumpK, rk_from]
    cases findLabel c l <;> rfl
end Cuts

/-! ### A function's answer -/

def resK (P : Program) : List ResultVar → List AV → (List AV → Res) → Kt
  | [], acc, k => fun _ _ => k acc.reverse
  | .tmp t :: l, acc, k => fun s h => resK P l (evK s (.tmp t) :: acc) k s h
  | .cell a t :: l, acc, k => fun s h => match aggKind P t with
    | some g => opt (loadX g (evK s (.tmp a)) h) fun v => resK P l (v :: acc) k s h
    | none => none

def tupK : List AV → AV
  | [] => .lit (.tuple #[])
  | [v] => v
  | vs => .tup vs

def finK (P : Program) (l : List ResultVar) : Kt := fun s h => resK P l [] (fun vs => some (tupK vs, h)) s h

theorem resK_ok {l : List ResultVar} {n : Nat} {s : Tr} {h : Heap} {k : List AV → Res} {r : AV × Heap} : ∀ {acc : List AV}, resK P l acc k s h = some r →
    ∃ vs, (l.mapM fun
      | ResultVar.tmp t => some ((⟨n, s, h⟩ : St).s.tmp t)
      | .cell a t => load P t ((⟨n, s, h⟩ : St).s.tmp a) (⟨n, s, h⟩ : St).h) = some vs ∧ k (acc.reverse ++ vs) = some r := by
  have hev : ∀ t, evK s (.tmp t) = s.tmp t := fun t => by rw [evK_eq]; rfl
  induction l with
  | nil => intro acc hk; exact ⟨[], rfl, by simpa [resK] using hk⟩
  | cons x l ih =>
    intro acc hk
    cases x with
    | tmp t =>
      simp only [resK] at hk
      obtain ⟨vs, h1, h2⟩ := ih hk
      refine ⟨s.tmp t :: vs, ?_, ?_⟩
      · rw [List.mapM_cons, h1]; rfl
      · rw [hev] at h2; simpa using h2
    | cell a t =>
      simp only [resK] at hk
      split at hk
      · rename_i g hg
        obtain ⟨v, h1, h2⟩ := opt_some hk
        obtain ⟨vs, h3, h4⟩ := ih h2
        rw [← loadX_eq hg, hev] at h1
        refine ⟨v :: vs, ?_, ?_⟩
        · rw [List.mapM_cons, h3]; simp only [h1]; rfl
        · simpa using h4
      · cases hk

theorem finK_ok {fn : Func} {n : Nat} {s : Tr} {h h' : Heap} {r : AV} (hk : finK P fn.results.toList s h = some (r, h')) : results P fn ⟨n, s, h⟩ = some r ∧ h' = h := by
  unfold finK at hk
  obtain ⟨vs, h1, h2⟩ := resK_ok (n := n) hk
  simp only [List.reverse_nil, List.nil_append, Option.some.injEq, Prod.mk.injEq] at h2
  obtain ⟨rfl, rfl⟩ := h2
  refine ⟨?_, rfl⟩
  unfold results
  split
  · rename_i v hm
    have := hm.symm.trans h1
    cases this; rfl
  · rename_i us hne hm
    have e := Option.some.inj (hm.symm.trans h1)
    rw [← e]
    match us, hne with
    | [], _ => rfl
    | [v], hne => exact absurd rfl (hne v)
    | v :: u :: us, _ => rfl
  · rename_i hm
    exact absurd (hm.symm.trans h1) (by simp)

def codeOf (fn : Func) : Code := fn.body.getD .skip

noncomputable def bodyK (D : List Nat) (P : Program) (T : Tr) (call : CallF) (fn : Func) (args : List AV) (h : Heap) : Res :=
  bif Nat.ble (max fn.ntmps args.length) 4294967296 then
    (rk D P call (max fn.ntmps args.length) (codeOf fn)).1 (finK P fn.results.toList) [] (finK P fn.results.toList) (fun _ => stuckK) (argsTr T 0 args) h
  else none

theorem bodyK_at {call : CallF} {fn : Func} {args : List AV} {h : Heap} {n : Nat} {c : Code} {rs : List ResultVar} (hn : max fn.ntmps args.length = n) (hle : Nat.ble n 4294967296 = true) (hc : codeOf fn = c) (hr : fn.results.toList = rs) :
    bodyK D P T call fn args h = (rk D P call n c).1 (finK P rs) [] (finK P rs) (fun _ => stuckK) (argsTr T 0 args) h := by
  subst hn; subst hc; subst hr
  unfold bodyK
  rw [hle]; rfl

theorem bodyK_ok [Nu] (hnm : NamesOk P) (hm : P.follows .mixedOrders = true) (hlow : ∀ i, i ≤ 4294967296 → T.get i = .lit undef) {call : CallF} (hcall : CallOk P T call)
    {f : FuncId} {fn : Func} (hf : P.funcs[f]? = some fn) (hb : fn.body.isSome = true)
    {args : List AV} {h h' : Heap} {r : AV} (hbody : bodyK D P T call fn args h = some (r, h')) : SaysCall P T f args h r h' := by
  intro g w vs hr hgl hl ha
  unfold bodyK at hbody
  cases hle : Nat.ble (max fn.ntmps args.length) 4294967296 with
  | false => rw [hle] at hbody; cases hbody
  | true =>
    rw [hle] at hbody
    simp only [cond_true] at hbody
    have hn := Nat.le_of_ble_eq_true hle
    obtain ⟨c, hc⟩ := Option.isSome_iff_exists.1 hb
    have hco : codeOf fn = c := by simp [codeOf, hc]
    rw [hco] at hbody
    refine calls_of_wp hf hc ?_
    have rel : RelSt T g w { tmps := vs ++ Array.replicate (fn.ntmps - vs.size) undef, defers := [] } ⟨max fn.ntmps args.length, argsTr T 0 args, h⟩ := by
      refine ⟨hr, ⟨by simp [hl]; omega, by simp only; omega, fun i => ?_, fun i hi => by rw [argsTr_get args T 0 i (by omega), if_neg (by omega)], hgl⟩, rfl⟩
      by_cases hle : i ≤ 4294967296
      case neg =>
        rw [tmp_high _ hle]
        have hs : ¬ i < (vs ++ Array.replicate (fn.ntmps - vs.size) undef).size := by simp; omega
        simp only [Array.getD, hs, dite_false]
        exact .deep (.lit rfl)
      rw [tmp_get _ hle, argsTr_get args T 0 i (by omega)]
      simp only [Nat.zero_le, true_and, Nat.zero_add, Nat.sub_zero]
      by_cases hi : i < args.length
      · rw [if_pos hi]
        have hv : vs[i]? = some vs[i] := Array.getElem?_eq_getElem (by omega)
        have hc : args[i]? = some args[i] := List.getElem?_eq_getElem hi
        have e1 : args.getD i (.lit undef) = args[i] := by simp [List.getD, hc]
        have e2 : (vs ++ Array.replicate (fn.ntmps - vs.size) undef).getD i undef = vs[i] := by
          rw [Array.getD_eq_getD_getElem?, Array.getElem?_append_left (by omega), hv]; rfl
        rw [e1, e2]
        exact ha i _ _ hc hv
      · rw [if_neg hi]
        have e2 : (vs ++ Array.replicate (fn.ntmps - vs.size) undef).getD i undef = undef := by
          rw [Array.getD_eq_getD_getElem?, Array.getElem?_append_right (by omega), Array.getElem?_replicate]
          split <;> rfl
        rw [e2, hlow i hle]
        exact .deep (.lit rfl)
    refine wp_mono ((rk_ok hnm hm hcall c).1 _ _ _ _ _ _ _ hbody g w _ rel) ?_
    rintro e a' w' ⟨x, s', h1, ⟨rfl, g', p', rel'⟩, hx⟩
    have fin : finK P fn.results.toList s' h1 = some (r, h') → ∃ v, (Go.results fn a'.tmps).run P w' = .ok v w' ∧ V g' h' w' r v ∧ Post g h w g' h' w' ∧ R g' h' w' := by
      intro hx
      obtain ⟨h2, rfl⟩ := finK_ok (n := max fn.ntmps args.length) hx
      obtain ⟨v, h3, h4⟩ := results_run rel' h2
      exact ⟨v, h3, h4, p', rel'.r⟩
    cases x with
    | normal => obtain ⟨v, h3, h4, h5, h6⟩ := fin hx; exact ⟨rel'.d, v, h3, v, g', rfl, h4, h5, h6⟩
    | ret => obtain ⟨v, h3, h4, h5, h6⟩ := fin hx; exact ⟨rel'.d, v, h3, v, g', rfl, h4, h5, h6⟩
    | exit i => cases hx
    | goto l => cases hx

/-! ### The machine over a table of functions -/

abbrev FnF := CallF → List AV → Heap → Res

def FnOk [Nu] (P : Program) (T : Tr) (f : FuncId) (F : FnF) : Prop :=
  ∀ call, CallOk P T call → ∀ args h r h', F call args h = some (r, h') → SaysCall P T f args h r h'

structure SEnv where
  P : Program
  prim : FuncId → Option (List AV → Option AV)
  fns : FuncId → Option (How × FnF)
  gl : Tr

def aloneX (F : List AV → Heap → Res) (args : List AV) (ids : List Nat) (h : Heap) : Res :=
  match F args [] with
  | some (r, hc) => match snapR hc r with
    | some (r', _) => if flat r' ∨ ids = [] then some (r', h) else some (r', mark ids h)
    | none => none
  | none => none

def withinX (F : List AV → Heap → Res) (args : List AV) (h : Heap) : Res :=
  match F args h with
  | some (r, h') =>
    match snapR h' r with
    | some (r', ids) =>
      let hm := mark ids h'
      let keep := hm.take h.length
      if keep.all (belowObj h.length) then some (r', keep) else some (r, h')
    | none => some (r, h')
  | none => none

def scall (E : SEnv) : Nat → CallF
  | 0, _, _, _ => none
  | n + 1, f, args, h =>
    match E.prim f with
    | some p => match snaps h args with
      | some (args', ids) => match p args' with
        | some r => if flat r then some (r, h) else some (r, mark ids h)
        | none => none
      | none => none
    | none => match E.fns f with
      | none => none
      | some (.raw, F) => F (scall E n) args h
      | some (.within, F) => withinX (F (scall E n)) args h
      | some (.alone, F) => match snaps h args with
        | some (args', ids) => aloneX (F (scall E n)) args' ids h
        | none => withinX (F (scall E n)) args h

structure SEnvOk [Nu] (E : SEnv) : Prop where
  prim : ∀ f p, E.prim f = some p → PrimOk E.P E.gl f p
  fns : ∀ f w F, E.fns f = some (w, F) → FnOk E.P E.gl f F

theorem withinX_ok [Nu] {P : Program} {T : Tr} {f : FuncId} {F : List AV → Heap → Res} (hF : ∀ args h r h', F args h = some (r, h') → SaysCall P T f args h r h')
    {args : List AV} {h h' : Heap} {r : AV} (hc : withinX F args h = some (r, h')) : SaysCall P T f args h r h' := by
  unfold withinX at hc
  split at hc
  · rename_i r0 h1 hbody
    have base := hF _ _ _ _ hbody
    split at hc
    · rename_i r' ids hsn
      simp only at hc
      split at hc
      · rename_i hbel
        cases hc
        intro g w vs hr hgl hl ha
        refine (base g w vs hr hgl hl ha).mono ?_
        rintro e w' ⟨v, g', rfl, hv, hp, hR⟩
        have hd := snapR_deep hR hsn hv
        obtain ⟨pm, rm⟩ := mark_ok hR ids
        have hle : h.length ≤ (mark ids h1).length := by rw [mark_length]; exact hp.ext.len
        have rt := rm.take hle hbel
        have pt := hp.trans pm
        have sub : ∀ (id : Nat) (o : AObj), ((mark ids h1).take h.length)[id]? = some o → (mark ids h1)[id]? = some o := fun id o ho => (take_get' ho).2
        have al : ∀ id, alive ((mark ids h1).take h.length) id → alive (mark ids h1) id := fun id ⟨o, ho, hd⟩ => ⟨o, sub id o ho, hd⟩
        refine ⟨v, g'.plus h1 ids, rfl, .deep hd, ⟨⟨pt.ext.imm, by simp; omega, fun id A' hid hA' => pt.ext.keepA id A' hid (sub _ _ hA'), fun id es k hid hk => pt.ext.keepM id es k hid (sub _ _ hk), fun id x hid hk => pt.ext.keepS id x hid (sub _ _ hk)⟩,
          pt.size, pt.frame, fun id ha => pt.own id (al id ha), pt.immNew, pt.os, pt.tape, pt.output⟩, rt⟩
      · cases hc; exact base
    · cases hc; exact base
  · cases hc

theorem aloneX_ok [Nu] {P : Program} {T : Tr} {f : FuncId} {F : List AV → Heap → Res} (hF : ∀ args h r h', F args h = some (r, h') → SaysCall P T f args h r h')
    {args args' : List AV} {ids : List Nat} {h h' : Heap} {r : AV} (hsn : snaps h args = some (args', ids)) (hc : aloneX F args' ids h = some (r, h')) : SaysCall P T f args h r h' := by
  unfold aloneX at hc
  split at hc
  · rename_i r0 hc0 hbody
    split at hc
    · rename_i r' ids' hsr
      intro g w vs hr hgl hl ha
      obtain ⟨sl, sd⟩ := snaps_deep hr hsn (fun x hx => hx)
      have hres : r = r' ∧ h' = if flat r' ∨ ids = [] then h else mark ids h := by
        split at hc
        · rename_i hh; cases hc; exact ⟨rfl, by rw [if_pos hh]⟩
        · rename_i hh; cases hc; exact ⟨rfl, by rw [if_neg hh]⟩
      obtain ⟨rfl, rfl⟩ := hres
      have R0 : R ⟨g.μ, (g.plus h ids).I⟩ [] w := R.nil _ fun b o hi => plus_cell hr ids hi
      refine (hF _ _ _ _ hbody _ w vs R0 (hgl.alone _ fun b o hi => .inl hi) (by omega) fun i c v hci hv => ?_).mono ?_
      · refine .deep (sd i c v hci fun c0 h0 => ha i c0 v h0 hv)
      · rintro e w' ⟨v, gc, rfl, hv, hp, hR⟩
        have hd := snapR_deep hR hsr hv
        obtain ⟨g', k1, k2, k3⟩ := finish_alone hr ids hd hp.size (fun b hb => hp.frame b hb (fun id ha => by obtain ⟨o, ho, _⟩ := ha; simp at ho)) hp.os hp.tape hp.output (fun b o hi => by
          have hcell := plus_cell hR ids' hi
          have hnew : ∀ {j}, alive hc0 j → (gc.μ j).1 = b → w.heap.size ≤ b := by
            intro j hj he
            rcases hp.own j hj with h1 | ⟨k, hk, _⟩
            · omega
            · obtain ⟨o, ho, _⟩ := hk; simp at ho
          rcases hi with hi | ⟨id, A, _, h2, h3, _⟩
          · rcases hp.immNew b o hi with h1 | h1 | ⟨k, hk, _⟩
            · exact .inl h1
            · exact .inr ⟨h1, hcell⟩
            · obtain ⟨o, ho, _⟩ := hk; simp at ho
          · exact .inr ⟨hnew (alive_arr h2) h3.symm, hcell⟩)
        exact ⟨v, g', rfl, k1, k2, k3⟩
    · cases hc
  · cases hc

theorem scall_ok [Nu] {E : SEnv} (ok : SEnvOk E) : ∀ n, CallOk E.P E.gl (scall E n)
  | 0, f, args, h, r, h', hc => by simp [scall] at hc
  | n + 1, f, args, h, r, h', hc => by
    intro g w vs hr hgl hl ha
    simp only [scall] at hc
    split at hc
    · rename_i p hp
      split at hc
      · rename_i args' ids hsn
        split at hc
        · rename_i r0 hr0
          obtain ⟨sl, sd⟩ := snaps_deep hr hsn (fun x hx => hx)
          have hpr := ok.prim f p hp args' r0 hr0 (g.plus h ids).I w vs (hgl.alone _ fun b o hi => .inl hi) (by omega) (fun i c v hci hv => sd i c v hci fun c0 h0 => ha i c0 v h0 hv) (fun b o hi => plus_cell hr ids hi)
          refine hpr.mono ?_
          rintro e w' ⟨v, I', rfl, hd, hsz, hb, o1, o2, o3, hI⟩
          obtain ⟨g', k1, k2, k3⟩ := finish_alone hr ids hd hsz hb o1 o2 o3 hI
          by_cases hf : flat r0 = true
          · rw [if_pos hf] at hc
            cases hc
            rw [if_pos (.inl hf)] at k1 k2 k3
            exact ⟨v, g', rfl, k1, k2, k3⟩
          · rw [if_neg hf] at hc
            cases hc
            by_cases hid : ids = []
            · rw [if_pos (.inr hid)] at k1 k2 k3
              subst hid
              exact ⟨v, g', rfl, k1, k2, k3⟩
            · rw [if_neg (by simp [hf, hid])] at k1 k2 k3
              exact ⟨v, g', rfl, k1, k2, k3⟩
        · cases hc
      · cases hc
    · split at hc
      · cases hc
      · rename_i F hF
        exact ok.fns f _ F hF _ (scall_ok ok n) _ _ _ _ hc g w vs hr hgl hl ha
      · rename_i F hF
        exact withinX_ok (ok.fns f _ F hF _ (scall_ok ok n)) hc g w vs hr hgl hl ha
      · rename_i F hF
        split at hc
        · rename_i args' ids hsn
          exact aloneX_ok (ok.fns f _ F hF _ (scall_ok ok n)) hsn hc g w vs hr hgl hl ha
        · exact withinX_ok (ok.fns f _ F hF _ (scall_ok ok n)) hc g w vs hr hgl hl ha

/-- A function's own code, told by a function of its arguments. -/
theorem FnOk.of [Nu] (hnm : NamesOk P) (hm : P.follows .mixedOrders = true) (hlow : ∀ i, i ≤ 4294967296 → T.get i = .lit undef) {f : FuncId} {fn : Func} (hf : P.funcs[f]? = some fn) (hb : fn.body.isSome = true) {F : FnF}
    (h : ∀ call args h r, F call args h = some r → bodyK D P T call fn args h = some r) : FnOk P T f F :=
  fun call hcall args hp r h' hF => bodyK_ok hnm hm hlow hcall hf hb (h call args hp _ hF)

end Am
end Go
