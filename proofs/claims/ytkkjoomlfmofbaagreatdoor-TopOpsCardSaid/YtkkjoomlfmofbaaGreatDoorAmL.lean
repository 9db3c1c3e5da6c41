import Derived.Test.YtkkjoomlfmofbaaGreatDoorAmK
set_option linter.unusedSimpArgs false
set_option linter.unusedVariables false
set_option linter.unusedSectionVars false
/-! Regions that draw: every order. -/
namespace Go.Am

variable {P : Program} {T : Tr}

theorem SOk.lt {ops : Array Oper} : ∀ {l : List Sr}, SOk ops l → ∀ r ∈ l, r.i < l.length := by
  intro l h
  induction h with
  | nil => intro r hr; cases hr
  | cons h h1 h2 h3 h4 h5 h6 ih =>
    intro q hq
    rcases List.mem_cons.1 hq with rfl | hq
    · simp only [List.length_cons]; omega
    · have := ih q hq
      simp only [List.length_cons]; omega

theorem SOk.tail {ops : Array Oper} : ∀ {a b : List Sr}, SOk ops (a ++ b) → SOk ops b
  | [], b, h => h
  | x :: a, b, h => by
    cases h with
    | cons h => exact SOk.tail h

/-- A row that holds with each operation all that it waits for. -/
def Down (l : List Sr) (X : Nat → Bool) : Prop := ∀ r ∈ l, X r.i = true → ∀ e ∈ r.o.after, Region.binds .any e = true → X e.on = true

theorem SOk.anc {ops : Array Oper} {l : List Sr} (h : SOk ops l) {X : Nat → Bool} : Down l X → ∀ r ∈ l, (∀ e ∈ r.o.after, Region.binds .any e = true → X e.on = true) → ∀ j, r.c.testBit j = true → X j = true := by
  induction h with
  | nil => intro _ r hr; cases hr
  | @cons r0 rs h h1 h2 h3 h4 h5 h6 ih =>
    intro hd r hr he j hj
    have hd' : Down rs X := fun q hq => hd q (List.mem_cons_of_mem _ hq)
    rcases List.mem_cons.1 hr with rfl | hr
    · obtain ⟨e, a, b, c⟩ := h4 j hj
      rcases c with c | ⟨q, hq, c, hqj⟩
      · rw [← c]; exact he e a b
      · exact ih hd' q hq (hd' q hq (by rw [c]; exact he e a b)) j hqj
    · exact ih hd' r hr he j hj

theorem hit_of {n : Nat} {d : Option Tmp} {t : Nat} {l : List Nat} (h : wr n d t = true) (ht : t ∈ l) : hit d l = true := by
  cases d with
  | none => cases h
  | some d =>
    simp only [wr, Bool.and_eq_true] at h
    have := Nat.eq_of_beq_eq_true h.2
    subst this
    exact List.any_eq_true.2 ⟨d, ht, Nat.beq_refl d⟩

theorem sameDst_of {n : Nat} {d e : Option Tmp} {t : Nat} (h : wr n d t = true) (h' : wr n e t = true) : sameDst d e = true := by
  cases d with
  | none => cases h
  | some d => cases e with
    | none => cases h'
    | some e =>
      simp only [wr, Bool.and_eq_true] at h h'
      have := Nat.eq_of_beq_eq_true h.2
      have := Nat.eq_of_beq_eq_true h'.2
      subst d; subst e
      exact Nat.beq_refl t

section
variable {ops : Array Oper} {n : Nat} {s0 : Tr} {X : Nat → Bool} {a b : List Rc} {r : Rc}

theorem parts (h : SOk ops ((a ++ r :: b).map (·.s))) : r.s.i = b.length ∧ r.s.ls = r.s.o.looksAt ops ∧ ops[r.s.i]? = some r.s.o ∧
    (∀ y ∈ b, clash y.s r.s.o r.s.ls = true → r.s.c.testBit y.s.i = true) ∧ (∀ y ∈ b, y.s.i < r.s.i) := by
  rw [List.map_append] at h
  have h' := h.tail
  simp only [List.map_cons] at h'
  cases h' with
  | cons h0 h1 h2 h3 h4 h5 h6 =>
    simp only [List.length_map] at h1
    refine ⟨h1, h3, h2, fun y hy => h5 y.s (List.mem_map_of_mem hy), fun y hy => ?_⟩
    have := h0.lt y.s (List.mem_map_of_mem hy)
    simp only [List.length_map] at this
    omega

theorem parts_above (h : SOk ops ((a ++ r :: b).map (·.s))) {x : Rc} (hx : x ∈ a) : r.s.i < x.s.i ∧ (clash r.s x.s.o x.s.ls = true → x.s.c.testBit r.s.i = true) := by
  obtain ⟨a1, a2, rfl⟩ := List.append_of_mem hx
  have h' : SOk ops ((a1 ++ x :: (a2 ++ r :: b)).map (·.s)) := by simpa using h
  obtain ⟨p1, p2, p3, p4, p5⟩ := parts h'
  have : r ∈ a2 ++ r :: b := by simp
  exact ⟨p5 r this, p4 r this⟩

theorem rok_at : ∀ {a : List Rc}, ROk ops n s0 (a ++ r :: b) → (∀ t, r.e.get t = W n s0 (fun _ => true) b t) ∧ wantedA ops ⟨n, r.e, []⟩ r.s.o = some r.want ∧
      (r.want = false → r.v = .lit undef ∧ r.k ≠ .eff) ∧ (∀ j, r.need.testBit j = true → r.s.c.testBit j = true ∧ ∃ q ∈ b, q.s.i = j ∧ q.k = .eff)
  | [], h => by
    cases h with
    | cons h0 h1 h2 h3 h4 => exact ⟨h1, h2, h3, h4⟩
  | x :: a, h => by
    cases h with
    | cons h0 => exact rok_at (a := a) h0

/-- What an operation looks at is there as it was in the order of the text. -/
theorem slots_at (h : SOk ops ((a ++ r :: b).map (·.s))) (k : ROk ops n s0 (a ++ r :: b)) (hd : Down ((a ++ r :: b).map (·.s)) X) (hX : X r.s.i = false)
    (he : ∀ e ∈ r.s.o.after, Region.binds .any e = true → X e.on = true) {t : Nat} (ht : t ∈ r.s.ls) : W n s0 X (a ++ r :: b) t = r.e.get t := by
  have anc := h.anc hd
  have rm : r.s ∈ (a ++ r :: b).map (·.s) := List.mem_map_of_mem (by simp)
  rw [W_skip, (rok_at k).1 t]
  · simp only [W, hX, Bool.and_false, Bool.false_eq_true, if_false]
    refine W_agree fun y hy hw => ?_
    refine anc r.s rm he _ ((parts h).2.2.2.1 y hy ?_)
    simp only [clash, hit_of hw ht, Bool.true_or]
  · intro x hx hw
    cases hXx : X x.s.i with
    | false => rfl
    | true =>
      have xm : x.s ∈ (a ++ r :: b).map (·.s) := List.mem_map_of_mem (by simp [hx])
      have := anc x.s xm (hd x.s xm hXx) r.s.i ((parts_above h hx).2 (by simp only [clash, hit_of hw ht, Bool.true_or, Bool.or_true]))
      rw [hX] at this; cases this

theorem slots_put (h : SOk ops ((a ++ r :: b).map (·.s))) (hd : Down ((a ++ r :: b).map (·.s)) X) (hX : X r.s.i = false) {Y : Nat → Bool} (hY : ∀ j, Y j = (X j || decide (r.s.i = j))) (t : Nat) :
    W n s0 Y (a ++ r :: b) t = if wr n r.s.o.dst t then r.v else W n s0 X (a ++ r :: b) t := by
  have anc := h.anc hd
  have self : Y r.s.i = true := by rw [hY]; simp
  cases hw : wr n r.s.o.dst t with
  | true =>
    simp only [if_true]
    rw [W_skip]
    · simp only [W, hw, self, Bool.and_true, if_true]
    · intro x hx hwx
      rw [hY]
      have hlt := (parts_above h hx).1
      have : ¬ r.s.i = x.s.i := by omega
      simp only [this, decide_false, Bool.or_false]
      cases hXx : X x.s.i with
      | false => rfl
      | true =>
        have xm : x.s ∈ (a ++ r :: b).map (·.s) := List.mem_map_of_mem (by simp [hx])
        have := anc x.s xm (hd x.s xm hXx) r.s.i ((parts_above h hx).2 (by simp only [clash, sameDst_of hw hwx, Bool.or_true]))
        rw [hX] at this; cases this
  | false =>
    simp only [Bool.false_eq_true, if_false]
    refine W_agree fun x hx hwx => ?_
    rw [hY]
    have : ¬ r.s.i = x.s.i := by
      intro he
      rcases List.mem_append.1 hx with hx | hx
      · have := (parts_above h hx).1; omega
      · rcases List.mem_cons.1 hx with rfl | hx
        · rw [hw] at hwx; cases hwx
        · have := (parts h).2.2.2.2 x hx; omega
    simp [this]
end

theorem W_high {n : Nat} (hle : n ≤ 4294967296) {s0 : Tr} {X : Nat → Bool} {t : Nat} (ht : 4294967296 < t) : ∀ {rs : List Rc}, W n s0 X rs t = s0.get t
  | [] => rfl
  | r :: rs => by
    have : wr n r.s.o.dst t = false := by
      cases hd : r.s.o.dst with
      | none => rfl
      | some d =>
        simp only [wr]
        by_cases hb : Nat.beq d t = true
        · have := Nat.eq_of_beq_eq_true hb
          subst this
          rw [bltF (by omega)]; rfl
        · simp only [Bool.not_eq_true] at hb
          rw [hb, Bool.and_false]
    simp only [W, this, Bool.false_and, Bool.false_eq_true, if_false]
    exact W_high hle ht

/-- What holds on the way. -/
structure Inv [Nu] (P : Program) (T : Tr) (n : Nat) (s0 : Tr) (d : Dr) (g0 : Gh) (h0 : Heap) (w0 : World) (X : Nat → Bool) (a : Act) (w : World) : Prop where
  go : ∃ (g : Gh) (x : En) (s : Tr), x ∈ d.tbl ∧ Post g0 h0 w0 g x.H w ∧ RelSt T g w a ⟨n, s, x.H⟩ ∧ (∀ t, s.get t = W n s0 X d.rs t) ∧
    (∀ j, x.S.testBit j = true → X j = true) ∧ (∀ j, x.D.testBit j = true → X j = true) ∧ (∀ r ∈ d.rs, r.k = .eff → X r.s.i = true → x.S.testBit r.s.i = true)
  down : Down (d.rs.map (·.s)) X

theorem at_index {ops : Array Oper} : ∀ {rs : List Rc}, SOk ops (rs.map (·.s)) → ∀ i, i < rs.length → ∃ a r b, rs = a ++ r :: b ∧ r.s.i = i
  | [], _, i, hi => by simp at hi
  | r :: rs, h, i, hi => by
    cases h with
    | cons h0 h1 =>
      simp only [List.length_map] at h1
      by_cases he : i = rs.length
      · exact ⟨[], r, rs, rfl, by rw [he]; exact h1⟩
      · obtain ⟨a, q, b, rfl, hq⟩ := at_index h0 i (by simp only [List.length_cons] at hi; omega)
        exact ⟨r :: a, q, b, rfl, hq⟩

theorem Inv.step [Nu] (hn : NamesOk P) {call : CallF} (hcall : CallOk P T call) {ops : Array Oper} {n : Nat} (hle : n ≤ 4294967296) {s0 : Tr} {d : Dr} (k : DOk P call ops n s0 d) (sok : SOk ops (d.rs.map (·.s))) {g0 : Gh} {h0 : Heap} {w0 : World} {X Y : Nat → Bool} {a : Act} {w : World} (inv : Inv P T n s0 d g0 h0 w0 X a w)
    {i : Nat} (hi : i < d.rs.length) (hX : X i = false) {o : Oper} (ho : ops[i]? = some o) (he : ∀ e ∈ o.after, Region.binds .any e = true → X e.on = true) (hY : ∀ j, Y j = (X j || decide (i = j)))
    {K : Act → World → Prop} {Q : Exit → Act → World → Prop} (hk : ∀ a' w', Inv P T n s0 d g0 h0 w0 Y a' w' → K a' w') : wpOp P ops Q i K a w := by
  obtain ⟨⟨g, x, s, hx, hp, rel, hs, hS, hD, hE⟩, down⟩ := inv
  obtain ⟨pa, r, pb, hrs, hri⟩ := at_index sok i hi
  subst hri
  rw [hrs] at sok down hs
  have hro : r.s.o = o := by
    have := (parts sok).2.2.1
    rw [ho] at this
    exact (Option.some.inj this).symm
  subst hro
  have rmem : r ∈ d.rs := by rw [hrs]; simp
  have rok := k.rok
  rw [hrs] at rok
  obtain ⟨_, hwt, hnw, hneed⟩ := rok_at rok
  have hls := (parts sok).2.1
  have hget : ∀ t ∈ r.s.ls, r.e.get t = s.get t := fun t ht => by rw [hs t, slots_at sok rok down hX he ht]
  have anc := sok.anc down
  have rm : r.s ∈ (pa ++ r :: pb).map (·.s) := List.mem_map_of_mem (by simp)
  have hw : wantedA ops ⟨n, s, x.H⟩ r.s.o = some r.want := by
    rw [← hwt]
    exact wantedA_congr fun t ht => (hget t (hls ▸ ht)).symm
  have hwo := wanted_ok rel.f hw
  have downY : Down (d.rs.map (·.s)) Y := by
    rw [hrs]
    intro q hq hYq e hee hb
    rw [hY] at hYq ⊢
    rw [Bool.or_eq_true] at hYq
    rcases hYq with h | h
    · rw [down q hq h e hee hb]; rfl
    · have : q = r.s := by
        obtain ⟨q', hq', rfl⟩ := List.mem_map.1 hq
        have h := of_decide_eq_true h
        rcases List.mem_append.1 hq' with hx | hx
        · have := (parts_above sok hx).1; omega
        · rcases List.mem_cons.1 hx with rfl | hx
          · rfl
          · have := (parts sok).2.2.2.2 q' hx; omega
      subst this
      rw [he e hee hb]; rfl
  have slY : ∀ (v : AV), v = r.v → ∀ t, (putT n s v r.s.o.dst).get t = W n s0 Y d.rs t := by
    intro v hv t
    subst hv
    rw [putT_get hle, hs t, hrs]
    exact (slots_put sok down hX hY t).symm
  have XY : ∀ j, X j = true → Y j = true := fun j h => by rw [hY, h]; rfl
  unfold wpOp
  rw [ho]
  simp only [hwo]
  cases hwant : r.want with
  | false =>
    simp only [Bool.false_eq_true, if_false]
    obtain ⟨hv, hk'⟩ := hnw hwant
    refine hk _ _ ⟨⟨g, x, putT n s (.lit undef) r.s.o.dst, hx, hp, ?_, slY _ hv.symm, fun j h => XY j (hS j h), fun j h => XY j (hD j h), ?_⟩, downY⟩
    · have := rel.put r.s.o.dst (v := .lit undef) (u := undef) (Post.refl _ _ _) rel.r (.deep (.lit rfl))
      rw [put_eq] at this
      exact this
    · intro q hq hqk hYq
      rw [hY, Bool.or_eq_true] at hYq
      rcases hYq with h | h
      · exact hE q hq hqk h
      · have h := of_decide_eq_true h
        exfalso
        rw [hrs] at hq
        rcases List.mem_append.1 hq with hx | hx
        · have := (parts_above sok hx).1; omega
        · rcases List.mem_cons.1 hx with rfl | hx
          · exact hk' hqk
          · have := (parts sok).2.2.2.2 q hx; omega
  | true =>
    simp only [if_true]
    refine .inl ?_
    have happ : app r.need r.s.i x = true := by
      unfold app
      have c1 : x.S.testBit r.s.i = false := by
        cases h : x.S.testBit r.s.i with
        | false => rfl
        | true => have := hS _ h; rw [hX] at this; cases this
      have c2 : x.D.testBit r.s.i = false := by
        cases h : x.D.testBit r.s.i with
        | false => rfl
        | true => have := hD _ h; rw [hX] at this; cases this
      have c3 : Nat.land r.need x.S = r.need := by
        apply Nat.eq_of_testBit_eq
        intro j
        show (r.need &&& x.S).testBit j = _
        rw [Nat.testBit_and]
        cases h : r.need.testBit j with
        | false => rfl
        | true =>
          obtain ⟨h1, q, hq, h2, h3⟩ := hneed j h
          have hXj := anc r.s rm he j h1
          subst h2
          rw [hE q (by rw [hrs]; simp [hq]) h3 hXj]
          rfl
      rw [c1, c2, c3, Nat.beq_refl]
      rfl
    obtain ⟨H', hc, hcase⟩ := k.cl r rmem hwant x hx happ
    rw [lim_congr hget fun t ht => by rw [hs t, (rok_at rok).1 t, W_high hle ht, W_high hle ht]] at hc
    refine callOp_wp hn hcall hc rel.r rel.f.2.2.2.2 (fun y => lim_ok rel.f r.s.ls y) ?_
    intro u g' w' p' r' hv'
    have relP := rel.put r.s.o.dst p' r' hv'
    rw [put_eq] at relP
    rcases hcase with ⟨hk', rfl⟩ | ⟨hk', hmem⟩
    · refine hk _ _ ⟨⟨g', x, putT n s r.v r.s.o.dst, hx, hp.trans p', relP, slY _ rfl, fun j h => XY j (hS j h), fun j h => XY j (hD j h), ?_⟩, downY⟩
      intro q hq hqk hYq
      rw [hY, Bool.or_eq_true] at hYq
      rcases hYq with h | h
      · exact hE q hq hqk h
      · have h := of_decide_eq_true h
        exfalso
        rw [hrs] at hq
        rcases List.mem_append.1 hq with hx | hx
        · have := (parts_above sok hx).1; omega
        · rcases List.mem_cons.1 hx with rfl | hx
          · exact hk' hqk
          · have := (parts sok).2.2.2.2 q hx; omega
    · refine hk _ _ ⟨⟨g', behind r.s x H', putT n s r.v r.s.o.dst, hmem, hp.trans p', relP, slY _ rfl, ?_, ?_, ?_⟩, downY⟩
      · intro j h
        rcases behind_S.1 h with h | h
        · exact XY j (hS j h)
        · rw [hY]; simp [h]
      · intro j h
        rcases behind_D.1 h with h | h
        · exact XY j (hD j h)
        · exact XY j (anc r.s rm he j h)
      · intro q hq hqk hYq
        rw [hY, Bool.or_eq_true] at hYq
        rcases hYq with h | h
        · exact behind_S.2 (.inl (hE q hq hqk h))
        · exact behind_S.2 (.inr (of_decide_eq_true h))

theorem all_listed {ops : Array Oper} {rs : List Rc} (sok : SOk ops (rs.map (·.s))) (hlen : rs.length = ops.size) {listed : Array Bool} (hsz : listed.size = ops.size) (hr : Region.ready .any ops listed = []) :
    ∀ i, i < ops.size → listed.getD i false = true := by
  intro i
  induction i using Nat.strongRecOn with
  | _ i ih =>
    intro hi
    cases hl : listed.getD i false with
    | true => rfl
    | false =>
      exfalso
      obtain ⟨a, r, b, hrs, hri⟩ := at_index sok i (by omega)
      subst hri
      rw [hrs] at sok
      obtain ⟨p1, p2, p3, p4, p5⟩ := parts sok
      have edges : ∀ e ∈ r.s.o.after, Region.binds .any e = true → e.on < r.s.i := by
        rw [List.map_append] at sok
        have h' := sok.tail
        simp only [List.map_cons] at h'
        cases h' with
        | cons h0 h1 h2 h3 h4 h5 h6 => exact h6
      have : r.s.i ∈ Region.ready .any ops listed := by
        rw [mem_ready]
        refine ⟨?_, r.s.o, p3, fun e he hb => ?_⟩
        · simp only [Array.getD, hsz, hi, dite_true] at hl ⊢; exact hl
        · have := edges e he hb
          exact ih e.on this (by omega)
      rw [hr] at this
      cases this

theorem any_ok [Nu] (hn : NamesOk P) {call : CallF} (hcall : CallOk P T call) {ops : Array Oper} {n : Nat} (hle : n ≤ 4294967296) {s0 : Tr} {d : Dr} (k : DOk P call ops n s0 d) (sok : SOk ops (d.rs.map (·.s))) (hlen : d.rs.length = ops.size)
    {g0 : Gh} {h0 : Heap} {w0 : World} {Q : Exit → Act → World → Prop} (hq : ∀ a w X, (∀ i, i < ops.size → X i = true) → Inv P T n s0 d g0 h0 w0 X a w → Q .normal a w) :
    ∀ (fuel : Nat) (l : List Nat) (listed : Array Bool) (a : Act) (w : World), listed.size = ops.size → (∀ i, i < ops.size → listed.getD i true = false → i ∈ l) → l.length ≤ fuel →
      Inv P T n s0 d g0 h0 w0 (fun j => listed.getD j false) a w → wpAny P .any ops Q fuel listed a w := by
  intro fuel
  induction fuel with
  | zero =>
    intro l listed a w hsz hl hf inv
    have hl0 : l = [] := List.length_eq_zero_iff.1 (by omega)
    subst hl0
    have hall : ∀ i, i < ops.size → listed.getD i true = true := fun i hi => by
      cases h : listed.getD i true with
      | true => rfl
      | false => exact absurd (hl i hi h) (by simp)
    refine ⟨?_, hq a w _ (fun i hi => ?_) inv⟩
    · apply List.eq_nil_iff_forall_not_mem.2
      intro i hi
      obtain ⟨h1, o, ho, _⟩ := mem_ready.1 hi
      have : i < ops.size := (Array.getElem?_eq_some_iff.1 ho).1
      rw [hall i this] at h1
      cases h1
    · have := hall i hi
      simp only [Array.getD, hsz, hi, dite_true] at this ⊢; exact this
  | succ fuel ih =>
    intro l listed a w hsz hl hf inv
    refine ⟨fun hr => hq a w _ (all_listed sok hlen hsz hr) inv, fun i hi => ?_⟩
    obtain ⟨h1, o, ho, he⟩ := mem_ready.1 hi
    have hlt : i < ops.size := (Array.getElem?_eq_some_iff.1 ho).1
    have hX : listed.getD i false = false := by
      simp only [Array.getD, hsz, hlt, dite_true] at h1 ⊢; exact h1
    refine inv.step hn hcall hle k sok (i := i) (by omega) hX ho he (Y := fun j => (listed.setIfInBounds i true).getD j false) ?_ ?_
    · intro j
      by_cases hij : i = j
      · subst hij
        simp [hsz, hlt]
      · rw [getD_set_ne false hij]; simp [hij]
    · intro a' w' inv'
      refine ih (l.erase i) _ a' w' (by simp [hsz]) (fun j hj hlj => ?_) ?_ inv'
      · by_cases hij : i = j
        · subst hij
          simp [hsz, hlt] at hlj
        · rw [getD_set_ne true hij] at hlj
          exact (List.mem_erase_of_ne (Ne.symm hij)).2 (hl j hj hlj)
      · have := hl i hlt h1
        rw [List.length_erase_of_mem this]
        omega

theorem adraw_ok [Nu] (hn : NamesOk P) (hm : P.follows .mixedOrders = true) {call : CallF} (hcall : CallOk P T call) {ops : Array Oper} {st st' : St} (h : adraw P call ops st = some st') (id : Nat) (g : Gh) (w : World) (a : Act) (rel : RelSt T g w a st) :
    (Code.region id ops true).wp P (After T g st.h w .normal st') a w := by
  unfold adraw at h
  split at h
  · cases h
  · rename_i out hst
    split at h
    · cases h
    · rename_i d hd
      split at h
      · rename_i x1 hx1
        cases h
        obtain ⟨n, s0, h0⟩ := st
        simp only at hd
        have hle : n ≤ 4294967296 := rel.f.2.1
        obtain ⟨sok, hlen⟩ := stat_ok ops _ _ _ hst .nil rfl rfl
        obtain ⟨k, hmap, htbl⟩ := dsteps_ok (s0 := s0) hle hd
          { rok := .nil, sl := fun t => rfl, ef := fun j hj => by simp at hj, sub := fun x hx j hj => (by
              rcases List.mem_cons.1 hx with rfl | hx
              · simp at hj
              · cases hx), cl := fun r hr => by cases hr } (fun q hq => by cases hq)
        simp only [List.reverse_reverse, List.map_nil, List.append_nil] at hmap
        rw [← hmap] at sok
        have hlen' : d.rs.length = ops.size := by rw [← hlen, ← hmap, List.length_map]
        refine wp_region_any hm ?_
        obtain ⟨pd, rd⟩ := drew_ok rel.r
        refine any_ok hn hcall hle k sok hlen' (g0 := g) (h0 := h0) (w0 := w) ?_ ops.size (List.range ops.size) _ a _ (by simp) (fun i hi _ => List.mem_range.2 hi) (by simp) ?_
        · intro a' w' X hX ⟨⟨g', x, s, hx, hp, rel', hs, hS, hD, hE⟩, _⟩
          have hxS : x.S = d.effs := by
            apply Nat.eq_of_testBit_eq
            intro j
            cases h1 : d.effs.testBit j with
            | true =>
              obtain ⟨r, hr, h2, h3⟩ := k.ef j h1
              subst h2
              have hlt := sok.lt r.s (List.mem_map_of_mem hr)
              simp only [List.length_map] at hlt
              exact hE r hr h3 (hX _ (by omega))
            | false =>
              cases h2 : x.S.testBit j with
              | false => rfl
              | true => have := k.sub x hx j h2; rw [h1] at this; cases this
          have hxe : x = x1 := by
            have : x ∈ d.tbl.filter fun x => Nat.beq x.S d.effs := List.mem_filter.2 ⟨hx, by rw [hxS]; exact Nat.beq_refl _⟩
            rw [hx1] at this
            exact List.mem_singleton.1 this
          subst hxe
          have same : ∀ i, s.get i = d.s.get i := fun i => by
            rw [hs i, W_agree (Y := fun _ => true), ← k.sl i]
            intro r hr _
            have hlt := sok.lt r.s (List.mem_map_of_mem hr)
            simp only [List.length_map] at hlt
            exact hX _ (by omega)
          refine ⟨rfl, g', hp, rel'.r, ⟨rel'.f.1, rel'.f.2.1, fun i => ?_, fun i hi => ?_, rel'.f.2.2.2.2⟩, rel'.d⟩
          · have := rel'.f.2.2.1 i
            simp only [Tr.tmp, same] at this ⊢
            exact this
          · rw [← same i]; exact rel'.f.2.2.2.1 i hi
        · have hX0 : ∀ j, (Array.replicate ops.size false).getD j false = false := by
            intro j; simp [Array.getD]
          refine ⟨⟨g, ⟨0, 0, h0⟩, s0, htbl _ (by simp), pd, ⟨rd, rel.f.ext pd, rel.d⟩, fun t => ?_, fun j hj => (by simp at hj), fun j hj => (by simp at hj), fun r hr _ h => ?_⟩, fun r hr h => ?_⟩
          · have : ∀ rs : List Rc, W n s0 (fun j => (Array.replicate ops.size false).getD j false) rs t = s0.get t := by
              intro rs
              induction rs with
              | nil => rfl
              | cons r rs ih =>
                show (if (wr n r.s.o.dst t && (Array.replicate ops.size false).getD r.s.i false) = true then _ else _) = _
                rw [hX0, Bool.and_false, if_neg (by simp)]
                exact ih
            exact (this d.rs).symm
          · simp only [hX0] at h; cases h
          · simp only [hX0] at h; cases h
      · cases h

theorem regA_ok [Nu] (hn : NamesOk P) (hm : P.follows .mixedOrders = true) {call : CallF} (hcall : CallOk P T call) : RegOk P T (regA P call) := by
  intro ops draw st st' h id g w a rel
  cases draw with
  | true => exact adraw_ok hn hm hcall h id g w a rel
  | false =>
    refine wp_region_list ?_
    exact steps_ok hn hcall h rel fun g' w' a' p' rel' => ⟨rfl, g', p', rel'⟩

end Go.Am
