import Derived.Test.YtcajleckiegffaaRd5
set_option linter.unusedSectionVars false
namespace Go.Proofs.Ytcajleckiegffaa
set_option linter.unusedSimpArgs false
set_option linter.unusedVariables false
open Go.Am
set_option maxRecDepth 100000

/-! ### Tokens that are a tree; the document's check of brackets against parseM -/

mutual
inductive Par : List Tok → T → Prop
  | leaf {x : Tok} : x.kind ≠ 1 → x.kind ≠ 2 → Par [x] (.mk x.kind x.place x.text [])
  | node {x y : Tok} {ts : List Tok} {ks : List T} : x.kind = 1 → x.text = [] → y.kind = 2 → ParL ts ks → Par (x :: (ts ++ [y])) (.mk 1 x.place [] ks)
inductive ParL : List Tok → List T → Prop
  | nil : ParL [] []
  | cons {a b : List Tok} {t : T} {ks : List T} : Par a t → ParL b ks → ParL (a ++ b) (t :: ks)
end

theorem ParL.snoc : ∀ {ks : List T} {a b : List Tok} {t : T}, ParL a ks → Par b t → ParL (a ++ b) (ks ++ [t])
  | [], a, b, t, h, hb => by
    cases h
    have := ParL.cons hb .nil
    rwa [List.append_nil] at this
  | k :: ks, a, b, t, h, hb => by
    cases h with
    | cons h1 h2 =>
      have := ParL.cons h1 (ParL.snoc h2 hb)
      rw [List.append_assoc]
      exact this

theorem Par.pos {a : List Tok} {t : T} (h : Par a t) : ∃ x r, a = x :: r ∧ x.kind ≠ 2 := by
  cases h with
  | leaf h1 h2 => exact ⟨_, _, rfl, h2⟩
  | node h1 _ _ _ => exact ⟨_, _, rfl, by omega⟩

def chkM (len : Nat) : List Tok → Bool → Nat → Option (Nat × Nat)
  | [], _, d => if 0 < d then some (10, len) else none
  | x :: r, f, d =>
    if f = false ∧ d = 0 ∧ x.kind ≠ 2 then some (11, x.place)
    else if x.kind = 1 then (if 40 < d + 1 then some (14, x.place) else chkM len r false (d + 1))
    else if x.kind = 2 then (if d = 0 then some (12, x.place) else chkM len r false (d - 1))
    else chkM len r false d

inductive ParS : List Tok → List (Nat × List T) → Prop
  | nil : ParS [] []
  | snoc {pre ts : List Tok} {x : Tok} {st : List (Nat × List T)} {ks : List T} : ParS pre st → x.kind = 1 → x.text = [] → ParL ts ks → ParS (pre ++ x :: ts) (st ++ [(x.place, ks)])

theorem ParS.zero {pre : List Tok} {st : List (Nat × List T)} (h : ParS pre st) (he : st = []) : pre = [] := by
  cases h with
  | nil => rfl
  | snoc _ _ _ _ => simp at he

theorem ParS.last {pre : List Tok} {st : List (Nat × List T)} (h : ParS pre st) (he : st ≠ []) : ∃ pre0 x ts st0 ks, pre = pre0 ++ x :: ts ∧ st = st0 ++ [(x.place, ks)] ∧ ParS pre0 st0 ∧ x.kind = 1 ∧ x.text = [] ∧ ParL ts ks := by
  cases h with
  | nil => exact absurd rfl he
  | snoc h1 h2 h3 h4 => exact ⟨_, _, _, _, _, rfl, rfl, h1, h2, h3, h4⟩

/-- One tree more among the kids of the last open one. -/
theorem ParS.add {pre b : List Tok} {st : List (Nat × List T)} {t : T} (h : ParS pre st) (he : st ≠ []) (hb : Par b t) : ParS (pre ++ b) (addKid st t) ∧ (addKid st t).length = st.length := by
  obtain ⟨pre0, x, ts, st0, ks, rfl, rfl, h1, h2, h3, h4⟩ := h.last he
  have e : addKid (st0 ++ [(x.place, ks)]) t = st0 ++ [(x.place, ks ++ [t])] := by simp [addKid]
  rw [e]
  refine ⟨?_, by simp⟩
  have := ParS.snoc h1 h2 h3 (h4.snoc hb)
  rw [List.append_assoc, List.cons_append]
  exact this

/-- What has been gone through, and what stands of it. -/
inductive PI : List Tok → List (Nat × List T) → List T → Bool → Prop
  | start : PI [] [] [] true
  | mid {pre : List Tok} {st : List (Nat × List T)} : ParS pre st → st ≠ [] → PI pre st [] false
  | done {pre : List Tok} {t : T} : Par pre t → PI pre [] [t] false

theorem chk_law (len : Nat) : ∀ (l pre : List Tok) (st : List (Nat × List T)) (whole : List T) (f : Bool), PI pre st whole f → (∀ x ∈ l, x.kind = 1 → x.text = []) → (f = true → l ≠ []) →
    (∃ e p, chkM len l f st.length = some (e, p) ∧ e ≠ 0 ∧ parseM len l st whole = ⟨noTree, e, p⟩) ∨ (chkM len l f st.length = none ∧ ∃ t, parseM len l st whole = ⟨t, 0, 0⟩ ∧ Par (pre ++ l) t) := by
  intro l
  induction l with
  | nil =>
    intro pre st whole f hp _ hf
    cases hp with
    | start => exact absurd rfl (hf rfl)
    | mid h1 h2 =>
      have : 0 < st.length := List.length_pos_iff.2 h2
      refine .inl ⟨10, len, ?_, by decide, ?_⟩
      · simp only [chkM]; rw [if_pos this]
      · simp only [parseM]; rw [if_pos this]
    | done h1 => exact .inr ⟨rfl, _, rfl, by rw [List.append_nil]; exact h1⟩
  | cons x r ih =>
    intro pre st whole f hp hx _
    have hx' : ∀ y ∈ r, y.kind = 1 → y.text = [] := fun y hy => hx y (List.mem_cons_of_mem _ hy)
    have stepS : ∀ {st' : List (Nat × List T)} {whole' : List T}, PI (pre ++ [x]) st' whole' false →
        (∃ e p, chkM len r false st'.length = some (e, p) ∧ e ≠ 0 ∧ parseM len r st' whole' = ⟨noTree, e, p⟩) ∨ (chkM len r false st'.length = none ∧ ∃ t, parseM len r st' whole' = ⟨t, 0, 0⟩ ∧ Par (pre ++ x :: r) t) := by
      intro st' whole' h
      have := ih (pre ++ [x]) st' whole' false h hx' (fun h => by cases h)
      rwa [List.append_assoc, List.singleton_append] at this
    cases hp with
    | done h1 =>
      by_cases h2 : x.kind = 2
      · have c : chkM len (x :: r) false 0 = some (12, x.place) := by simp [chkM, h2]
        have q : ∀ t, parseM len (x :: r) [] [t] = ⟨noTree, 12, x.place⟩ := fun t => by simp [parseM, h2]
        exact .inl ⟨12, x.place, c, by decide, q _⟩
      · have c : chkM len (x :: r) false 0 = some (11, x.place) := by simp [chkM, h2]
        have q : ∀ t, parseM len (x :: r) [] [t] = ⟨noTree, 11, x.place⟩ := fun t => by simp [parseM, h2]
        exact .inl ⟨11, x.place, c, by decide, q _⟩
    | start =>
      by_cases h1 : x.kind = 1
      · have c : chkM len (x :: r) true 0 = chkM len r false 1 := by simp [chkM, h1]
        have q : parseM len (x :: r) [] [] = parseM len r [(x.place, [])] [] := by simp [parseM, h1]
        have := stepS (st' := [(x.place, [])]) (whole' := []) (.mid (ParS.snoc .nil h1 (hx x (List.mem_cons_self ..) h1) .nil) (by simp))
        rw [show ([] : List (Nat × List T)).length = 0 from rfl, c, q]
        exact this
      · by_cases h2 : x.kind = 2
        · have c : chkM len (x :: r) true 0 = some (12, x.place) := by simp [chkM, h2]
          have q : parseM len (x :: r) [] [] = ⟨noTree, 12, x.place⟩ := by simp [parseM, h2]
          exact .inl ⟨12, x.place, c, by decide, q⟩
        · have c : chkM len (x :: r) true 0 = chkM len r false 0 := by simp [chkM, h1, h2]
          have q : parseM len (x :: r) [] [] = parseM len r [] [.mk x.kind x.place x.text []] := by simp [parseM, h1, h2]
          have := stepS (st' := []) (whole' := [.mk x.kind x.place x.text []]) (.done (Par.leaf h1 h2))
          rw [show ([] : List (Nat × List T)).length = 0 from rfl, c, q]
          exact this
    | mid hs hne =>
      have hpos : 0 < st.length := List.length_pos_iff.2 hne
      by_cases h1 : x.kind = 1
      · by_cases h40 : 40 ≤ st.length
        · have h41 : 40 < st.length + 1 := by omega
          have c : chkM len (x :: r) false st.length = some (14, x.place) := by simp [chkM, h1, h41, hne]
          have q : parseM len (x :: r) st [] = ⟨noTree, 14, x.place⟩ := by simp [parseM, h1, h40]
          exact .inl ⟨14, x.place, c, by decide, q⟩
        · have h41 : ¬ 40 < st.length + 1 := by omega
          have c : chkM len (x :: r) false st.length = chkM len r false (st.length + 1) := by
            simp only [chkM]
            rw [if_neg (fun h => by have := h.2.1; omega), if_pos h1, if_neg h41]
          have q : parseM len (x :: r) st [] = parseM len r (st ++ [(x.place, [])]) [] := by
            simp only [parseM]
            rw [if_neg (fun h => h40 h.2), if_neg (fun h => by have := h.1; omega), if_neg (by simp), if_pos h1]
          have := stepS (st' := st ++ [(x.place, [])]) (whole' := []) (.mid (ParS.snoc hs h1 (hx x (List.mem_cons_self ..) h1) .nil) (by simp))
          rw [List.length_append] at this
          rw [c, q]
          exact this
      · by_cases h2 : x.kind = 2
        · obtain ⟨pre0, x0, ts, st0, ks, rfl, rfl, g1, g2, g3, g4⟩ := hs.last hne
          have hn := Par.node g2 g3 h2 g4
          have c : chkM len (x :: r) false (st0 ++ [(x0.place, ks)]).length = chkM len r false st0.length := by
            simp only [chkM]
            rw [if_neg (fun h => by have := h.2.1; omega), if_neg h1, if_pos h2, if_neg (by omega)]
            simp
          have q : parseM len (x :: r) (st0 ++ [(x0.place, ks)]) [] = if st0.length = 0 then parseM len r st0 [.mk 1 x0.place [] ks] else parseM len r (addKid st0 (.mk 1 x0.place [] ks)) [] := by
            simp only [parseM]
            rw [if_neg (fun h => h1 h.1), if_neg (fun h => by have := h.2; omega), if_neg (by simp), if_neg h1, if_pos h2]
            simp
          rw [c, q]
          by_cases h0 : st0 = []
          · subst h0
            have := g1.zero rfl
            subst this
            rw [if_pos (show ([] : List (Nat × List T)).length = 0 from rfl)]
            have := stepS (st' := []) (whole' := [.mk 1 x0.place [] ks]) (.done (by simpa using hn))
            exact this
          · have hl0 : 0 < st0.length := List.length_pos_iff.2 h0
            rw [if_neg (by omega)]
            obtain ⟨a1, a2⟩ := g1.add h0 hn
            have := stepS (st' := addKid st0 (.mk 1 x0.place [] ks)) (whole' := []) (.mid (by simpa using a1) (by intro e; rw [e] at a2; simp at a2; omega))
            rw [a2] at this
            exact this
        · obtain ⟨a1, a2⟩ := hs.add hne (Par.leaf h1 h2)
          have c : chkM len (x :: r) false st.length = chkM len r false st.length := by
            simp only [chkM]
            rw [if_neg (fun h => by have := h.2.1; omega), if_neg h1, if_neg h2]
          have q : parseM len (x :: r) st [] = parseM len r (addKid st (.mk x.kind x.place x.text [])) [] := by
            simp only [parseM]
            rw [if_neg (fun h => h1 h.1), if_neg (fun h => h2 h.1), if_neg (by simp), if_neg h1, if_neg h2, if_neg (by omega)]
          have := stepS (st' := addKid st (.mk x.kind x.place x.text [])) (whole' := []) (.mid a1 (by intro e; rw [e] at a2; simp at a2; omega))
          rw [a2] at this
          rw [c, q]
          exact this

/-! ### An opening bracket bears no text -/

theorem lexM_open (s : List UInt8) : ∀ (k q i fr : Nat) (text : List UInt8) (acc : List Tok) (r : LexR), lexM s k q i fr text acc = some r → (∀ x ∈ acc, x.kind = 1 → x.text = []) → ∀ x ∈ r.toks, x.kind = 1 → x.text = [] := by
  have snoc : ∀ {acc : List Tok} {y : Tok}, (∀ x ∈ acc, x.kind = 1 → x.text = []) → (y.kind = 1 → y.text = []) → ∀ x ∈ acc ++ [y], x.kind = 1 → x.text = [] := by
    intro acc y h hy x hx
    rcases List.mem_append.1 hx with hx | hx
    · exact h x hx
    · rw [List.mem_singleton] at hx; subst hx; exact hy
  have nil : ∀ {e p : Nat} {r : LexR}, some (⟨[], e, p⟩ : LexR) = some r → ∀ x ∈ r.toks, x.kind = 1 → x.text = [] := by
    intro e p r h x hx
    cases h; cases hx
  intro k
  induction k with
  | zero => intro q i fr text acc r h; cases q <;> cases h
  | succ k ih =>
    intro q i fr text acc r h ha
    match q, h with
    | 0, h =>
      simp only [lexM] at h
      split at h
      · cases h; exact ha
      · split at h
        · exact ih _ _ _ _ _ _ h ha
        split at h
        · exact ih _ _ _ _ _ _ h ha
        split at h
        · exact ih _ _ _ _ _ _ h (snoc ha fun _ => rfl)
        split at h
        · exact ih _ _ _ _ _ _ h (snoc ha fun _ => rfl)
        split at h
        · exact ih _ _ _ _ _ _ h ha
        · exact ih _ _ _ _ _ _ h ha
    | 1, h =>
      simp only [lexM] at h
      split at h
      · exact ih _ _ _ _ _ _ h ha
      · split at h
        · exact ih _ _ _ _ _ _ h ha
        · exact ih _ _ _ _ _ _ h ha
    | 2, h =>
      simp only [lexM] at h
      split at h
      · exact nil h
      · split at h
        · split at h
          · exact nil h
          · exact ih _ _ _ _ _ _ h (snoc ha fun e => by cases e)
        split at h
        · split at h
          · exact nil h
          · exact ih _ _ _ _ _ _ h ha
        split at h
        · exact nil h
        · exact ih _ _ _ _ _ _ h ha
    | 3, h =>
      simp only [lexM] at h
      split at h
      · exact ih _ _ _ _ _ _ h (snoc ha fun e => by cases e)
      · split at h
        · exact ih _ _ _ _ _ _ h (snoc ha fun e => by cases e)
        split at h
        · exact nil h
        · exact ih _ _ _ _ _ _ h ha
    | q + 4, h => simp only [lexM] at h; cases h

theorem splitF_open (s : List UInt8) : ∀ x ∈ (splitF s).toks, x.kind = 1 → x.text = [] := by
  by_cases hs : 8192 < s.length
  · unfold splitF; rw [if_pos hs]; intro x hx; cases hx
  · exact lexM_open s _ _ _ _ _ _ _ (splitF_some (by omega)) (fun x hx => by cases hx)

/-- Tokens without a fault: the tree that they are. -/
theorem parse_law (s : List UInt8) (h : (splitF s).toks ≠ []) : (∃ e p, chkM s.length (splitF s).toks true 0 = some (e, p) ∧ e ≠ 0 ∧ parseM s.length (splitF s).toks [] [] = ⟨noTree, e, p⟩) ∨ (chkM s.length (splitF s).toks true 0 = none ∧ ∃ t, parseM s.length (splitF s).toks [] [] = ⟨t, 0, 0⟩ ∧ Par (splitF s).toks t) := by
  have := chk_law s.length (splitF s).toks [] [] [] true .start (splitF_open s) (fun _ => h)
  simpa using this

end Go.Proofs.Ytcajleckiegffaa
