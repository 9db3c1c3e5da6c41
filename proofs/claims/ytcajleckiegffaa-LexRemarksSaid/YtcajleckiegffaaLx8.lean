import Derived.Test.YtcajleckiegffaaLx7
namespace Go.Proofs.Ytcajleckiegffaa
set_option linter.unusedSimpArgs false
set_option linter.unusedVariables false
open Go.Am
set_option maxRecDepth 100000

/-! ### The walk of LexRemarks -/

def cleanF (l : List UInt8) : List UInt8 := l.filter fun c => c.toNat ≠ 10

theorem clean_take {m : List UInt8} {i : Nat} {c : UInt8} (hc : m[i]? = some c) : cleanF (m.take (i + 1)) = if c.toNat = 10 then cleanF (m.take i) else cleanF (m.take i) ++ [c] := by
  have hl := (List.getElem?_eq_some_iff.1 hc).1
  have hg : m[i] = c := (List.getElem?_eq_some_iff.1 hc).2
  rw [List.take_succ_eq_append_getElem hl, hg]
  unfold cleanF
  rw [List.filter_append]
  by_cases h : c.toNat = 10 <;> simp [h]

theorem clean_loop {call : CallF} {s m : List UInt8} {b : Int} {v : AV} (hm : m.length ≤ 100000) {Q : Res → Prop}
    (hQ : ∀ h, Q (S4_15 call (.lit (.string ⟨⟨s⟩⟩)) (.lit (.int .i64 b)) v (.lit (.string ⟨⟨cleanF m⟩⟩)) h)) :
    ∀ (k i : Nat) (h : Heap), i ≤ m.length → m.length - i < k →
      Q (S4_16l call k (.lit (.string ⟨⟨s⟩⟩)) (.lit (.string ⟨⟨m⟩⟩)) (.lit (.int .i64 b)) v (.lit (.string ⟨⟨cleanF (m.take i)⟩⟩)) (.lit (.int .i64 i)) h) := by
  intro k
  induction k with
  | zero => intro i h _ hk; omega
  | succ k ih =>
    intro i h hi hk
    show Q (S4_19b call (S4_16l call k) _ _ _ _ _ _ h)
    simp only [S4_19b, lenStr_s, opt_s, fb_lss, test_b, decide_eq_true_eq]
    by_cases hlt : i < m.length
    · rw [if_pos (by omega)]
      obtain ⟨c, hc⟩ : ∃ c, m[i]? = some c := ⟨m[i], List.getElem?_eq_getElem hlt⟩
      have hw : fastWrap .i64 ((i : Int) + 1) = ((i + 1 : Nat) : Int) := by rw [wrap64 (by omega) (by omega)]; rfl
      have ct := clean_take hc
      have hlen : (cleanF (m.take i)).length ≤ m.length := by
        unfold cleanF
        exact Nat.le_trans (List.length_filter_le _ _) (by rw [List.length_take]; omega)
      simp only [S4_18, str_ix, hc, Option.map_some, opt_s, fb_neq, test_b, decide_eq_true_eq, ne_eq, ceq]
      by_cases h10 : c.toNat = 10
      · rw [if_neg (by simp [h10])]
        rw [if_pos h10] at ct
        simp only [S4_17, fb_add, opt_s]
        rw [hw, ← ct]
        exact ih (i + 1) h (by omega) (by omega)
      · rw [if_pos h10, fb_add, opt_s, hw, cut_str (by omega) (by omega) (by omega), opt_s]
        rw [if_neg h10] at ct
        have e1 : (m.drop (i : Int).toNat).take (((i + 1 : Nat) : Int).toNat - (i : Int).toNat) = [c] := by
          rw [Int.toNat_natCast, Int.toNat_natCast, Nat.add_sub_cancel_left, List.drop_eq_getElem_cons hlt]
          have : m[i] = c := (List.getElem?_eq_some_iff.1 hc).2
          simp [this]
        rw [e1, fb_adds (by simp; omega), opt_s]
        simp only [S4_17, fb_add, opt_s]
        rw [hw, ← ct]
        exact ih (i + 1) h (by omega) (by omega)
    · rw [if_neg (by omega)]
      have : m.take i = m := List.take_of_length_le (by omega)
      rw [this]
      exact hQ h

def blank (j : Nat) : UInt8 := if j % 4 = 0 then 32 else if j % 4 = 1 then 9 else if j % 4 = 2 then 10 else 13
def aheadF (n : Nat) : List UInt8 := (List.range n).map blank

theorem ahead_spc (n : Nat) : ∀ c ∈ aheadF n, spc c = true := by
  intro c hc
  obtain ⟨j, _, rfl⟩ := List.mem_map.1 hc
  unfold blank
  split
  · decide
  split
  · decide
  split <;> decide

theorem blank_pick (j : Nat) (h : Heap) : ∃ f, (indexAddrS 1 (.isl 1 true [.lit (.string ⟨⟨[32]⟩⟩), .lit (.string ⟨⟨[9]⟩⟩), .lit (.string ⟨⟨[10]⟩⟩), .lit (.string ⟨⟨[13]⟩⟩)]) (.lit (.int .i64 ((j % 4 : Nat) : Int))) h) = some (.iptr f 0) ∧ loadX none (.iptr f 0) h = some (.lit (.string ⟨⟨[blank j]⟩⟩)) := by
  rw [ixa_isl (Int.natCast_nonneg _), Int.toNat_natCast]
  have h4 : j % 4 < 4 := Nat.mod_lt _ (by omega)
  unfold blank
  rcases (by omega : j % 4 = 0 ∨ j % 4 = 1 ∨ j % 4 = 2 ∨ j % 4 = 3) with e | e | e | e <;> rw [e] <;> exact ⟨_, rfl, rfl⟩

theorem four_bytes (h : Heap) : bsliceX 1 (.lit (.string ⟨⟨[]⟩⟩)) 4 [(0, (.lit (.string ⟨⟨[32]⟩⟩))), (1, (.lit (.string ⟨⟨[9]⟩⟩))), (2, (.lit (.string ⟨⟨[10]⟩⟩))), (3, (.lit (.string ⟨⟨[13]⟩⟩)))] h =
    some (.isl 1 true [.lit (.string ⟨⟨[32]⟩⟩), .lit (.string ⟨⟨[9]⟩⟩), .lit (.string ⟨⟨[10]⟩⟩), .lit (.string ⟨⟨[13]⟩⟩)], h) := nr rfl

theorem ahead_loop {call : CallF} {s t : List UInt8} {B : Nat} {v : AV} (hB : B < 40) {Q : Res → Prop}
    (hQ : ∀ h, Q (S4_8 call (.lit (.string ⟨⟨s⟩⟩)) (.lit (.int .i64 B)) v (.lit (.string ⟨⟨t⟩⟩)) (.lit (.string ⟨⟨aheadF B⟩⟩)) h)) :
    ∀ (k i : Nat) (h : Heap), i ≤ B → B - i < k →
      Q (S4_9l call k (.lit (.string ⟨⟨s⟩⟩)) (.lit (.int .i64 B)) v (.lit (.string ⟨⟨t⟩⟩)) (.lit (.string ⟨⟨aheadF i⟩⟩)) (.lit (.int .i64 i)) h) := by
  intro k
  induction k with
  | zero => intro i h _ hk; omega
  | succ k ih =>
    intro i h hi hk
    show Q (S4_10b call (S4_9l call k) _ _ _ _ _ _ h)
    simp only [S4_10b, opt_s, fb_lss, test_b, decide_eq_true_eq]
    by_cases hlt : i < B
    · rw [if_pos (by omega)]
      have hw : fastWrap .i64 ((i : Int) + 1) = ((i + 1 : Nat) : Int) := by rw [wrap64 (by omega) (by omega)]; rfl
      have hr : (i : Int).tmod 4 = ((i % 4 : Nat) : Int) := by
        rw [Int.tmod_eq_emod_of_nonneg (by omega)]; rfl
      obtain ⟨f, h1, h2⟩ := blank_pick i h
      rw [four_bytes, opt2_s, rem_int (by decide), opt_s, hr, h1, opt_s, h2, opt_s, fb_adds (by simp [aheadF]; omega), opt_s, fb_add, opt_s, hw]
      have : aheadF i ++ [blank i] = aheadF (i + 1) := by unfold aheadF; rw [List.range_succ, List.map_append]; rfl
      rw [this]
      exact ih (i + 1) h (by omega) (by omega)
    · rw [if_neg (by omega)]
      have : i = B := by omega
      subst this
      exact hQ h

theorem same_loop {call : CallF} (C : SplitCall call) {toks : List Tok} {B : Nat} {v u : AV} (hB : B < 40) (hv : SliceV v 3 (toks.map tokAV)) (hu : SliceV u 3 ((toks.map (shTok B)).map tokAV)) (hl : toks.length ≤ 100000) (hp : ∀ t ∈ toks, t.place ≤ 100000) :
    ∀ (k i : Nat) (h : Heap), i ≤ toks.length → toks.length - i < k → ∃ h', S4_1l call k (.lit (.int .i64 B)) v u (.lit (.int .i64 i)) h = some (.lit (.bool true), h') := by
  intro k
  induction k with
  | zero => intro i h _ hk; omega
  | succ k ih =>
    intro i h hi hk
    show ∃ h', S4_4b call (S4_1l call k) _ _ _ _ h = _
    simp only [S4_4b, hv.len, opt_s, fb_lss, test_b, List.length_map, decide_eq_true_eq]
    by_cases hlt : i < toks.length
    · rw [if_pos (by omega)]
      have hw : fastWrap .i64 ((i : Int) + 1) = ((i + 1 : Nat) : Int) := by rw [wrap64 (by omega) (by omega)]; rfl
      obtain ⟨t, htj⟩ : ∃ t, toks[i]? = some t := ⟨toks[i], List.getElem?_eq_getElem hlt⟩
      have hpt := hp t (List.mem_of_getElem? htj)
      have e1 : ∀ h, indexAddrS 3 v (.lit (.int .i64 i)) h = some (.iptr (tokAV t) 0) := fun h => hv.ix (by simp [htj]) _ h
      have e2 : ∀ h, indexAddrS 3 u (.lit (.int .i64 i)) h = some (.iptr (tokAV (shTok B t)) 0) := fun h => hu.ix (by simp [htj]) _ h
      have l0 : ∀ t h, loadX none (.iptr (tokAV t) (0 + 0)) h = some (.lit (.int .i64 t.kind)) := fun t h => rfl
      have l1 : ∀ t h, loadX none (.iptr (tokAV t) (0 + 1)) h = some (.lit (.int .i64 t.place)) := fun t h => rfl
      have l2 : ∀ t h, loadX none (.iptr (tokAV t) (0 + 2)) h = some (.lit (.string ⟨⟨t.text⟩⟩)) := fun t h => rfl
      simp only [S4_3, e1, e2, opt_s, eqH_s, fa_iptr, l0, l1, l2, fb_neq, fb_neqs, test_b, shTok, ne_eq, not_true_eq_false, decide_false, Bool.false_eq_true, if_false, fb_add]
      rw [wrap64 (n := (t.place : Int) + B) (by omega) (by omega), if_neg (by simp)]
      simp only [S4_2, fb_add, opt_s]
      rw [hw]
      exact ih (i + 1) h (by omega) (by omega)
    · rw [if_neg (by omega)]
      simp only [S4_0, C.known, opt2_s]
      exact ⟨_, rfl⟩

theorem chain_place {s : List UInt8} : ∀ {l : List Tok} {a e : Nat}, chain s a l = some e → ∀ t ∈ l, t.place < s.length
  | [], a, e, h, t, ht => by cases ht
  | x :: l, a, e, h, t, ht => by
    simp only [chain] at h
    cases hx : tokEnd s a x with
    | none => rw [hx] at h; cases h
    | some b =>
      rw [hx] at h
      rcases List.mem_cons.1 ht with rfl | ht
      · unfold tokEnd at hx
        split at hx
        · rename_i hp; exact hp.2
        · cases hx
      · exact chain_place (l := l) (a := b) h t ht

theorem tail_ok {call : CallF} (C : SplitCall call) {s m : List UInt8} {v : AV} (he : (splitF s).err = 0) (hv : SliceV v 3 ((splitF s).toks.map tokAV)) (hlm : s.length + m.length + 60 ≤ 8192) {B : Nat} (hB : B < 40) (h : Heap) :
    ∃ h', S4_8 call (.lit (.string ⟨⟨s⟩⟩)) (.lit (.int .i64 B)) v (.lit (.string ⟨⟨cleanF m⟩⟩)) (.lit (.string ⟨⟨aheadF B⟩⟩)) h = some (.lit (.bool true), h') := by
  have hcl : (cleanF m).length ≤ m.length := List.length_filter_le _ _
  have hal : (aheadF B).length = B := by simp [aheadF]
  have law := remarks_law (aheadF B) s (cleanF m) (ahead_spc B) (fun c hc => by have := (List.mem_filter.1 hc).2; simpa using this) he (by simp [hal]; omega)
  rw [hal] at law
  obtain ⟨u, h1, h2⟩ := C.split (aheadF B ++ s ++ [10, 59] ++ cleanF m) h
  rw [law] at h1 h2
  have hch := splitF_chain s
  generalize splitF s = R at he hv hch h1 h2 law
  rcases hch with ⟨_, e, hc, hle⟩ | ⟨hne, _⟩
  case inr => exact absurd he hne
  have hcl2 := chain_len hc
  simp only [S4_8]
  rw [fb_adds (by omega), opt_s, fb_adds (by simp; omega), opt_s, fb_adds (by simp; omega), opt_s, h1, opt2_s]
  simp only [extract_tup, List.getElem?_cons_zero, List.getElem?_cons_succ, opt_s, S4_7, fb_neq, test_b, h2.len, hv.len, List.length_map, ne_eq, not_true_eq_false, decide_false, Bool.false_eq_true, if_false]
  rw [if_neg (by simp)]
  simp only [S4_6, S4_5]
  have := same_loop C hB hv h2 (by omega) (fun t ht => by have := chain_place hc t ht; omega) rounds 0 h (by omega) (by simp only [rounds]; omega)
  exact this

theorem F4_ok {call : CallF} (C : SplitCall call) (s m : List UInt8) (b : Int) (hm : m.length ≤ 140737488351232) (hb1 : -9223372036854775808 ≤ b) (hb2 : b ≤ 9223372036854775807) (h : Heap) :
    ∃ h', F4 call (.lit (.string ⟨⟨s⟩⟩)) (.lit (.string ⟨⟨m⟩⟩)) (.lit (.int .i64 b)) h = some (.lit (.bool true), h') := by
  obtain ⟨v, h1, h2⟩ := C.split s h
  have hsm := splitF_small s
  have htail := fun he hlm => @tail_ok call C s m v he h2 hlm
  generalize hR : splitF s = R at h1 h2 hsm
  rw [hR] at htail
  simp only [F4, S4_25, h1, opt2_s, extract_tup, List.getElem?_cons_zero, List.getElem?_cons_succ, opt_s, S4_24, fb_neq, test_b, decide_eq_true_eq]
  have kn : ∀ h, ∃ h', S4_23 call (.lit (.string ⟨⟨s⟩⟩)) (.lit (.string ⟨⟨m⟩⟩)) (.lit (.int .i64 b)) v (.lit (.bool true)) h = some (.lit (.bool true), h') := fun h => by
    simp only [S4_23, test_b, if_true, C.known, opt2_s]; exact ⟨_, rfl⟩
  by_cases he : R.err = 0
  case neg => rw [if_pos (by omega)]; exact kn h
  rw [if_neg (by rw [he]; simp)]
  have hs := hsm he
  simp only [lenStr_s, opt_s, fb_add, fb_gtr]
  rw [wrap64 (n := (s.length : Int) + m.length) (by omega) (by omega), wrap64 (by omega) (by omega)]
  by_cases hlm : 8192 < s.length + m.length + 60
  · rw [show decide ((8192 : Int) < (s.length : Int) + m.length + 60) = true from decide_eq_true (by omega)]
    exact kn h
  rw [show decide ((8192 : Int) < (s.length : Int) + m.length + 60) = false from decide_eq_false (by omega)]
  simp only [S4_23, test_b, Bool.false_eq_true, if_false, S4_22, S4_21, S4_20]
  have run : ∀ (B : Nat) (b' : Int), b'.tmod 40 = B → B < 40 → ∀ h, ∃ h', S4_14 call (.lit (.string ⟨⟨s⟩⟩)) (.lit (.int .i64 b')) v (.lit (.string ⟨⟨cleanF m⟩⟩)) h = some (.lit (.bool true), h') := by
    intro B b' hb' hB h
    simp only [S4_14]
    rw [rem_int (by decide), opt_s, hb']
    simp only [S4_13, S4_12, S4_11]
    exact ahead_loop (Q := fun r => ∃ h', r = some (.lit (.bool true), h')) hB (fun h => htail he (by omega) hB h) rounds 0 h (by omega) (by simp only [rounds]; omega)
  have := clean_loop (call := call) (s := s) (m := m) (b := b) (v := v) (by omega) (Q := fun r => ∃ h', r = some (.lit (.bool true), h')) (fun h => by
    simp only [S4_15, fb_lss, opt_s, test_b, decide_eq_true_eq]
    by_cases hb : b < 0
    · rw [if_pos hb, fb_add, opt_s, wrap64 (by omega) (by omega), neg_int, opt_s, kwrap64 (by omega) (by omega)]
      have e : (0 - (b + 1)).tmod 40 = (((0 - (b + 1)).toNat % 40 : Nat) : Int) := by
        rw [Int.tmod_eq_emod_of_nonneg (by omega)]; omega
      exact run _ _ e (Nat.mod_lt _ (by omega)) h
    · rw [if_neg hb]
      have e : b.tmod 40 = ((b.toNat % 40 : Nat) : Int) := by
        rw [Int.tmod_eq_emod_of_nonneg (by omega)]; omega
      exact run _ _ e (Nat.mod_lt _ (by omega)) h) rounds 0 h (by omega) (by simp only [rounds]; omega)
  simp only [List.take_zero] at this
  exact this

end Go.Proofs.Ytcajleckiegffaa
