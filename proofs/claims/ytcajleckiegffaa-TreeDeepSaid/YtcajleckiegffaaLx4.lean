import Derived.Test.YtcajleckiegffaaLx3
namespace Go.Proofs.Ytcajleckiegffaa
set_option linter.unusedSimpArgs false
set_option linter.unusedVariables false
open Go.Am
set_option maxRecDepth 100000

/-! ### The walk of LexPlaces -/

/-- A slice as it is handed to another function. -/
def SliceV (v : AV) (sz : Nat) (es : List AV) : Prop := (v = .lit (.slice none 0 0) ∧ es = []) ∨ ∃ f, v = .isl sz f es

theorem SliceV.len {v : AV} {sz : Nat} {es : List AV} (w : SliceV v sz es) : lenS v = some (.lit (.int .i64 es.length)) := by
  rcases w with ⟨rfl, rfl⟩ | ⟨f, rfl⟩ <;> rfl

theorem SliceV.ix {v : AV} {sz : Nat} {es : List AV} (w : SliceV v sz es) {n : Nat} {e : AV} (he : es[n]? = some e) (k : IntKind) (h : Heap) : indexAddrS sz v (.lit (.int k (n : Int))) h = some (.iptr e 0) := by
  rcases w with ⟨rfl, rfl⟩ | ⟨f, rfl⟩
  · simp at he
  · rw [ixa_isl (Int.natCast_nonneg _), Int.toNat_natCast, he]; rfl

theorem SliceV.of {h : Heap} {v : AV} {sz : Nat} {es : List AV} {o : Option Nat} (w : OwnS h v sz es o) (hf : es.all free1 = true) : ∃ u ids, snap1 h v = some (u, ids) ∧ SliceV u sz es := by
  obtain ⟨ids, hi⟩ := w.snap hf
  refine ⟨_, ids, hi, ?_⟩
  cases o with
  | none => exact .inl ⟨rfl, w.2⟩
  | some id => exact .inr ⟨false, rfl⟩

def boxTok (t : Tok) : AObj := .arr ⟨3, false, false, [tokAV t]⟩

theorem tok_load (t : Tok) (h : Heap) : loadX (some 3) (.iptr (tokAV t) 0) h = some (tokAV t) := load_iptrA (n := 3) h rfl
theorem tok_box (t : Tok) (h : Heap) (k : AV → Heap → Res) :
    (opt2 (box (.agg [(.lit (.int .i64 0)), (.lit (.int .i64 0)), (.lit (.string ⟨⟨[]⟩⟩))]) h) fun p h1 => optH (storeX 3 p (tokAV t) h1) fun h2 => k p h2) = k (.ptr h.length 0 0) (h ++ [boxTok t]) := by
  have e1 := box_agg (cs := [(.lit (.int .i64 0)), (.lit (.int .i64 0)), (.lit (.string ⟨⟨[]⟩⟩))]) h (by simp) rfl
  have e2 := store_box (n := 3) (cs := [(.lit (.int .i64 0)), (.lit (.int .i64 0)), (.lit (.string ⟨⟨[]⟩⟩))]) (ds := [.lit (.int .i64 t.kind), .lit (.int .i64 t.place), .lit (.string ⟨⟨t.text⟩⟩)]) h rfl rfl (by decide) rfl
  rw [e1, opt2_s]
  show optH (storeX 3 (.ptr h.length 0 0) (tokAV t) (h ++ [.arr ⟨3, false, false, _⟩])) _ = _
  unfold tokAV
  rw [e2]
  rfl
theorem tok_kind (t : Tok) (h : Heap) : loadX none (.ptr h.length 0 0) (h ++ [boxTok t]) = some (.lit (.int .i64 t.kind)) := load_box h 3 0 false false _
theorem tok_place (t : Tok) (h : Heap) : loadX none (.ptr h.length 0 (0 + 1)) (h ++ [boxTok t]) = some (.lit (.int .i64 t.place)) := load_box h 3 1 false false _
theorem tok_text (t : Tok) (h : Heap) : loadX none (.ptr h.length 0 (0 + 2)) (h ++ [boxTok t]) = some (.lit (.string ⟨⟨t.text⟩⟩)) := load_box h 3 2 false false _
theorem tok_kind' (t : Tok) (h : Heap) : loadX none (.ptr h.length 0 (0 + 0)) (h ++ [boxTok t]) = some (.lit (.int .i64 t.kind)) := load_box h 3 0 false false _

structure SplitCall (call : CallF) : Prop where
  split : ∀ (s : List UInt8) h, ∃ v, call 10 [.lit (.string ⟨⟨s⟩⟩)] h = some (.tup [v, .lit (.int .i64 (splitF s).err), .lit (.int .i64 (splitF s).pos)], h) ∧ SliceV v 3 ((splitF s).toks.map tokAV)
  known : ∀ h, call 11 [] h = some (.lit (.bool true), h)

theorem str_ix (l : List UInt8) (k : IntKind) (n : Nat) : fastIndex (.lit (.string ⟨⟨l⟩⟩)) (.lit (.int k (n : Int))) = (l[n]?).map fun b => .lit (.int .u8 b.toNat) := by
  rw [ix_str (Int.natCast_nonneg _), Int.toNat_natCast]

theorem chain_le {s : List UInt8} : ∀ {l : List Tok} {a e : Nat}, chain s a l = some e → a ≤ e
  | [], a, e, h => by cases h; exact Nat.le_refl _
  | t :: l, a, e, h => by
    simp only [chain] at h
    cases ht : tokEnd s a t with
    | none => rw [ht] at h; cases h
    | some b =>
      rw [ht] at h
      have h1 := chain_le (l := l) (a := b) h
      unfold tokEnd at ht
      split at ht
      case isFalse => cases ht
      rename_i hp
      split at ht
      · split at ht <;> cases ht; omega
      · split at ht <;> cases ht; omega
      · split at ht <;> cases ht; omega
      · split at ht <;> cases ht; omega
      · cases ht

theorem places_loop {call : CallF} (C : SplitCall call) {s : List UInt8} (hs : s.length ≤ 8192) {toks : List Tok} {v : AV} (hv : SliceV v 3 (toks.map tokAV)) {e : Nat} (he : e ≤ s.length) (ht : toks.length ≤ 100000000000) :
    ∀ (k j a : Nat) (h : Heap), chain s a (toks.drop j) = some e → j ≤ toks.length → toks.length - j < k → ∃ h', S3_1l call k (.lit (.string ⟨⟨s⟩⟩)) v (.lit (.int .i64 a)) (.lit (.int .i64 j)) h = some (.lit (.bool true), h') := by
  intro k
  induction k with
  | zero => intro j a h _ _ hk; omega
  | succ k ih =>
    intro j a h hc hj hk
    show ∃ h', S3_14b call (S3_1l call k) _ _ _ _ h = _
    simp only [S3_14b, hv.len, opt_s, fb_lss, test_b, List.length_map, decide_eq_true_eq]
    by_cases hlt : j < toks.length
    · rw [if_pos (by omega)]
      obtain ⟨t, htj⟩ : ∃ t, toks[j]? = some t := ⟨toks[j], List.getElem?_eq_getElem hlt⟩
      have hd : toks.drop j = t :: toks.drop (j + 1) := by
        rw [List.drop_eq_getElem_cons hlt]
        rw [List.getElem?_eq_getElem hlt] at htj
        cases htj; rfl
      rw [hd] at hc
      simp only [chain] at hc
      cases hte : tokEnd s a t with
      | none => rw [hte] at hc; cases hc
      | some b =>
        rw [hte] at hc
        have hc : chain s b (toks.drop (j + 1)) = some e := hc
        have next : ∀ (n : Int) h, n = b → ∃ h', S3_2 call (S3_1l call k) (.lit (.string ⟨⟨s⟩⟩)) v (.lit (.int .i64 n)) (.lit (.int .i64 j)) h = some (.lit (.bool true), h') := by
          intro n h hn
          subst hn
          simp only [S3_2, fb_add, opt_s]
          rw [wrap64 (by omega) (by omega)]
          exact ih (j + 1) b h hc (by omega) (by omega)
        simp only [S3_13]
        rw [hv.ix (e := tokAV t) (by simp [htj]), opt_s, tok_load, opt_s, tok_box]
        unfold tokEnd at hte
        split at hte
        case isFalse => cases hte
        rename_i hp
        simp only [S3_12, fa_ptr, opt_s, tok_kind', tok_place, tok_text, lenStr_s, fb_lss, fb_geq, test_b, decide_eq_true_eq]
        rw [if_neg (by omega), if_neg (by omega)]
        simp only [S3_11, fa_ptr, opt_s, tok_kind', tok_place, tok_text, S3_10, fb_eql, S3_9, test_b, ceq, decide_eq_true_eq]
        split at hte
        · rename_i h1
          rw [h1, if_pos (by simp)]
          split at hte
          case isFalse => cases hte
          rename_i h2
          cases hte
          simp only [fa_ptr, opt_s, tok_kind', tok_place, tok_text, str_ix, h2, Option.map_some, fb_neq, test_b, fb_add]
          rw [if_neg (by simp)]
          exact next _ _ (by rw [wrap64 (by omega) (by omega)]; rfl)
        · rename_i h1
          rw [h1, if_neg (by simp)]
          simp only [S3_8, fb_eql, opt_s, S3_7, test_b, ceq, decide_eq_true_eq]
          rw [if_pos (by simp)]
          split at hte
          case isFalse => cases hte
          rename_i h2
          cases hte
          simp only [fa_ptr, opt_s, tok_kind', tok_place, tok_text, str_ix, h2, Option.map_some, fb_neq, test_b, fb_add]
          rw [if_neg (by simp)]
          exact next _ _ (by rw [wrap64 (by omega) (by omega)]; rfl)
        · rename_i h1
          rw [h1, if_neg (by simp)]
          simp only [S3_8, fb_eql, opt_s, S3_7, test_b, ceq, decide_eq_true_eq]
          rw [if_neg (by simp)]
          simp only [S3_6, fb_eql, opt_s, S3_5, test_b, ceq, decide_eq_true_eq]
          rw [if_pos (by simp)]
          split at hte
          case isFalse => cases hte
          rename_i h2
          obtain ⟨h2, h3, h4⟩ := h2
          cases hte
          have hne : ¬ (t.text.length = 0) := fun h => h2 (List.length_eq_zero_iff.1 h)
          simp only [S3_4, fa_ptr, opt_s, tok_kind', tok_place, tok_text, eqH_s, lenStr_s, fb_eql, test_b, ceq, decide_eq_true_eq, fb_add]
          rw [if_neg hne, wrap64 (by omega) (by omega), cut_str (by omega) (by omega) (by omega), opt_s]
          have e1 : ((s.drop (t.place : Int).toNat).take (((t.place : Int) + t.text.length).toNat - (t.place : Int).toNat)) = t.text := by
            rw [Int.toNat_natCast, show ((t.place : Int) + t.text.length).toNat = t.place + t.text.length by omega, Nat.add_sub_cancel_left]; exact h4
          rw [e1]
          simp only [fb_neqs, opt_s, test_b, ne_eq, not_true_eq_false, decide_false, Bool.false_eq_true, if_false, S3_3, fa_ptr, tok_kind', tok_place, tok_text, lenStr_s, fb_add]
          exact next _ _ (by rw [wrap64 (by omega) (by omega)]; rfl)
        · rename_i h1
          rw [h1, if_neg (by simp)]
          simp only [S3_8, fb_eql, opt_s, S3_7, test_b, ceq, decide_eq_true_eq]
          rw [if_neg (by simp)]
          simp only [S3_6, fb_eql, opt_s, S3_5, test_b, ceq, decide_eq_true_eq]
          rw [if_neg (by decide), if_pos (by simp)]
          split at hte
          case isFalse => cases hte
          rename_i h2
          cases hte
          simp only [fa_ptr, opt_s, tok_kind', tok_place, tok_text, str_ix, h2, Option.map_some, fb_neq, test_b, fb_add, lenStr_s]
          rw [if_neg (by simp)]
          have hle := chain_le hc
          rw [wrap64 (n := (t.place : Int) + t.text.length) (by omega) (by omega)]
          exact next _ _ (by rw [wrap64 (by omega) (by omega)]; rfl)
        · cases hte
    · rw [if_neg (by omega)]
      have : toks.drop j = [] := List.drop_eq_nil_of_le (by omega)
      rw [this] at hc
      cases hc
      simp only [S3_0, lenStr_s, opt_s, fb_leq, test_b, decide_eq_true_eq]
      rw [if_pos (by omega), C.known]
      exact ⟨_, rfl⟩
theorem chain_len {s : List UInt8} : ∀ {l : List Tok} {a e : Nat}, chain s a l = some e → l.length + a ≤ e
  | [], a, e, h => by cases h; simp
  | t :: l, a, e, h => by
    simp only [chain] at h
    cases ht : tokEnd s a t with
    | none => rw [ht] at h; cases h
    | some b =>
      rw [ht] at h
      have h1 := chain_len (l := l) (a := b) h
      unfold tokEnd at ht
      split at ht
      case isFalse => cases ht
      rename_i hp
      simp only [List.length_cons]
      split at ht
      · split at ht <;> cases ht; omega
      · split at ht <;> cases ht; omega
      · split at ht
        · rename_i h2
          cases ht
          have : t.text.length ≠ 0 := fun h => h2.1 (List.length_eq_zero_iff.1 h)
          omega
        · cases ht
      · split at ht <;> cases ht; omega
      · cases ht

theorem splitF_small (s : List UInt8) (he : (splitF s).err = 0) : s.length ≤ 8192 := by
  by_cases h : 8192 < s.length
  · have : splitF s = ⟨[], 3, 0⟩ := if_pos h
    rw [this] at he; simp at he
  · omega

theorem F3_ok {call : CallF} (C : SplitCall call) (s : List UInt8) (h : Heap) : ∃ h', F3 call (.lit (.string ⟨⟨s⟩⟩)) h = some (.lit (.bool true), h') := by
  obtain ⟨v, h1, h2⟩ := C.split s h
  have hch := splitF_chain s
  have hsm := splitF_small s
  generalize splitF s = R at h1 h2 hch hsm
  simp only [F3, S3_19, h1, opt2_s, extract_tup, List.getElem?_cons_zero, List.getElem?_cons_succ, opt_s, S3_18, fb_neq, test_b, decide_eq_true_eq]
  rcases hch with ⟨he, e, hc, hle⟩ | ⟨he, ht⟩
  · rw [if_neg (by rw [he]; simp)]
    have hs := hsm he
    have := chain_len hc
    have := places_loop C hs h2 hle (by omega) rounds 0 0 h (by simpa using hc) (by omega) (by simp only [rounds]; omega)
    simp only [S3_17, S3_16, S3_15]
    exact this
  · rw [if_pos (by omega)]
    simp only [h2.len, opt_s, fb_eql, test_b, decide_eq_true_eq, List.length_map]
    rw [if_pos (by rw [ht]; rfl), C.known]
    exact ⟨_, rfl⟩

end Go.Proofs.Ytcajleckiegffaa
