import Derived.Test.YtcajleckiegffaaRd4
set_option linter.unusedSectionVars false
namespace Go.Proofs.Ytcajleckiegffaa
set_option linter.unusedSimpArgs false
set_option linter.unusedVariables false
open Go.Am
set_option maxRecDepth 100000

/-! ### hawserref4.Print -/

def RefQuote (call : CallF) : Prop := ∀ (b : List UInt8) (h : Heap), b.length ≤ 100000000000 → call 27 [rv b] h = some (rv (quoteF b), h)

def RefPrintOk (call : CallF) (d : Nat) : Prop := ∀ (v : AV) (t : T) (h : Heap), TreeV v t → depthT t ≤ d → (printT t).length ≤ 100000000000 → call 17 [v] h = some (rv (printT t), h)

theorem join_pre (xs ys : List (List UInt8)) : (Lib.join xs [32]).length ≤ (Lib.join (xs ++ ys) [32]).length := by
  cases xs with
  | nil => simp [Lib.join_nil]
  | cons x xs =>
    rw [List.cons_append, Lib.join_cons, Lib.join_cons]
    simp only [Lib.joinTail, List.map_append, List.flatten_append, List.length_append]
    omega

theorem join_step (ks : List T) (i : Nat) (t : T) (ht : ks[i]? = some t) : Lib.join (printL (ks.take (i + 1))) [32] = (if i = 0 then printT t else Lib.join (printL (ks.take i)) [32] ++ [32] ++ printT t) := by
  have hlt : i < ks.length := (List.getElem?_eq_some_iff.1 ht).1
  have hg : ks[i] = t := (List.getElem?_eq_some_iff.1 ht).2
  rw [List.take_succ_eq_append_getElem hlt, hg, printL_snoc]
  by_cases h0 : i = 0
  · subst h0
    rw [if_pos rfl]
    simp [printL, Lib.join_cons, Lib.joinTail]
  · rw [if_neg h0]
    cases hq : ks.take i with
    | nil =>
      have h9 : (ks.take i).length = 0 := by rw [hq]; rfl
      rw [List.length_take] at h9
      omega
    | cons a b =>
      simp only [printL, List.cons_append]
      rw [Lib.join_cons, Lib.join_cons, joinTail_snoc]
      simp

theorem refprint_loop {call : CallF} {d : Nat} (Q : RefPrintOk call d) {kv : AV} {ks : List T} {p : Nat} {tx : List UInt8} (hv : KidsV kv ks) (hd : depthL ks ≤ d) (hl : (Lib.join (printL ks) [32]).length ≤ 99999999998) {H : Heap} {b : Nat}
    (hb : H[b]? = some (.arr ⟨4, false, false, [.agg [.lit (.int .i64 1), .lit (.int .i64 p), .lit (.string ⟨⟨tx⟩⟩), kv]]⟩)) :
    ∀ (k i : Nat), i ≤ ks.length → ks.length - i < k → S17_2l call k (.ptr b 0 0) (rv (40 :: Lib.join (printL (ks.take i)) [32])) (ri i) H = some (rv (40 :: (Lib.join (printL ks) [32] ++ [41])), H) := by
  have hc := join_count (b := 32) (xs := printL ks)
  have hlen : (printL ks).length = ks.length := by rw [printL_map, List.length_map]
  have l3 : loadX none (.ptr b 0 3) H = some kv := tree_field hb
  have hpre : ∀ i, (Lib.join (printL (ks.take i)) [32]).length ≤ 99999999998 := by
    intro i
    have := join_pre (printL (ks.take i)) (printL (ks.drop i))
    rw [← show printL ks = printL (ks.take i) ++ printL (ks.drop i) from by rw [printL_map, printL_map, printL_map, ← List.map_append, List.take_append_drop]] at this
    omega
  have hln : lenS kv = some (ri ks.length) := by
    cases hv with
    | nil => rfl
    | isl lv => rw [lenS_isl, lv.length]
  intro k
  induction k with
  | zero => intro i _ hk; omega
  | succ k ih =>
    intro i hi hk
    show S17_6b call (S17_2l call k) _ _ _ H = _
    simp only [S17_6b, fa_ptr, Nat.zero_add, opt_s, l3, hln, fb_lss, test_b, decide_eq_true_eq]
    have hpi := hpre i
    by_cases hlt : i < ks.length
    · rw [if_pos (by omega)]
      have ht : ks[i]? = some ks[i] := List.getElem?_eq_getElem hlt
      generalize ks[i] = t at ht
      have a2 : ks.length - (i + 1) < k := by omega
      have hw : fastWrap .i64 ((i : Int) + 1) = ((i + 1 : Nat) : Int) := by rw [wrap64 (by omega) (by omega)]; rfl
      have hst := join_step ks i t ht
      have hp1 := hpre (i + 1)
      obtain ⟨u, q1, q2⟩ := hv.ix ht H
      have hm := List.mem_of_getElem? ht
      have hdt := depthL_mem hm
      have hpt : (printT t).length ≤ 99999999998 := by
        have := join_mem (sep := [32]) (xs := printL ks) (x := printT t) (by rw [printL_map]; exact List.mem_map_of_mem hm)
        omega
      have hld : loadX (some 4) (.iptr u 0) H = some u := by
        cases q2 with
        | mk hk => exact load_iptrA H rfl
      have cq := Q u t H q2 (Nat.le_trans hdt hd) (Nat.le_trans hpt (by decide))
      have four : ∀ L : List UInt8, L.length ≤ 100000000000 → S17_4 call (S17_2l call k) (.ptr b 0 0) (rv L) (ri i) H = S17_2l call k (.ptr b 0 0) (rv (L ++ printT t)) (ri ((i + 1 : Nat) : Int)) H := by
        intro L hL
        simp only [S17_4, fa_ptr, Nat.zero_add, opt_s, l3, q1, hld, cq, opt2_s]
        rw [fb_adds (Nat.lt_of_le_of_lt (Nat.add_le_add hL hpt) (by decide))]
        simp only [opt_s, S17_3, fb_add, hw]
      have b1 : (40 :: Lib.join (printL (ks.take i)) [32] : List UInt8).length ≤ 100000000000 := Nat.le_trans (Nat.le_of_eq List.length_cons) (Nat.le_trans (Nat.succ_le_succ hpi) (by decide))
      have b2 : ((40 :: Lib.join (printL (ks.take i)) [32]) ++ [32] : List UInt8).length ≤ 100000000000 := Nat.le_trans (Nat.le_of_eq (List.length_append.trans (congrArg (· + _) List.length_cons))) (Nat.le_trans (Nat.succ_le_succ (Nat.succ_le_succ hpi)) (by decide))
      have b3 : (40 :: Lib.join (printL (ks.take i)) [32] : List UInt8).length + ([32] : List UInt8).length < 1152921504606846976 := Nat.lt_of_le_of_lt (Nat.add_le_add_right b1 _) (by decide)
      simp only [S17_5, fb_gtr, opt_s, test_b, decide_eq_true_eq, clt2]
      by_cases h0 : i = 0
      · rw [if_neg (fun e => by rw [h0] at e; exact absurd e (Nat.lt_irrefl 0)), four (40 :: Lib.join (printL (ks.take i)) [32]) b1]
        have e : (40 :: Lib.join (printL (ks.take i)) [32]) ++ printT t = 40 :: Lib.join (printL (ks.take (i + 1))) [32] := by
          rw [hst, if_pos h0, h0]
          simp [printL, Lib.join_nil]
        rw [e]
        exact ih (i + 1) hlt a2
      · rw [if_pos (Nat.pos_of_ne_zero h0), fb_adds b3]
        simp only [opt_s]
        rw [four ((40 :: Lib.join (printL (ks.take i)) [32]) ++ [32]) b2]
        have e : (40 :: Lib.join (printL (ks.take i)) [32]) ++ [32] ++ printT t = 40 :: Lib.join (printL (ks.take (i + 1))) [32] := by
          rw [hst, if_neg h0]
          simp
        rw [e]
        exact ih (i + 1) hlt a2
    · rw [if_neg (by omega)]
      have : ks.take i = ks := List.take_of_length_le (by omega)
      rw [this] at hpi ⊢
      simp only [S17_1]
      rw [fb_adds (by simp only [List.length_cons, List.length_nil]; omega)]
      simp

theorem F17_ok {call : CallF} {d : Nat} (QU : RefQuote call) (Q : RefPrintOk call d) {v : AV} {t : T} (tv : TreeV v t) (hd : depthT t ≤ d + 1) (hl : (printT t).length ≤ 100000000000) (h : Heap) : ∃ h', F17 call v h = some (rv (printT t), h') := by
  obtain ⟨k, p, tx, ks⟩ := t
  cases tv with
  | @mk _ _ _ kv _ hv =>
    have hok := hv.free.2
    have bx := box_agg (cs := [.lit (.int .i64 k), .lit (.int .i64 p), .lit (.string ⟨⟨tx⟩⟩), kv]) h (by simp) (by simp [okCell, cellOk] at hok ⊢; exact hok)
    simp only [F17, bx, opt2_s]
    have hg : (h ++ [AObj.arr ⟨4, false, false, [.agg [.lit (.int .i64 k), .lit (.int .i64 p), .lit (.string ⟨⟨tx⟩⟩), kv]]⟩])[h.length]? = some (.arr ⟨4, false, false, [.agg [.lit (.int .i64 k), .lit (.int .i64 p), .lit (.string ⟨⟨tx⟩⟩), kv]]⟩) := get_last _ _
    generalize h ++ [AObj.arr ⟨4, false, false, [.agg [.lit (.int .i64 k), .lit (.int .i64 p), .lit (.string ⟨⟨tx⟩⟩), kv]]⟩] = H at hg
    generalize h.length = b at hg
    refine ⟨H, ?_⟩
    have l0 : loadX none (.ptr b 0 0) H = some (ri k) := tree_field hg
    have l2 : loadX none (.ptr b 0 2) H = some (rv tx) := tree_field hg
    simp only [printT] at hl ⊢
    simp only [depthT] at hd
    simp only [S17_16, fa_ptr, Nat.zero_add, opt_s, l0, S17_15, fb_eql, S17_14, test_b, decide_eq_true_eq, ceq]
    by_cases h3 : k = 3
    · rw [if_pos h3, if_pos h3]
      simp only [l2, opt_s]
    rw [if_neg h3] at hl
    rw [if_neg h3, if_neg h3]
    simp only [S17_13, fb_eql, opt_s, S17_12, test_b, decide_eq_true_eq, ceq, fa_ptr, Nat.zero_add]
    by_cases h4 : k = 4
    · rw [if_pos h4] at hl
      rw [if_pos h4, if_pos h4]
      have := quoteF_len tx
      simp only [l2, opt_s, QU tx H (by omega), opt2_s]
    rw [if_neg h4] at hl
    rw [if_neg h4, if_neg h4]
    simp only [S17_11, fb_eql, opt_s, S17_10, test_b, decide_eq_true_eq, ceq]
    by_cases h1 : k = 1
    · rw [if_pos h1] at hl
      rw [if_pos h1, if_pos h1]
      subst h1
      simp only [S17_9, S17_8, S17_7]
      have hl2 : (Lib.join (printL ks) [32]).length ≤ 99999999998 := by
        rw [List.length_cons, List.length_append, List.length_singleton] at hl; omega
      have hks := join_count (b := 32) (xs := printL ks)
      have hlen : (printL ks).length = ks.length := by rw [printL_map, List.length_map]
      exact refprint_loop Q hv (by omega) hl2 hg rounds 0 (by omega) (by simp only [rounds]; omega)
    · rw [if_neg h1, if_neg h1]
      rfl

end Go.Proofs.Ytcajleckiegffaa
