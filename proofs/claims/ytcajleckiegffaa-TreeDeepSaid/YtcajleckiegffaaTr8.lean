import Derived.Test.YtcajleckiegffaaTr7
import Derived.Test.YtcajleckiegffaaLx7
namespace Go.Proofs.Ytcajleckiegffaa
set_option linter.unusedSimpArgs false
set_option linter.unusedVariables false
open Go.Am
set_option maxRecDepth 100000

theorem deep_law (n : Nat) (h0 : 0 < n) (h1 : n ≤ 60) : if 40 < n then (parseF (deepS n)).err = 14 ∧ (parseF (deepS n)).pos = 40 else (parseF (deepS n)).err = 0 := by
  have := List.all_eq_true.1 deep_all n (List.mem_range.2 (by omega))
  rw [Bool.or_eq_true] at this
  have h := this.resolve_left (fun e => by have := Nat.eq_of_beq_eq_true e; omega)
  unfold deepOk at h
  split at h
  · rename_i R hR
    rw [Bool.and_eq_true, Bool.and_eq_true] at h
    obtain ⟨a, b, c⟩ := h
    have e : splitF (deepS n) = R := splitF_of (by simp [deepS]; omega) (by simp only [rounds]; omega) hR
    have a := Nat.eq_of_beq_eq_true a
    have b : ¬ R.toks.length = 0 := fun e => by rw [e] at b; cases b
    have ep : parseF (deepS n) = parseM (deepS n).length R.toks [] [] := by
      unfold parseF
      rw [e, if_neg (by simp [a]), if_neg b]
    rw [ep]
    by_cases hn : 40 < n
    · rw [if_pos hn]
      have : Nat.blt 40 n = true := by simpa [Nat.blt_eq] using hn
      rw [this, cond_true, Bool.and_eq_true] at c
      exact ⟨Nat.eq_of_beq_eq_true c.1, Nat.eq_of_beq_eq_true c.2⟩
    · rw [if_neg hn]
      have : Nat.blt 40 n = false := by
        cases hb : Nat.blt 40 n with
        | false => rfl
        | true => rw [Nat.blt_eq] at hb; omega
      rw [this, cond_false] at c
      exact Nat.eq_of_beq_eq_true c
  · cases h

theorem wide_law (m : Nat) (h0 : 0 < m) (h1 : m ≤ 60) : (parseF (wideS m)).err = 0 ∧ (parseF (wideS m)).tree.kidsOf.length = m ∧ ∃ t, (parseF (wideS m)).tree.kidsOf[m - 1]? = some t ∧ t.placeOf = 2 * m - 1 := by
  have := List.all_eq_true.1 wide_all m (List.mem_range.2 (by omega))
  rw [Bool.or_eq_true] at this
  have h := this.resolve_left (fun e => by have := Nat.eq_of_beq_eq_true e; omega)
  unfold wideOk at h
  split at h
  · rename_i R hR
    rw [Bool.and_eq_true, Bool.and_eq_true, Bool.and_eq_true, Bool.and_eq_true] at h
    obtain ⟨a, b, c, d, e5⟩ := h
    have hlen : ((List.replicate m ([40, 41] : List UInt8)).flatten).length = 2 * m := by simp; omega
    have e : splitF (wideS m) = R := splitF_of (by simp [wideS]; omega) (by simp only [rounds]; omega) hR
    have a := Nat.eq_of_beq_eq_true a
    have b : ¬ R.toks.length = 0 := fun e => by rw [e] at b; cases b
    have ep : parseF (wideS m) = parseM (wideS m).length R.toks [] [] := by
      unfold parseF
      rw [e, if_neg (by simp [a]), if_neg b]
    rw [ep]
    refine ⟨Nat.eq_of_beq_eq_true c, Nat.eq_of_beq_eq_true d, ?_⟩
    split at e5
    · rename_i t ht
      exact ⟨t, ht, Nat.eq_of_beq_eq_true e5⟩
    · cases e5
  · cases h

/-! ### The walk of TreeDeep -/

theorem KidsV.len {kv : AV} {ks : List T} (h : KidsV kv ks) : lenS kv = some (.lit (.int .i64 ks.length)) := by
  cases h with
  | nil => rfl
  | isl hl => rw [lenS_isl, hl.length]

theorem KidsV.ix {kv : AV} {ks : List T} (h : KidsV kv ks) {i : Nat} {t : T} (ht : ks[i]? = some t) (H : Heap) : ∃ w, indexAddrS 4 kv (.lit (.int .i64 (i : Int))) H = some (.iptr w 0) ∧ TreeV w t := by
  cases h with
  | nil => simp at ht
  | isl hl =>
    obtain ⟨w, h1, h2⟩ := hl.get ht
    exact ⟨w, by rw [ixa_isl (Int.natCast_nonneg _), Int.toNat_natCast, h1]; rfl, h2⟩

theorem deep_end {call : CallF} (C : ParseCall call) (hk : ∀ h, call 14 [] h = some (.lit (.bool true), h)) {m : Nat} (h0 : 0 < m) (h1 : m ≤ 60) (h : Heap) :
    ∃ h', S8_0 call (.lit (.int .i64 m)) (.lit (.string ⟨⟨[40] ++ (List.replicate m [40, 41]).flatten⟩⟩)) h = some (.lit (.bool true), h') := by
  have hlen : ((List.replicate m ([40, 41] : List UInt8)).flatten).length = 2 * m := by simp; omega
  obtain ⟨v, c1, c2⟩ := C.parse (wideS m) h
  obtain ⟨l1, l2, t, l3, l4⟩ := wide_law m h0 h1
  simp only [S8_0]
  rw [fb_adds (by simp; omega), opt_s]
  show ∃ h', (opt2 (call 12 [.lit (.string ⟨⟨wideS m⟩⟩)] h) _) = _
  rw [c1, opt2_s]
  generalize parseF (wideS m) = P at c1 c2 l1 l2 l3
  obtain ⟨tree, err, pos⟩ := P
  simp only at c2 l1 l2 l3
  subst l1
  cases c2 with
  | @mk k p tx kv ks hkv =>
    simp only [T.kidsOf] at l2 l3
    have hb : box (.agg [.lit (.int .i64 0), .lit (.int .i64 0), .lit (.string ⟨⟨[]⟩⟩), .lit (.slice none 0 0)]) h = some (.ptr h.length 0 0, h ++ [.arr ⟨4, false, false, [.agg [.lit (.int .i64 0), .lit (.int .i64 0), .lit (.string ⟨⟨[]⟩⟩), .lit (.slice none 0 0)]]⟩]) := box_agg h (by simp) rfl
    have hok : ([.lit (.int .i64 k), .lit (.int .i64 p), .lit (.string ⟨⟨tx⟩⟩), kv] : List AV).all okCell = true := by
      have := hkv.free.2
      simp [okCell, cellOk] at this ⊢
      exact this
    have hs := store_box (n := 4) (cs := [.lit (.int .i64 0), .lit (.int .i64 0), .lit (.string ⟨⟨[]⟩⟩), .lit (.slice none 0 0)]) (ds := [.lit (.int .i64 k), .lit (.int .i64 p), .lit (.string ⟨⟨tx⟩⟩), kv]) h rfl rfl (by decide) hok
    simp only [extract_tup, List.getElem?_cons_zero, List.getElem?_cons_succ, opt_s]
    rw [hb, opt2_s]
    rw [hs, optH_s, fb_eql, opt_s, test_b, if_pos (by simp)]
    have ek : loadX none (.ptr h.length 0 3) (h ++ [.arr ⟨4, false, false, [.agg [.lit (.int .i64 k), .lit (.int .i64 p), .lit (.string ⟨⟨tx⟩⟩), kv]]⟩]) = some kv := load_box h 4 3 false false _
    obtain ⟨w, x1, x2⟩ := hkv.ix l3 (h ++ [.arr ⟨4, false, false, [.agg [.lit (.int .i64 k), .lit (.int .i64 p), .lit (.string ⟨⟨tx⟩⟩), kv]]⟩])
    simp only [fa_ptr, Nat.zero_add, opt_s, ek, hkv.len, l2, fb_eql, test_b, decide_true, if_true, fb_sub, fb_mul]
    rw [wrap64 (n := (m : Int) - 1) (by omega) (by omega), show (m : Int) - 1 = ((m - 1 : Nat) : Int) by omega, x1, opt_s, fa_iptr, opt_s]
    cases x2 with
    | @mk k2 p2 tx2 kv2 ks2 hkv2 =>
      simp only [T.placeOf] at l4
      rw [load_iptr]
      simp only [List.getElem?_cons_succ, List.getElem?_cons_zero, opt_s, Nat.zero_add]
      rw [wrap64 (n := 2 * (m : Int)) (by omega) (by omega), wrap64 (by omega) (by omega), fb_eql, opt_s, test_b, if_pos (by simp; omega), hk, opt2_s]
      exact ⟨_, rfl⟩

theorem tree_box {v : AV} {t : T} (tv : TreeV v t) (h : Heap) (k : AV → Heap → Res) :
    (opt2 (box (.agg [.lit (.int .i64 0), .lit (.int .i64 0), .lit (.string ⟨⟨[]⟩⟩), .lit (.slice none 0 0)]) h) fun p h1 => optH (storeX 4 p v h1) fun h2 => k p h2) = k (.ptr h.length 0 0) (h ++ [.arr ⟨4, false, false, [v]⟩]) := by
  obtain ⟨f1, f2, f3, f4⟩ := tv.cells
  cases tv with
  | @mk kk p tx kv ks hkv =>
    have hb : box (.agg [.lit (.int .i64 0), .lit (.int .i64 0), .lit (.string ⟨⟨[]⟩⟩), .lit (.slice none 0 0)]) h = some (.ptr h.length 0 0, h ++ [.arr ⟨4, false, false, [.agg [.lit (.int .i64 0), .lit (.int .i64 0), .lit (.string ⟨⟨[]⟩⟩), .lit (.slice none 0 0)]]⟩]) := box_agg h (by simp) rfl
    have hs := store_box (n := 4) (cs := [.lit (.int .i64 0), .lit (.int .i64 0), .lit (.string ⟨⟨[]⟩⟩), .lit (.slice none 0 0)]) (ds := [.lit (.int .i64 kk), .lit (.int .i64 p), .lit (.string ⟨⟨tx⟩⟩), kv]) h rfl rfl (by decide) f3
    rw [hb, opt2_s, hs, optH_s]

theorem wide_loop {call : CallF} (C : ParseCall call) (hk : ∀ h, call 14 [] h = some (.lit (.bool true), h)) {m : Nat} (h0 : 0 < m) (h1 : m ≤ 60) :
    ∀ (k i : Nat) (h : Heap), i ≤ m → m - i < k → ∃ h', S8_1l call k (.lit (.int .i64 m)) (.lit (.string ⟨⟨[40] ++ (List.replicate i [40, 41]).flatten⟩⟩)) (.lit (.int .i64 i)) h = some (.lit (.bool true), h') := by
  intro k
  induction k with
  | zero => intro i h _ hk; omega
  | succ k ih =>
    intro i h hi hk2
    show ∃ h', S8_2b call (S8_1l call k) _ _ _ h = _
    simp only [S8_2b, fb_lss, opt_s, test_b, decide_eq_true_eq]
    by_cases hlt : i < m
    · have hlen : ((List.replicate i ([40, 41] : List UInt8)).flatten).length = 2 * i := by simp; omega
      rw [if_pos (by omega), fb_adds (by simp; omega), opt_s, fb_add, opt_s, wrap64 (by omega) (by omega)]
      have e : [40] ++ (List.replicate i ([40, 41] : List UInt8)).flatten ++ [40, 41] = [40] ++ (List.replicate (i + 1) [40, 41]).flatten := by
        rw [List.replicate_succ', List.flatten_append]; simp
      rw [e]
      exact ih (i + 1) h (by omega) (by omega)
    · rw [if_neg (by omega)]
      have : i = m := by omega
      subst this
      exact deep_end C hk h0 h1 h

theorem after_deep {call : CallF} (C : ParseCall call) (hk : ∀ h, call 14 [] h = some (.lit (.bool true), h)) {n m : Nat} (n0 : 0 < n) (n1 : n ≤ 60) (h0 : 0 < m) (h1 : m ≤ 60) (h : Heap) :
    ∃ h', S8_7 call (.lit (.int .i64 n)) (.lit (.int .i64 m)) (.lit (.string ⟨⟨deepS n⟩⟩)) h = some (.lit (.bool true), h') := by
  obtain ⟨v, c1, c2⟩ := C.parse (deepS n) h
  have law := deep_law n n0 n1
  simp only [S8_7, c1, opt2_s, extract_tup, List.getElem?_cons_zero, List.getElem?_cons_succ, opt_s]
  generalize parseF (deepS n) = P at c1 c2 law
  rw [tree_box c2]
  have go : ∀ h, ∃ h', S8_5 call (.lit (.int .i64 m)) h = some (.lit (.bool true), h') := fun h => by
    simp only [S8_5, S8_4, S8_3]
    have := wide_loop C hk h0 h1 rounds 0 h (by omega) (by simp only [rounds]; omega)
    simpa using this
  simp only [S8_6, fb_gtr, opt_s, test_b, fb_neq, decide_eq_true_eq]
  by_cases hn : 40 < n
  · rw [if_pos hn] at law
    rw [if_pos (by omega), if_neg (by omega), if_neg (by omega)]
    exact go _
  · rw [if_neg hn] at law
    rw [if_neg (by omega), if_neg (by omega)]
    exact go _

theorem close_loop {call : CallF} (C : ParseCall call) (hk : ∀ h, call 14 [] h = some (.lit (.bool true), h)) {n m : Nat} (n0 : 0 < n) (n1 : n ≤ 60) (h0 : 0 < m) (h1 : m ≤ 60) :
    ∀ (k i : Nat) (h : Heap), i ≤ n → n - i < k → ∃ h', S8_8l call k (.lit (.int .i64 n)) (.lit (.int .i64 m)) (.lit (.string ⟨⟨List.replicate n 40 ++ List.replicate i 41⟩⟩)) (.lit (.int .i64 i)) h = some (.lit (.bool true), h') := by
  intro k
  induction k with
  | zero => intro i h _ hk; omega
  | succ k ih =>
    intro i h hi hk2
    show ∃ h', S8_9b call (S8_8l call k) _ _ _ _ h = _
    simp only [S8_9b, fb_lss, opt_s, test_b, decide_eq_true_eq]
    by_cases hlt : i < n
    · rw [if_pos (by omega), fb_adds (by simp; omega), opt_s, fb_add, opt_s, wrap64 (by omega) (by omega)]
      have e : List.replicate n (40 : UInt8) ++ List.replicate i 41 ++ [41] = List.replicate n 40 ++ List.replicate (i + 1) 41 := by
        rw [List.replicate_succ', List.append_assoc]
      rw [e]
      exact ih (i + 1) h (by omega) (by omega)
    · rw [if_neg (by omega)]
      have : i = n := by omega
      subst this
      exact after_deep C hk n0 n1 h0 h1 h

theorem open_loop {call : CallF} (C : ParseCall call) (hk : ∀ h, call 14 [] h = some (.lit (.bool true), h)) {n m : Nat} (n0 : 0 < n) (n1 : n ≤ 60) (h0 : 0 < m) (h1 : m ≤ 60) :
    ∀ (k i : Nat) (h : Heap), i ≤ n → n - i < k → ∃ h', S8_12l call k (.lit (.int .i64 n)) (.lit (.int .i64 m)) (.lit (.string ⟨⟨List.replicate i 40⟩⟩)) (.lit (.int .i64 i)) h = some (.lit (.bool true), h') := by
  intro k
  induction k with
  | zero => intro i h _ hk; omega
  | succ k ih =>
    intro i h hi hk2
    show ∃ h', S8_13b call (S8_12l call k) _ _ _ _ h = _
    simp only [S8_13b, fb_lss, opt_s, test_b, decide_eq_true_eq]
    by_cases hlt : i < n
    · rw [if_pos (by omega), fb_adds (by simp; omega), opt_s, fb_add, opt_s, wrap64 (by omega) (by omega)]
      have e : List.replicate i (40 : UInt8) ++ [40] = List.replicate (i + 1) 40 := by rw [List.replicate_succ']
      rw [e]
      exact ih (i + 1) h (by omega) (by omega)
    · rw [if_neg (by omega)]
      have : i = n := by omega
      subst this
      simp only [S8_11, S8_10]
      have := close_loop C hk n0 n1 h0 h1 rounds 0 h (by omega) (by simp only [rounds]; omega)
      simpa using this

theorem abs60 (a : Int) (h1 : -9223372036854775808 ≤ a) (h2 : a ≤ 9223372036854775807) : ∃ n : Nat, 0 < n ∧ n ≤ 60 ∧
    ((a < 0 → 1 + (0 - (a + 1)).tmod 60 = n) ∧ (¬ a < 0 → 1 + a.tmod 60 = n)) := by
  by_cases h : a < 0
  · refine ⟨1 + (0 - (a + 1)).toNat % 60, by omega, by omega, fun _ => ?_, fun h' => absurd h h'⟩
    rw [Int.tmod_eq_emod_of_nonneg (by omega)]; omega
  · refine ⟨1 + a.toNat % 60, by omega, by omega, fun h' => absurd h' h, fun _ => ?_⟩
    rw [Int.tmod_eq_emod_of_nonneg (by omega)]; omega

theorem F8_ok {call : CallF} (C : ParseCall call) (hk : ∀ h, call 14 [] h = some (.lit (.bool true), h)) (a b : Int) (a1 : -9223372036854775808 ≤ a) (a2 : a ≤ 9223372036854775807) (b1 : -9223372036854775808 ≤ b) (b2 : b ≤ 9223372036854775807) (h : Heap) :
    ∃ h', F8 call (.lit (.int .i64 a)) (.lit (.int .i64 b)) h = some (.lit (.bool true), h') := by
  obtain ⟨n, n0, n1, na, nb⟩ := abs60 a a1 a2
  obtain ⟨m, m0, m1, ma, mb⟩ := abs60 b b1 b2
  have run : ∀ b', 1 + b'.tmod 60 = (m : Int) → ∀ a', 1 + a'.tmod 60 = (n : Int) → ∃ h', S8_18 call (.lit (.int .i64 a')) (.lit (.int .i64 b')) h = some (.lit (.bool true), h') := by
    intro b' hb a' ha
    simp only [S8_18]
    rw [rem_int (by decide), opt_s, fb_add, opt_s, wrap64 (by omega) (by omega), ha]
    simp only [S8_17]
    rw [rem_int (by decide), opt_s, fb_add, opt_s, wrap64 (by omega) (by omega), hb]
    simp only [S8_16, S8_15, S8_14]
    have := open_loop C hk n0 n1 m0 m1 rounds 0 h (by omega) (by simp only [rounds]; omega)
    simpa using this
  have run2 : ∀ a', 1 + a'.tmod 60 = (n : Int) → ∃ h', S8_19 call (.lit (.int .i64 a')) (.lit (.int .i64 b)) h = some (.lit (.bool true), h') := by
    intro a' ha
    simp only [S8_19, fb_lss, opt_s, test_b, decide_eq_true_eq]
    by_cases hb : b < 0
    · rw [if_pos hb, fb_add, opt_s, wrap64 (by omega) (by omega), neg_int, opt_s, kwrap64 (by omega) (by omega)]
      exact run _ (ma hb) _ ha
    · rw [if_neg hb]; exact run _ (mb hb) _ ha
  simp only [F8, S8_20, fb_lss, opt_s, test_b, decide_eq_true_eq]
  by_cases ha : a < 0
  · rw [if_pos ha, fb_add, opt_s, wrap64 (by omega) (by omega), neg_int, opt_s, kwrap64 (by omega) (by omega)]
    exact run2 _ (na ha)
  · rw [if_neg ha]; exact run2 _ (nb ha)

end Go.Proofs.Ytcajleckiegffaa
