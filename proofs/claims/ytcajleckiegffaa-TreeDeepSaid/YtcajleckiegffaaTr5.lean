import Derived.Test.YtcajleckiegffaaTr4
namespace Go.Proofs.Ytcajleckiegffaa
set_option linter.unusedSimpArgs false
set_option linter.unusedVariables false
open Go.Am
set_option maxRecDepth 100000

theorem zeroV : TreeV zeroT4 noTree := .mk .nil

theorem err_chain {H : Heap} {b A : Nat} {x : Tok} (hb : H[b]? = some (.arr ⟨4, false, false, [zeroT4]⟩)) (hA : H[A]? = some (boxTok x)) (hne : b ≠ A) (code : Int) :
    (opt (buildX [.lit (.int .i64 0), .lit (.int .i64 0), .lit (.string ⟨⟨[]⟩⟩), .lit (.slice none 0 0)] [(0, 1), (1, 1), (2, 1), (3, 1)] []) fun t53 =>
      opt (fieldAddrX 1 (.ptr A 0 0)) fun t54 => opt (loadX none t54 H) fun t55 => eqH H H (optH (storeX 4 (.ptr b 0 0) t53 H) fun h1 =>
      opt (loadX none t54 h1) fun t55_1 => eqK t55_1 t55 (eqH h1 h1 (opt (loadX (some 4) (.ptr b 0 0) h1) fun res => some (.tup [res, .lit (.int .i64 code), t55], h1))))) =
    some (.tup [zeroT4, .lit (.int .i64 code), .lit (.int .i64 x.place)], H.set b (.arr ⟨4, false, false, [zeroT4]⟩)) := by
  have hlb : b < H.length := (List.getElem?_eq_some_iff.1 hb).1
  have e0 : buildX [.lit (.int .i64 0), .lit (.int .i64 0), .lit (.string ⟨⟨[]⟩⟩), .lit (.slice none 0 0)] [(0, 1), (1, 1), (2, 1), (3, 1)] [] = some zeroT4 := rfl
  have e1 : loadX none (.ptr A 0 1) H = some (.lit (.int .i64 x.place)) := load_at hA
  have e2 : storeX 4 (.ptr b 0 0) zeroT4 H = some (H.set b (.arr ⟨4, false, false, [zeroT4]⟩)) := store_at hb rfl rfl (by decide) rfl
  have e3 : loadX none (.ptr A 0 1) (H.set b (.arr ⟨4, false, false, [zeroT4]⟩)) = some (.lit (.int .i64 x.place)) := load_at (cs := [_, _, _]) (by rw [List.getElem?_set_ne hne]; exact hA)
  have e4 : loadX (some 4) (.ptr b 0 0) (H.set b (.arr ⟨4, false, false, [zeroT4]⟩)) = some zeroT4 := loadA_at (cs := [_, _, _, _]) (List.getElem?_set_self hlb) rfl
  rw [e0, opt_s, fa_ptr, opt_s, Nat.zero_add, e1, opt_s, eqH_s, e2, optH_s, e3, opt_s, eqK_s, eqH_s, e4, opt_s]

theorem parse_loop {call : CallF} {s : List UInt8} {toks : List Tok} {v31 : AV} (hv : SliceV v31 3 (toks.map tokAV)) (hl : toks.length ≤ 100000) (h0 : 0 < toks.length) {b : Nat} :
    ∀ (k j : Nat) (st : List (Nat × List T)) (whole : List T) (v8 v9 : AV) (o8 o9 : Option Nat) (os : List (Option Nat)) (h : Heap), PInv h b v8 v9 st whole o8 o9 os j → j ≤ toks.length → (st = [] → whole = [] → j = 0) → toks.length - j < k →
    ∃ v h', S12_1l call k (.lit (.string ⟨⟨s⟩⟩)) (.ptr b 0 0) v8 v9 v31 (.lit (.int .i64 toks.length)) (.lit (.int .i64 j)) h =
      some (.tup [v, .lit (.int .i64 (parseM s.length (toks.drop j) st whole).err), .lit (.int .i64 (parseM s.length (toks.drop j) st whole).pos)], h') ∧ TreeV v (parseM s.length (toks.drop j) st whole).tree := by
  intro k
  induction k with
  | zero => intro j st whole v8 v9 o8 o9 os h p hj _ hk; omega
  | succ k ih =>
    intro j st whole v8 v9 o8 o9 os h p hj hz hk
    show ∃ v h', S12_10b call (S12_1l call k) _ _ _ _ _ _ _ h = _ ∧ _
    simp only [S12_10b, fb_lss, opt_s, S12_9, test_b, decide_eq_true_eq]
    by_cases hlt : j < toks.length
    case neg =>
      rw [if_neg (by omega)]
      have hd : toks.drop j = [] := List.drop_eq_nil_of_le (by omega)
      rw [hd]
      simp only [S12_0, p.stack.len, opt_s, fb_gtr, test_b, decide_eq_true_eq, parseM]
      by_cases hst : 0 < st.length
      · rw [if_pos (by omega), if_pos hst]
        have e0 : buildX [.lit (.int .i64 0), .lit (.int .i64 0), .lit (.string ⟨⟨[]⟩⟩), .lit (.slice none 0 0)] [(0, 1), (1, 1), (2, 1), (3, 1)] [] = some zeroT4 := rfl
        have e2 : storeX 4 (.ptr b 0 0) zeroT4 h = some (h.set b (.arr ⟨4, false, false, [zeroT4]⟩)) := store_at p.box rfl rfl (by decide) rfl
        have e4 : loadX (some 4) (.ptr b 0 0) (h.set b (.arr ⟨4, false, false, [zeroT4]⟩)) = some zeroT4 := loadA_at (cs := [_, _, _, _]) (List.getElem?_set_self (List.getElem?_eq_some_iff.1 p.box).1) rfl
        rw [e0, opt_s, lenStr_s, opt_s, e2, optH_s, e4, opt_s]
        exact ⟨_, _, rfl, zeroV⟩
      · rw [if_neg (by omega), if_neg hst]
        have hst0 : st = [] := List.length_eq_zero_iff.1 (by omega)
        obtain ⟨ws, w1, w2⟩ := p.wh
        cases whole with
        | nil => have := hz hst0 rfl; omega
        | cons t r =>
          cases ws with
          | nil => cases w2
          | cons w ws =>
            cases w2 with
            | cons tv _ =>
              cases o9 with
              | none => obtain ⟨_, h1⟩ := w1; cases h1
              | some id9 =>
                obtain ⟨rfl, hid⟩ := w1
                have e1 : indexAddrS 4 (.sl id9 0 (w :: ws).length false) (.lit (.int .i64 0)) h = some (.ptr id9 0 0) := by
                  unfold indexAddrS intLit
                  simp only [hid, Int.le_refl, if_true, Int.toNat_zero]
                  rw [if_pos ⟨trivial, by simp, by simp⟩]
                obtain ⟨f1, f2, f3, f4⟩ := tv.cells
                have e2 : loadX (some 4) (.ptr id9 0 0) h = some w := by
                  unfold loadX
                  simp only [hid, List.getElem?_cons_zero]
                  have : readX (some 4) (cellsOf w) 0 = some (.agg (cellsOf w)) := readX_all f2.symm
                  rw [this, ← reElem_agg (by rw [f2]; decide), f4]
                cases tv with
                | @mk kk pp tt kv ks hkv =>
                  have e3 : storeX 4 (.ptr b 0 0) (.agg [.lit (.int .i64 kk), .lit (.int .i64 pp), .lit (.string ⟨⟨tt⟩⟩), kv]) h = some (h.set b (.arr ⟨4, false, false, [.agg [.lit (.int .i64 kk), .lit (.int .i64 pp), .lit (.string ⟨⟨tt⟩⟩), kv]]⟩)) := store_at p.box rfl rfl (by decide) f3
                  have e4 : loadX (some 4) (.ptr b 0 0) (h.set b (.arr ⟨4, false, false, [.agg [.lit (.int .i64 kk), .lit (.int .i64 pp), .lit (.string ⟨⟨tt⟩⟩), kv]]⟩)) = some (.agg [.lit (.int .i64 kk), .lit (.int .i64 pp), .lit (.string ⟨⟨tt⟩⟩), kv]) := loadA_at (List.getElem?_set_self (List.getElem?_eq_some_iff.1 p.box).1) rfl
                  rw [e1, opt_s, e2, opt_s, e3, optH_s, e4, opt_s]
                  exact ⟨_, _, rfl, .mk hkv⟩
    case pos =>
      rw [if_pos (by omega)]
      obtain ⟨x, hxj⟩ : ∃ x, toks[j]? = some x := ⟨toks[j], List.getElem?_eq_getElem hlt⟩
      have hd : toks.drop j = x :: toks.drop (j + 1) := by
        rw [List.drop_eq_getElem_cons hlt]
        rw [List.getElem?_eq_getElem hlt] at hxj
        cases hxj; rfl
      rw [hd]
      have hb12 := box_agg (cs := [.lit (.int .i64 0), .lit (.int .i64 0), .lit (.string ⟨⟨[]⟩⟩), .lit (.slice none 0 0)]) (h ++ [boxTok x]) (by simp) rfl
      simp only [S12_8]
      rw [hv.ix (e := tokAV x) (by simp [hxj]), opt_s, tok_load, opt_s, tok_box]
      simp only [S12_7]
      rw [hb12, opt2_s]
      have pH := (p.more [boxTok x]).more [.arr ⟨4, false, false, [zeroT4]⟩]
      have hlen : ∀ id, Held b o8 o9 os id → id < h.length := fun id hid => p.lt hid
      have gA : (h ++ [boxTok x] ++ [AObj.arr ⟨4, false, false, [zeroT4]⟩])[h.length]? = some (boxTok x) := by simp
      have gB : (h ++ [boxTok x] ++ [AObj.arr ⟨4, false, false, [zeroT4]⟩])[(h ++ [boxTok x]).length]? = some (.arr ⟨4, false, false, [zeroT4]⟩) := get_last _ _
      have lB : (h ++ [boxTok x]).length = h.length + 1 := by simp
      show ∃ v h', S12_6 call (S12_1l call k) _ _ _ _ (.ptr h.length 0 0) (.ptr (h ++ [boxTok x]).length 0 0) _ _ _ (h ++ [boxTok x] ++ [AObj.arr ⟨4, false, false, [zeroT4]⟩]) = _ ∧ _
      generalize hHd : h ++ [boxTok x] ++ [AObj.arr ⟨4, false, false, [zeroT4]⟩] = H at pH gA gB
      generalize hBd : (h ++ [boxTok x]).length = B at gB lB
      have hbA : b ≠ h.length := by have := hlen b (.inl rfl); omega
      have er := err_chain pH.box gA hbA
      have l0 : loadX none (.ptr h.length 0 0) H = some (.lit (.int .i64 x.kind)) := load_at gA
      have l1 : loadX none (.ptr h.length 0 1) H = some (.lit (.int .i64 x.place)) := load_at gA
      have l2 : loadX none (.ptr h.length 0 2) H = some (.lit (.string ⟨⟨x.text⟩⟩)) := load_at gA
      have slen := pH.stack.len
      have s1 := p.s1
      obtain ⟨ws, w1, w2⟩ := pH.wh
      have wlen : lenS v9 = some (.lit (.int .i64 whole.length)) := by rw [w1.len, w2.length]
      have e6 : S12_6 call (S12_1l call k) (.lit (.string ⟨⟨s⟩⟩)) (.ptr b 0 0) v8 v9 (.ptr h.length 0 0) (.ptr B 0 0) v31 (.lit (.int .i64 toks.length)) (.lit (.int .i64 j)) H =
          S12_5 call (S12_1l call k) (.lit (.string ⟨⟨s⟩⟩)) (.ptr b 0 0) v8 v9 (.ptr h.length 0 0) (.ptr B 0 0) v31 (.lit (.int .i64 toks.length)) (.lit (.int .i64 j)) (.lit (.bool (decide (x.kind = 1 ∧ 40 ≤ st.length)))) H := by
        simp only [S12_6, fa_ptr, opt_s, Nat.zero_add, l0, fb_eql, test_b, ceq, decide_eq_true_eq]
        by_cases h1 : x.kind = 1
        · rw [if_pos h1, slen, opt_s, fb_geq, opt_s]
          congr 3
          simp only [h1, true_and, decide_eq_decide]
          omega
        · rw [if_neg h1]
          simp only [h1, false_and, decide_false]
      rw [e6]
      simp only [S12_5, test_b, decide_eq_true_eq, parseM]
      by_cases c1 : x.kind = 1 ∧ 40 ≤ st.length
      · rw [if_pos c1, if_pos c1, er 14]
        exact ⟨_, _, rfl, zeroV⟩
      rw [if_neg c1, if_neg c1]
      have e4 : S12_4 call (S12_1l call k) (.lit (.string ⟨⟨s⟩⟩)) (.ptr b 0 0) v8 v9 (.ptr h.length 0 0) (.ptr B 0 0) v31 (.lit (.int .i64 toks.length)) (.lit (.int .i64 j)) H =
          S12_3 call (S12_1l call k) (.lit (.string ⟨⟨s⟩⟩)) (.ptr b 0 0) v8 v9 (.ptr h.length 0 0) (.ptr B 0 0) v31 (.lit (.int .i64 toks.length)) (.lit (.int .i64 j)) (.lit (.bool (decide (x.kind = 2 ∧ st.length = 0)))) H := by
        simp only [S12_4, fa_ptr, opt_s, Nat.zero_add, l0, fb_eql, test_b, ceq, decide_eq_true_eq]
        by_cases h1 : x.kind = 2
        · rw [if_pos h1, slen, opt_s, fb_eql, opt_s]
          congr 3
          simp only [h1, true_and, decide_eq_decide]
          omega
        · rw [if_neg h1]
          simp only [h1, false_and, decide_false]
      rw [e4]
      simp only [S12_3, test_b, decide_eq_true_eq]
      by_cases c2 : x.kind = 2 ∧ st.length = 0
      · rw [if_pos c2, if_pos c2, er 12]
        exact ⟨_, _, rfl, zeroV⟩
      rw [if_neg c2, if_neg c2, wlen, opt_s, fb_gtr, opt_s, test_b]
      by_cases c3 : 0 < whole.length
      · rw [if_pos (by simpa using c3), if_pos c3, er 11]
        exact ⟨_, _, rfl, zeroV⟩
      rw [if_neg (by simpa using c3), if_neg c3]
      simp only [fa_ptr, opt_s, Nat.zero_add, l0, fb_eql, test_b, ceq, decide_eq_true_eq]
      have hwh : whole = [] := List.length_eq_zero_iff.1 (by omega)
      have hw : fastWrap .i64 ((j : Int) + 1) = ((j + 1 : Nat) : Int) := by rw [wrap64 (by omega) (by omega)]; rfl
      -- what stands behind a tree that is whole
      have fin : ∀ (st : List (Nat × List T)) (v8 : AV) (os : List (Option Nat)) (c : AV) (t : T) (ids : List Nat) (H : Heap), PInv H b v8 v9 st whole o8 o9 os j → Done H c t ids → (∀ id ∈ ids, ¬ Held b o8 o9 os id ∧ id < H.length) → H[B]? = some (.arr ⟨4, false, false, [c]⟩) → B ∉ ids →
          ∃ v h', S12_2 call (S12_1l call k) (.lit (.string ⟨⟨s⟩⟩)) (.ptr b 0 0) v8 v9 (.ptr B 0 0) v31 (.lit (.int .i64 toks.length)) (.lit (.int .i64 j)) H =
            some (.tup [v, .lit (.int .i64 (if st.length = 0 then parseM s.length (toks.drop (j + 1)) st (whole ++ [t]) else parseM s.length (toks.drop (j + 1)) (addKid st t) whole).err), .lit (.int .i64 (if st.length = 0 then parseM s.length (toks.drop (j + 1)) st (whole ++ [t]) else parseM s.length (toks.drop (j + 1)) (addKid st t) whole).pos)], h') ∧
            TreeV v (if st.length = 0 then parseM s.length (toks.drop (j + 1)) st (whole ++ [t]) else parseM s.length (toks.drop (j + 1)) (addKid st t) whole).tree := by
        intro st v8 os c t ids H p d hids hB hBn
        by_cases hst : st.length = 0
        · have e := List.length_eq_zero_iff.1 hst
          subst e
          obtain ⟨h', v9', o9', q1, q2⟩ := p.addWhole (by omega) d hids hB call (S12_1l call k) (.lit (.string ⟨⟨s⟩⟩)) (.ptr b 0 0) v31 (.lit (.int .i64 toks.length)) j (by omega)
          rw [q1, if_pos hst]
          exact ih (j + 1) [] _ _ _ _ _ _ _ q2 (by omega) (fun _ e => by simp at e) (by omega)
        · rcases List.eq_nil_or_concat st with e | ⟨st0, ⟨pl, ks⟩, e⟩
          · rw [e] at hst; exact absurd rfl hst
          · rw [List.concat_eq_append] at e
            subst e
            obtain ⟨h', os', q1, q2⟩ := p.addKid (by omega) d hids hB hBn call (S12_1l call k) (.lit (.string ⟨⟨s⟩⟩)) (.ptr b 0 0) v31 (.lit (.int .i64 toks.length)) j (by omega)
            rw [q1, if_neg hst]
            have ea : addKid (st0 ++ [(pl, ks)]) t = st0 ++ [(pl, ks ++ [t])] := by simp [addKid]
            rw [ea]
            exact ih (j + 1) _ _ _ _ _ _ _ _ q2 (by omega) (fun e => by simp at e) (by omega)
      by_cases c4 : x.kind = 1
      · rw [if_pos c4, if_pos c4]
        obtain ⟨v8', h', q1, q2⟩ := pH.push (by omega) x.place
        have e1 : buildX [.lit (.int .i64 0), .lit (.int .i64 0), .lit (.string ⟨⟨[]⟩⟩), .lit (.slice none 0 0)] [(0, 1), (1, 1), (2, 1), (3, 1)] [(0, .lit (.int .i64 1)), (1, .lit (.int .i64 x.place))] = some (openCell x.place (.lit (.slice none 0 0))) := rfl
        have e2 : bsliceX 4 (.agg [.lit (.int .i64 0), .lit (.int .i64 0), .lit (.string ⟨⟨[]⟩⟩), .lit (.slice none 0 0)]) 1 [(0, openCell x.place (.lit (.slice none 0 0)))] H = some (.isl 4 true [openCell x.place (.lit (.slice none 0 0))], H) := bslice_one rfl rfl rfl
        simp only [l1, opt_s, e1, e2, opt2_s, q1, fb_add]
        rw [hw]
        exact ih (j + 1) _ _ _ _ _ _ _ _ q2 (by omega) (fun e => by simp at e) (by omega)
      rw [if_neg c4, if_neg c4]
      by_cases c5 : x.kind = 2
      · rw [if_pos c5, if_pos c5]
        rcases List.eq_nil_or_concat st with e | ⟨st0, ⟨pl, ks⟩, e⟩
        · exact absurd ⟨c5, by rw [e]; rfl⟩ c2
        · rw [List.concat_eq_append] at e
          subst e
          obtain ⟨a, kv, ids, v8', os0, q1, q2, q3, q4, q5, q6, q7, q8⟩ := pH.pop
          have e1 : storeX 4 (.ptr B 0 0) (openCell pl kv) H = some (H.set B (.arr ⟨4, false, false, [openCell pl kv]⟩)) := store_at gB rfl rfl (by decide) q5.ok
          have hBH : ∀ id, Held b o8 o9 os id → id ≠ B := fun id hid => by have := hlen id hid; omega
          have agree : ∀ id, Held b o8 o9 os id → (H.set B (.arr ⟨4, false, false, [openCell pl kv]⟩))[id]? = H[id]? := fun id hid => List.getElem?_set_ne (fun e => hBH id hid e.symm)
          have hln : ((st0 ++ [(pl, ks)]).length : Int) - 1 = ((st0.length : Nat) : Int) := by simp
          simp only [slen, opt_s, fb_sub]
          rw [hln, wrap64 (by omega) (by omega), q1, opt_s, q2, opt_s, e1, optH_s, q3 _ agree, opt_s]
          have hgl : (st0 ++ [(pl, ks)]).getLast? = some (pl, ks) := by simp
          have hdl : (st0 ++ [(pl, ks)]).dropLast = st0 := by simp
          rw [hgl, hdl]
          have hBl : B < H.length := (List.getElem?_eq_some_iff.1 gB).1
          have := fin st0 v8' os0 (openCell pl kv) (.mk 1 pl [] ks) ids _ (q4.mono (Nat.le_refl _) fun id hid => agree id (q8 id hid))
            ⟨by obtain ⟨v, r1, r2⟩ := q5.ex; exact ⟨v, snap1_agree r1 fun id hid => agree id (q7 id hid).2, r2⟩, q5.len, q5.ok, q5.re⟩
            (fun id hid => ⟨(q7 id hid).1, by rw [List.length_set]; have := hlen id (q7 id hid).2; omega⟩) (List.getElem?_set_self hBl) (fun hid => hBH B (q7 B hid).2 rfl)
          exact this
      rw [if_neg c5, if_neg c5]
      have e1 : buildX [.lit (.int .i64 0), .lit (.int .i64 0), .lit (.string ⟨⟨[]⟩⟩), .lit (.slice none 0 0)] [(0, 1), (1, 1), (2, 1), (3, 1)] [(0, .lit (.int .i64 x.kind)), (1, .lit (.int .i64 x.place)), (2, .lit (.string ⟨⟨x.text⟩⟩))] =
          some (.agg [.lit (.int .i64 x.kind), .lit (.int .i64 x.place), .lit (.string ⟨⟨x.text⟩⟩), .lit (.slice none 0 0)]) := rfl
      have e2 : storeX 4 (.ptr B 0 0) (.agg [.lit (.int .i64 x.kind), .lit (.int .i64 x.place), .lit (.string ⟨⟨x.text⟩⟩), .lit (.slice none 0 0)]) H =
          some (H.set B (.arr ⟨4, false, false, [.agg [.lit (.int .i64 x.kind), .lit (.int .i64 x.place), .lit (.string ⟨⟨x.text⟩⟩), .lit (.slice none 0 0)]]⟩)) := store_at gB rfl rfl (by decide) rfl
      have agree : ∀ y id, Held b o8 o9 os id → (H.set B y)[id]? = H[id]? := fun y id hid => List.getElem?_set_ne (fun e => by have := hlen id hid; omega)
      have hBl : B < H.length := (List.getElem?_eq_some_iff.1 gB).1
      simp only [l1, l2, opt_s, e1, e2, optH_s]
      have := fin st v8 os (.agg [.lit (.int .i64 x.kind), .lit (.int .i64 x.place), .lit (.string ⟨⟨x.text⟩⟩), .lit (.slice none 0 0)]) (.mk x.kind x.place x.text []) [] _ (pH.mono (Nat.le_refl _) (agree _)) ⟨⟨(.agg [.lit (.int .i64 x.kind), .lit (.int .i64 x.place), .lit (.string ⟨⟨x.text⟩⟩), .lit (.slice none 0 0)]), rfl, .mk .nil⟩, rfl, rfl, rfl⟩ (fun id hid => by cases hid) (List.getElem?_set_self hBl) (by simp)
      exact this

end Go.Proofs.Ytcajleckiegffaa
