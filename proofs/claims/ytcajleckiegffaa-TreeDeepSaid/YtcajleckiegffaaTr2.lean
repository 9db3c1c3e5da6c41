import Derived.Test.YtcajleckiegffaaTr1
namespace Go.Proofs.Ytcajleckiegffaa
set_option linter.unusedSimpArgs false
set_option linter.unusedVariables false
open Go.Am
set_option maxRecDepth 100000

theorem RowsH.inv {h : Heap} {cs : List AV} {st st0 : List (Nat × List T)} {os : List (Option Nat)} {pl : Nat} {ks : List T} (r : RowsH h cs st os) (e : st = st0 ++ [(pl, ks)]) :
    ∃ cs0 os0 kv o, cs = cs0 ++ [openCell pl kv] ∧ os = os0 ++ [o] ∧ RowsH h cs0 st0 os0 ∧ KidsH h kv ks o := by
  cases r with
  | nil => cases st0 <;> cases e
  | @snoc cs0 st1 os0 p kv ks' o r k =>
    obtain ⟨h1, h2⟩ := List.append_inj' e rfl
    cases h2
    subst h1
    exact ⟨cs0, os0, kv, o, rfl, rfl, r, k⟩

/-- A tree that is whole: how it reads when it is put into a row; what of memory it takes along. -/
structure Done (h : Heap) (c : AV) (t : T) (ids : List Nat) : Prop where
  ex : ∃ v, snap1 h c = some (v, ids) ∧ TreeV v t
  len : (cellsOf c).length = 4
  ok : (cellsOf c).all okCell = true
  re : reElem (cellsOf c) = c

theorem mark_get {ids : List Nat} {i : Nat} (hi : i ∉ ids) : ∀ (h : Heap), (Am.mark ids h)[i]? = h[i]? := by
  induction ids with
  | nil => intro h; rfl
  | cons j ids ih =>
    intro h
    rw [List.mem_cons, not_or] at hi
    show (Am.mark ids (h.modify j share))[i]? = _
    rw [ih hi.2, List.getElem?_modify]
    have hne : ¬ j = i := fun e => hi.1 e.symm
    cases h[i]? <;> simp [hne]

theorem mark_len (ids : List Nat) : ∀ (h : Heap), (Am.mark ids h).length = h.length := by
  induction ids with
  | nil => intro h; rfl
  | cons j ids ih => intro h; show (Am.mark ids (h.modify j share)).length = _; rw [ih]; simp

theorem mark_set {ids : List Nat} {i : Nat} (hi : i ∉ ids) (x : AObj) : ∀ (h : Heap), Am.mark ids (h.set i x) = (Am.mark ids h).set i x := by
  induction ids with
  | nil => intro h; rfl
  | cons j ids ih =>
    intro h
    rw [List.mem_cons, not_or] at hi
    show Am.mark ids ((h.set i x).modify j share) = (Am.mark ids (h.modify j share)).set i x
    rw [← ih hi.2]
    congr 1
    apply List.ext_getElem?
    intro k
    have hne : ¬ j = i := fun e => hi.1 e.symm
    rw [List.getElem?_modify, List.getElem?_set, List.getElem?_set, List.getElem?_modify]
    by_cases h1 : i = k
    · subst h1
      simp only [if_true, List.length_modify, if_neg hne]
      split <;> rfl
    · rw [if_neg h1, if_neg h1]

theorem snapCell_agree {h H : Heap} {c v : AV} {ids : List Nat} (hs : snapCell h c = some (v, ids)) (hh : ∀ id ∈ ids, H[id]? = h[id]?) : snapCell H c = some (v, ids) := by
  cases c with
  | sl id off len full =>
    unfold snapCell at hs ⊢
    simp only at hs ⊢
    split at hs
    · rename_i A hA
      split at hs
      · rename_i h1
        split at hs
        · rename_i h2
          cases hs
          rw [hh id (by simp), hA]
          simp only
          rw [if_pos h1, if_pos h2]
        · cases hs
      · cases hs
    · cases hs
  | _ => exact hs

theorem snapCells_agree {h H : Heap} : ∀ {cs vs : List AV} {ids : List Nat}, snapCells h cs = some (vs, ids) → (∀ id ∈ ids, H[id]? = h[id]?) → snapCells H cs = some (vs, ids)
  | [], vs, ids, hs, _ => hs
  | c :: cs, vs, ids, hs, hh => by
    unfold snapCells at hs ⊢
    split at hs
    · rename_i c' i cs' j h1 h2
      cases hs
      rw [snapCell_agree h1 (fun id hid => hh id (List.mem_append_left _ hid)), snapCells_agree h2 (fun id hid => hh id (List.mem_append_right _ hid))]
    · cases hs

theorem snap1_agree {h H : Heap} {c v : AV} {ids : List Nat} (hs : snap1 h c = some (v, ids)) (hh : ∀ id ∈ ids, H[id]? = h[id]?) : snap1 H c = some (v, ids) := by
  cases c with
  | agg cs =>
    simp only [snap1] at hs ⊢
    cases h1 : snapCells h cs with
    | none => rw [h1] at hs; cases hs
    | some x =>
      obtain ⟨vs, j⟩ := x
      rw [h1] at hs
      cases hs
      rw [snapCells_agree h1 hh]; rfl
  | _ =>
    simp only [snap1] at hs ⊢
    exact snapCell_agree hs hh

theorem store_elem {h : Heap} {id i : Nat} {es : List AV} {c v : AV} {ids : List Nat} {e : AV} (hid : h[id]? = some (.arr ⟨4, true, false, es⟩)) (he : es[i]? = some e) (hl : (cellsOf e).length = 4)
    (hc : (cellsOf c).length = 4) (hs : snap1 h c = some (v, ids)) (hv : (cellsOf v).length = 4) (hok : (cellsOf v).all okCell = true) (hre : reElem (cellsOf v) = v) (hn : id ∉ ids) :
    storeX 4 (.ptr id i 0) c h = some (Am.mark ids (h.set id (.arr ⟨4, true, false, es.set i v⟩))) := by
  have key : (if 4 = (cellsOf v).length ∧ 0 + (cellsOf v).length ≤ (cellsOf e).length ∧ (cellsOf v).all okCell = true then
      some (h.set id (.arr { (⟨4, true, false, es⟩ : Arr) with elems := es.set i (reElem (overwrite (cellsOf e) 0 (cellsOf v))) })) else none) = some (h.set id (.arr ⟨4, true, false, es.set i v⟩)) := by
    rw [if_pos ⟨hv.symm, by omega, hok⟩, overwrite_all (by omega), hre]
  unfold storeX
  simp only [hid, Bool.false_eq_true, if_false, he, hc, hs, if_neg hn]
  rw [if_pos ⟨trivial, trivial⟩]
  show Option.map (Am.mark ids) (if 4 = (cellsOf v).length ∧ _ then _ else _) = _
  rw [key]
  rfl

theorem store_kids {h : Heap} {id i : Nat} {es : List AV} {pl : Nat} {kv u : AV} (hid : h[id]? = some (.arr ⟨4, true, false, es⟩)) (he : es[i]? = some (openCell pl kv)) (hu : cellsOf u = [u]) (hok : okCell u = true) :
    storeX 1 (.ptr id i 3) u h = some (h.set id (.arr ⟨4, true, false, es.set i (openCell pl u)⟩)) := by
  have h1 : (cellsOf u).length = 1 := by rw [hu]; rfl
  unfold storeX
  simp only [hid, Bool.false_eq_true, if_false, he]
  rw [if_neg (by rw [h1]; simp)]
  show (if 1 = (cellsOf u).length ∧ 3 + (cellsOf u).length ≤ (cellsOf (openCell pl kv)).length ∧ (cellsOf u).all okCell = true then
      some (h.set id (.arr { (⟨4, true, false, es⟩ : Arr) with elems := es.set i (reElem (overwrite (cellsOf (openCell pl kv)) 3 (cellsOf u))) })) else none) = _
  rw [hu, if_pos ⟨rfl, by simp [openCell, cellsOf], by simp [hok]⟩]
  rfl

theorem zero_slice (h : Heap) : bsliceX 4 zeroT4 1 [(0, zeroT4)] h = some (.isl 4 true [zeroT4], h) := bslice_one rfl rfl rfl

/-- A whole tree put under the top of the stack. -/
theorem PInv.addKid {h : Heap} {b : Nat} {v8 v9 : AV} {st0 : List (Nat × List T)} {pl : Nat} {ks : List T} {whole : List T} {o8 o9 : Option Nat} {os : List (Option Nat)} {i : Nat} (p : PInv h b v8 v9 (st0 ++ [(pl, ks)]) whole o8 o9 os i) (hi : i ≤ 1000000)
    {c : AV} {t : T} {ids : List Nat} (d : Done h c t ids) (hids : ∀ id ∈ ids, ¬ Held b o8 o9 os id ∧ id < h.length) {B : Nat} (hB : h[B]? = some (.arr ⟨4, false, false, [c]⟩)) (hBn : B ∉ ids)
    (call : CallF) (r1 : AV → AV → AV → AV → AV → AV → AV → Heap → Res) (t0 t2 t31 t32 : AV) (j : Nat) (hj : j ≤ 1000000) :
    ∃ h' os', S12_2 call r1 t0 t2 v8 v9 (.ptr B 0 0) t31 t32 (.lit (.int .i64 j)) h = r1 t0 t2 v8 v9 t31 t32 (.lit (.int .i64 (j + 1 : Nat))) h' ∧ PInv h' b v8 v9 (st0 ++ [(pl, ks ++ [t])]) whole o8 o9 os' (i + 1) := by
  have hw := p.stack
  have hs1 := p.s1
  simp only [List.length_append, List.length_singleton] at hs1
  cases o8 with
  | none =>
    obtain ⟨_, h1, _⟩ := hw
    simp at h1
  | some id8 =>
    obtain ⟨cs, junk, rfl, h2, hr⟩ := hw
    obtain ⟨cs0, os0, kv, o, rfl, rfl, hr0, es, hk, hlv⟩ := hr.inv rfl
    have hl0 := hr0.length.1
    obtain ⟨v, hsn, htv⟩ := d.ex
    obtain ⟨f1, f2, f3, f4⟩ := htv.cells
    have n1 := p.n1 id8 rfl
    have ho8 : o ≠ some id8 := fun e => n1.2.2 (by rw [e]; simp)
    have heslen : es.length ≤ i := by rw [hlv.length]; exact p.s2 (pl, ks) (by simp)
    have lt8 : id8 < h.length := p.lt (.inr (.inl rfl))
    have hnew : h.length ∉ ids := fun e => by have := (hids _ e).2; omega
    have h8ids : id8 ∉ ids := fun e => (hids _ e).1 (.inr (.inl rfl))
    -- the memory at each step
    have ha := hk.append (bytes := 56) (f := true) (ys := [zeroT4]) (by simp) (by simp; omega)
    obtain ⟨h4, e4⟩ : ∃ h4, h4 = kill h o ++ [.arr ⟨4, true, false, es ++ [zeroT4]⟩] := ⟨_, rfl⟩
    rw [← e4] at ha
    have g4 : h4[h.length]? = some (.arr ⟨4, true, false, es ++ [zeroT4]⟩) := by
      rw [e4, List.getElem?_append_right (by rw [kill_length]; exact Nat.le_refl _), kill_length]; simp
    have g48 : h4[id8]? = some (.arr ⟨4, true, false, cs0 ++ [openCell pl kv] ++ junk⟩) := by rw [e4, kill_get ho8 lt8]; exact h2
    have l4 : h4.length = h.length + 1 := by rw [e4]; simp [kill_length]
    have sn4 : ∀ H : Heap, (∀ id ∈ ids, H[id]? = h[id]?) → snap1 H c = some (v, ids) := fun H hH => snap1_agree hsn hH
    have hkids : ∀ id ∈ ids, o ≠ some id := fun id hid e => (hids id hid).1 (.inr (.inr (.inr (by rw [e]; simp))))
    have s4 : ∀ id ∈ ids, h4[id]? = h[id]? := fun id hid => by rw [e4, kill_get (hkids id hid) (hids id hid).2]
    have e5 := store_elem (e := zeroT4) (i := es.length) g4 (by simp) rfl d.len (sn4 h4 s4) f2 f3 f4 hnew
    have hset : (es ++ [zeroT4]).set es.length v = es ++ [v] := by simp
    rw [hset] at e5
    have gi : (cs0 ++ [openCell pl kv] ++ junk)[cs0.length]? = some (openCell pl kv) := by simp
    have e6 := store_kids (u := .sl h.length 0 (es.length + 1) false) g48 gi rfl rfl
    have hset8 : (cs0 ++ [openCell pl kv] ++ junk).set cs0.length (openCell pl (.sl h.length 0 (es.length + 1) false)) = cs0 ++ [openCell pl (.sl h.length 0 (es.length + 1) false)] ++ junk := by simp
    rw [hset8] at e6
    obtain ⟨h5, d5⟩ : ∃ h5, h5 = Am.mark ids (h4.set h.length (.arr ⟨4, true, false, es ++ [v]⟩)) := ⟨_, rfl⟩
    rw [← d5] at e5
    have ne8 : id8 ≠ h.length := by omega
    have g58 : h5[id8]? = some (.arr ⟨4, true, false, cs0 ++ [openCell pl kv] ++ junk⟩) := by
      rw [d5, mark_get h8ids, List.getElem?_set_ne (by omega)]; exact g48
    have e7 := store_kids (u := .sl h.length 0 (es.length + 1) false) g58 gi rfl rfl
    rw [hset8] at e7
    obtain ⟨h6, d6⟩ : ∃ h6, h6 = h4.set id8 (.arr ⟨4, true, false, cs0 ++ [openCell pl (.sl h.length 0 (es.length + 1) false)] ++ junk⟩) := ⟨_, rfl⟩
    rw [← d6] at e6
    obtain ⟨h7, d7⟩ : ∃ h7, h7 = h5.set id8 (.arr ⟨4, true, false, cs0 ++ [openCell pl (.sl h.length 0 (es.length + 1) false)] ++ junk⟩) := ⟨_, rfl⟩
    rw [← d7] at e7
    have g6 : h6[h.length]? = some (.arr ⟨4, true, false, es ++ [zeroT4]⟩) := by rw [d6, List.getElem?_set_ne (by omega)]; exact g4
    have s6 : ∀ id ∈ ids, h6[id]? = h[id]? := fun id hid => by
      have hn : id8 ≠ id := fun e => h8ids (by rw [e]; exact hid)
      rw [d6, List.getElem?_set_ne hn]; exact s4 id hid
    have e8 := store_elem (e := zeroT4) (i := es.length) g6 (by simp) rfl d.len (sn4 h6 s6) f2 f3 f4 hnew
    rw [hset] at e8
    have eq87 : Am.mark ids (h6.set h.length (.arr ⟨4, true, false, es ++ [v]⟩)) = h7 := by
      rw [d7, d5, d6, ← mark_set h8ids, List.set_comm _ _ (by omega)]
    rw [eq87] at e8
    have ix : ∀ H : Heap, H[id8]? = some (.arr ⟨4, true, false, cs0 ++ [openCell pl kv] ++ junk⟩) → indexAddrS 4 (.sl id8 0 (cs0 ++ [openCell pl kv]).length false) (.lit (.int .i64 ((cs0.length : Nat) : Int))) H = some (.ptr id8 cs0.length 0) := by
      intro H hH
      unfold indexAddrS intLit
      simp only [hH, Int.natCast_nonneg, if_true, Int.toNat_natCast]
      rw [if_pos ⟨trivial, by simp, by simp⟩, Nat.zero_add]
    have ix4 : ∀ H : Heap, ∀ e, H[h.length]? = some (.arr ⟨4, true, false, es ++ [e]⟩) → indexAddrS 4 (.sl h.length 0 (es.length + 1) false) (.lit (.int .i64 ((es.length : Nat) : Int))) H = some (.ptr h.length es.length 0) := by
      intro H e hH
      unfold indexAddrS intLit
      simp only [hH, Int.natCast_nonneg, if_true, Int.toNat_natCast]
      rw [if_pos ⟨trivial, by omega, by simp⟩, Nat.zero_add]
    have lk : loadX none (.ptr id8 cs0.length 3) h = some kv := by
      unfold loadX
      simp only [h2, gi]
      rfl
    have lc : loadX (some 4) (.ptr B 0 0) h = some c := by
      unfold loadX
      simp only [hB, List.getElem?_cons_zero]
      have : readX (some 4) (cellsOf c) 0 = some (.agg (cellsOf c)) := readX_all d.len.symm
      rw [this, ← reElem_agg (by rw [d.len]; decide), d.re]
    have hlen : lenS (.sl id8 0 (cs0 ++ [openCell pl kv]).length false) = some (.lit (.int .i64 (((cs0.length + 1 : Nat)) : Int))) := by simp only [lenS_sl, List.length_append, List.length_singleton]
    have hz := zero_slice h
    unfold zeroT4 at hz ha
    simp only [S12_2, hlen, opt_s, fb_eql, test_b, decide_eq_true_eq]
    rw [if_neg (by omega), fb_sub, opt_s, wrap64 (by omega) (by omega), show ((cs0.length + 1 : Nat) : Int) - 1 = ((cs0.length : Nat) : Int) by omega, ix h h2, opt_s]
    simp only [nilCheckX, opt_s, fa_ptr, Nat.zero_add, lk, eqH_s, lc, hk.len, hz, opt2_s, ha, ix4 h4 _ g4, List.length_singleton]
    rw [e5, optH_s, e6, optH_s, e7, optH_s, eqK_s, e8, optH_s, eqK_s, eqH_s, ix4 h6 _ g6, opt_s, eqK_s, fb_add, opt_s, wrap64 (by omega) (by omega)]
    refine ⟨h7, os0 ++ [some h.length], rfl, ?_⟩
    have fr : ∀ id, Held b (some id8) o9 (os0 ++ [o]) id → id ≠ id8 → o ≠ some id → h7[id]? = h[id]? := by
      intro id hid hn8 hno
      have hlt := p.lt hid
      rw [d7, List.getElem?_set_ne (fun e => hn8 e.symm), d5, mark_get (fun e => (hids id e).1 hid), List.getElem?_set_ne (by omega), e4, kill_get hno hlt]
    have l7 : h7.length = h.length + 1 := by rw [d7, List.length_set, d5, mark_len, List.length_set, l4]
    have pw := p.n4
    rw [List.pairwise_append] at pw
    have hnb : o ≠ some b := fun e => p.n3 (by rw [e]; simp)
    refine ⟨?_, ?_, ?_, ?_, ?_, ?_, ?_, ?_, ?_, ?_⟩
    · rw [fr b (.inl rfl) (fun e => n1.1 e.symm) hnb]; exact p.box
    · refine ⟨cs0 ++ [openCell pl (.sl h.length 0 (es.length + 1) false)], junk, by simp, ?_, ?_⟩
      · rw [d7, List.getElem?_set_self (by rw [d5, mark_len, List.length_set, l4]; omega)]
      · refine .snoc (hr0.mono fun id hid => ?_) ⟨es ++ [v], ⟨by simp, ?_⟩, hlv.append (.cons htv .nil)⟩
        · refine fr id (.inr (.inr (.inr (List.mem_append_left _ hid)))) (fun e => n1.2.2 (by rw [← e]; exact List.mem_append_left _ hid)) (fun e => pw.2.2 _ hid o (by simp) id rfl e)
        · rw [d7, List.getElem?_set_ne (by omega), d5, mark_get hnew, List.getElem?_set_self (by omega)]
    · obtain ⟨ws, w1, w2⟩ := p.wh
      exact ⟨ws, OwnS.mono w1 fun id e => fr id (.inr (.inr (.inl e))) (fun e2 => n1.2.1 (by rw [e, e2])) (fun e2 => (p.n2 id e).2 (by rw [e2]; simp)), w2⟩
    · intro id e
      cases e
      refine ⟨n1.1, n1.2.1, fun e => ?_⟩
      rcases List.mem_append.1 e with e | e
      · exact n1.2.2 (List.mem_append_left _ e)
      · simp at e; omega
    · intro id e
      refine ⟨(p.n2 id e).1, fun e2 => ?_⟩
      rcases List.mem_append.1 e2 with e2 | e2
      · exact (p.n2 id e).2 (List.mem_append_left _ e2)
      · have := p.lt (.inr (.inr (.inl e)) : Held b (some id8) o9 (os0 ++ [o]) id)
        simp at e2; omega
    · intro e
      rcases List.mem_append.1 e with e | e
      · exact p.n3 (List.mem_append_left _ e)
      · have := p.lt (.inl rfl : Held b (some id8) o9 (os0 ++ [o]) b)
        simp at e; omega
    · rw [List.pairwise_append]
      refine ⟨pw.1, by simp, fun a ha c hc id e e2 => ?_⟩
      rw [List.mem_singleton] at hc
      subst hc; subst e
      have := p.lt (.inr (.inr (.inr (List.mem_append_left _ ha))) : Held b (some id8) o9 (os0 ++ [o]) id)
      simp at e2; omega
    · simp; omega
    · intro x hx
      rcases List.mem_append.1 hx with hx | hx
      · have := p.s2 x (List.mem_append_left _ hx); omega
      · rw [List.mem_singleton] at hx
        subst hx
        have := p.s2 (pl, ks) (by simp)
        simp at this ⊢; omega
    · have := p.s3; omega

end Go.Proofs.Ytcajleckiegffaa
