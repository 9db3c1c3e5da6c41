import Derived.Test.YtcajleckiegffaaRd7
set_option linter.unusedSectionVars false
namespace Go.Proofs.Ytcajleckiegffaa
set_option linter.unusedSimpArgs false
set_option linter.unusedVariables false
open Go.Am
set_option maxRecDepth 100000

/-! ### hawserref4.Parse -/

def RefSplit (call : CallF) : Prop := ∀ (s : List UInt8) (h : Heap), ∃ u, call 25 [rv s] h = some (.tup [u, ri (splitF s).err, ri (splitF s).pos], h) ∧ SliceV u 3 ((splitF s).toks.map tokAV)

theorem check_loop {call : CallF} {s : List UInt8} {L : List Tok} {f : Bool} (hL : L.length ≤ 8192) {b2 : Nat} {H : Heap} (hb : H[b2]? = some (boxOf zeroT4)) :
    ∀ (k i d : Nat), i ≤ L.length → L.length - i < k → d ≤ 40 →
      (∃ e p, chkM s.length (L.drop i) (decide (i = 0)) d = some (e, p) ∧ ∃ H', S15_1l call k (rv s) (.ptr b2 0 0) (.isl 3 f (L.map tokAV)) (ri d) (ri i) H = some (.tup [zeroT4, ri e, ri p], H')) ∨
      (chkM s.length (L.drop i) (decide (i = 0)) d = none ∧ S15_1l call k (rv s) (.ptr b2 0 0) (.isl 3 f (L.map tokAV)) (ri d) (ri i) H = S15_0 call (rv s) (.ptr b2 0 0) (.isl 3 f (L.map tokAV)) (ri (0 : Nat)) H) := by
  have bz : buildX [(.lit (.int .i64 0)), (.lit (.int .i64 0)), (.lit (.string ⟨⟨[]⟩⟩)), (.lit (.slice none 0 0))] [(0, 1), (1, 1), (2, 1), (3, 1)] [] = some zeroT4 := rfl
  have stz : storeX 4 (.ptr b2 0 0) zeroT4 H = some (H.set b2 (boxOf zeroT4)) := store_at (cs := [_, _, _, _]) hb rfl rfl (by decide) rfl
  have ldz : loadX (some 4) (.ptr b2 0 0) (H.set b2 (boxOf zeroT4)) = some zeroT4 := loadA_at (cs := [_, _, _, _]) (get_set_self hb) rfl
  intro k
  induction k with
  | zero => intro i d _ hk; omega
  | succ k ih =>
    intro i d hi hk hd
    have hsh : S15_1l call (k + 1) (rv s) (.ptr b2 0 0) (.isl 3 f (L.map tokAV)) (ri d) (ri i) H = S15_6b call (S15_1l call k) (rv s) (.ptr b2 0 0) (.isl 3 f (L.map tokAV)) (ri d) (ri i) H := rfl
    rw [hsh]
    simp only [S15_6b, lenS_isl, List.length_map, opt_s, fb_lss, test_b, decide_eq_true_eq]
    by_cases hlt : i < L.length
    · rw [if_pos (by omega)]
      have hdr : L.drop i = L[i] :: L.drop (i + 1) := List.drop_eq_getElem_cons hlt
      have hx : L[i]? = some L[i] := List.getElem?_eq_getElem hlt
      generalize L[i] = x at hdr hx
      have ix : ∀ H : Heap, indexAddrS 3 (.isl 3 f (L.map tokAV)) (ri i) H = some (.iptr (tokAV x) 0) := fun H => by
        rw [ixa_isl (Int.natCast_nonneg _), Int.toNat_natCast, List.getElem?_map, hx]; rfl
      have q0 : ∀ o, fieldAddrX o (.iptr (tokAV x) 0) = some (.iptr (tokAV x) o) := fun o => by rw [fa_iptr, Nat.zero_add]
      have q1 : ∀ H : Heap, loadX none (.iptr (tokAV x) 0) H = some (ri x.kind) ∧ loadX none (.iptr (tokAV x) 1) H = some (ri x.place) := fun H => ⟨rfl, rfl⟩
      have hw : fastWrap .i64 ((i : Int) + 1) = ((i + 1 : Nat) : Int) := by rw [wrap64 (by omega) (by omega)]; rfl
      have hd1 : fastWrap .i64 ((d : Int) + 1) = ((d + 1 : Nat) : Int) := by rw [wrap64 (by omega) (by omega)]; rfl
      have next : ∀ d' : Nat, d' ≤ 40 → (∃ e p, chkM s.length (L.drop (i + 1)) false d' = some (e, p) ∧ ∃ H', S15_2 call (S15_1l call k) (rv s) (.ptr b2 0 0) (.isl 3 f (L.map tokAV)) (ri d') (ri i) H = some (.tup [zeroT4, ri e, ri p], H')) ∨
          (chkM s.length (L.drop (i + 1)) false d' = none ∧ S15_2 call (S15_1l call k) (rv s) (.ptr b2 0 0) (.isl 3 f (L.map tokAV)) (ri d') (ri i) H = S15_0 call (rv s) (.ptr b2 0 0) (.isl 3 f (L.map tokAV)) (ri (0 : Nat)) H) := by
        intro d' hd'
        have := ih (i + 1) d' (by omega) (by omega) hd'
        rw [show decide (i + 1 = 0) = false from decide_eq_false (by omega)] at this
        simp only [S15_2, fb_add, opt_s, hw]
        exact this
      have hth : ∀ g : Bool, (g = false → d = 0 → x.kind = 2) → (∃ e p, chkM s.length (x :: L.drop (i + 1)) g d = some (e, p) ∧ ∃ H', S15_3 call (S15_1l call k) (rv s) (.ptr b2 0 0) (.isl 3 f (L.map tokAV)) (ri d) (ri i) H = some (.tup [zeroT4, ri e, ri p], H')) ∨
          (chkM s.length (x :: L.drop (i + 1)) g d = none ∧ S15_3 call (S15_1l call k) (rv s) (.ptr b2 0 0) (.isl 3 f (L.map tokAV)) (ri d) (ri i) H = S15_0 call (rv s) (.ptr b2 0 0) (.isl 3 f (L.map tokAV)) (ri (0 : Nat)) H) := by
        intro g hg
        simp only [chkM]
        rw [if_neg (fun ⟨a, b, c⟩ => c (hg a b))]
        simp only [S15_3, ix, q0, (q1 _).1, opt_s, fb_eql, test_b, decide_eq_true_eq, ceq]
        by_cases h1 : x.kind = 1
        · rw [if_pos h1, if_pos h1]
          simp only [fb_add, hd1, opt_s, fb_gtr, test_b, decide_eq_true_eq, clt2]
          by_cases h40 : 40 < d + 1
          · rw [if_pos h40, if_pos h40]
            refine .inl ⟨14, x.place, rfl, H.set b2 (boxOf zeroT4), ?_⟩
            simp only [bz, opt_s, ix, q0, (q1 _).2, eqH_s, stz, optH_s, eqK_s, ldz]
            rfl
          · rw [if_neg h40, if_neg h40]
            exact next (d + 1) (by omega)
        · rw [if_neg h1, if_neg h1]
          by_cases h2 : x.kind = 2
          · rw [if_pos h2, if_pos h2]
            by_cases h0 : d = 0
            · rw [if_pos h0, if_pos h0]
              refine .inl ⟨12, x.place, rfl, H.set b2 (boxOf zeroT4), ?_⟩
              simp only [bz, opt_s, ix, q0, (q1 _).2, eqH_s, stz, optH_s, eqK_s, ldz]
              rfl
            · rw [if_neg h0, if_neg h0]
              have hd2 : fastWrap .i64 ((d : Int) - 1) = ((d - 1 : Nat) : Int) := by rw [wrap64 (by omega) (by omega)]; omega
              simp only [fb_sub, hd2, opt_s]
              exact next (d - 1) (by omega)
          · rw [if_neg h2, if_neg h2]
            exact next d hd
      rw [hdr]
      have e0 : ((0 : Int) < (i : Int)) = (0 < i) := propext (by omega)
      have e1 : ((d : Int) = 0) = (d = 0) := propext (by omega)
      simp only [S15_5, fb_gtr, opt_s, test_b, decide_eq_true_eq, e0]
      by_cases hi0 : 0 < i
      · rw [if_pos hi0, show decide (i = 0) = false from decide_eq_false (by omega)]
        simp only [fb_eql, opt_s, test_b, decide_eq_true_eq, e1]
        by_cases h0 : d = 0
        · rw [if_pos h0]
          simp only [ix, q0, (q1 _).1, opt_s, fb_neq, S15_4, test_b, decide_eq_true_eq, ne_eq, ceq]
          by_cases h2 : x.kind = 2
          · rw [if_neg (fun h => h h2)]
            exact hth false (fun _ _ => h2)
          · rw [if_pos h2]
            refine .inl ⟨11, x.place, ?_, H.set b2 (boxOf zeroT4), ?_⟩
            · simp only [chkM]; rw [if_pos ⟨trivial, h0, h2⟩]
            · simp only [bz, opt_s, ix, q0, (q1 _).2, eqH_s, stz, optH_s, eqK_s, ldz]
              rfl
        · rw [if_neg h0]
          simp only [S15_4, test_b, Bool.false_eq_true, if_false]
          exact hth false (fun _ h => absurd h h0)
      · rw [if_neg hi0, show decide (i = 0) = true from decide_eq_true (by omega)]
        simp only [S15_4, test_b, Bool.false_eq_true, if_false]
        exact hth true (fun h => by cases h)
    · rw [if_neg (by omega)]
      rw [List.drop_eq_nil_of_le (by omega)]
      simp only [chkM]
      by_cases h0 : 0 < d
      · rw [if_pos h0]
        refine .inl ⟨10, s.length, rfl, H.set b2 (boxOf zeroT4), ?_⟩
        have e0 : ((0 : Int) < (d : Int)) = (0 < d) := propext (by omega)
        simp only [S15_0, fb_gtr, opt_s, test_b, decide_eq_true_eq, e0]
        rw [if_pos h0]
        simp only [bz, opt_s, lenStr_s, stz, optH_s, ldz]
        rfl
      · rw [if_neg h0]
        have : d = 0 := by omega
        subst this
        exact .inr ⟨rfl, rfl⟩

theorem F15_ok {call : CallF} (R : RefSplit call) (O : OneCall call 8192) (s : List UInt8) (h : Heap) :
    ∃ v h', F15 call (rv s) h = some (.tup [v, ri (parseF s).err, ri (parseF s).pos], h') ∧ TreeV v (parseF s).tree := by
  obtain ⟨u, c1, c2⟩ := R s (h ++ [boxOf zeroT4])
  have bx : ∀ h : Heap, box (.agg [.lit (.int .i64 0), .lit (.int .i64 0), .lit (.string ⟨⟨[]⟩⟩), .lit (.slice none 0 0)]) h = some (.ptr h.length 0 0, h ++ [boxOf zeroT4]) := fun h => box_agg h (by simp) rfl
  have g2 : (h ++ [boxOf zeroT4])[h.length]? = some (boxOf zeroT4) := get_last _ _
  have bz : buildX [(.lit (.int .i64 0)), (.lit (.int .i64 0)), (.lit (.string ⟨⟨[]⟩⟩)), (.lit (.slice none 0 0))] [(0, 1), (1, 1), (2, 1), (3, 1)] [] = some zeroT4 := rfl
  simp only [F15, bx, opt2_s]
  generalize h ++ [boxOf zeroT4] = H at *
  generalize h.length = b2 at *
  have stz : storeX 4 (.ptr b2 0 0) zeroT4 H = some (H.set b2 (boxOf zeroT4)) := store_at (cs := [_, _, _, _]) g2 rfl rfl (by decide) rfl
  have ldz : loadX (some 4) (.ptr b2 0 0) (H.set b2 (boxOf zeroT4)) = some zeroT4 := loadA_at (cs := [_, _, _, _]) (get_set_self g2) rfl
  have hl := splitF_len s
  simp only [S15_12, c1, opt2_s, extract_tup, List.getElem?_cons_zero, List.getElem?_cons_succ, opt_s, S15_11, fb_neq, test_b, decide_eq_true_eq]
  have hpf : parseF s = if (splitF s).err ≠ 0 then ⟨noTree, (splitF s).err, (splitF s).pos⟩ else if (splitF s).toks.length = 0 then ⟨noTree, 12, s.length⟩ else parseM s.length (splitF s).toks [] [] := rfl
  by_cases he : (splitF s).err = 0
  case neg =>
    rw [if_pos he] at hpf
    rw [hpf, if_pos (by omega)]
    simp only [bz, opt_s, stz, optH_s, ldz]
    exact ⟨_, _, rfl, zeroV⟩
  rw [if_neg (by simp [he])] at hpf
  rw [if_neg (by simp [he])]
  simp only [S15_10, c2.len, List.length_map, opt_s, fb_eql, test_b, decide_eq_true_eq]
  by_cases ht : (splitF s).toks.length = 0
  · rw [if_pos ht] at hpf
    rw [hpf, if_pos (by omega)]
    simp only [bz, opt_s, lenStr_s, stz, optH_s, ldz]
    exact ⟨_, _, rfl, zeroV⟩
  rw [if_neg ht] at hpf
  rw [if_neg (by omega)]
  simp only [S15_9, S15_8, S15_7]
  have hne : (splitF s).toks ≠ [] := fun e => ht (by rw [e]; rfl)
  have law := parse_law s hne
  rw [← hpf] at law
  generalize (splitF s).toks = L at *
  rcases c2 with ⟨_, e⟩ | ⟨f, rfl⟩
  · exact absurd (List.map_eq_nil_iff.1 e) hne
  have := check_loop (call := call) (s := s) (L := L) (f := f) hl g2 rounds 0 0 (by omega) (by simp only [rounds]; omega) (by omega)
  rw [List.drop_zero, decide_eq_true rfl] at this
  rcases law with ⟨e, p, l1, _, l2⟩ | ⟨l1, t, l2, l3⟩
  · rw [l1] at this
    rcases this with ⟨e', p', q1, H', q2⟩ | ⟨q1, _⟩
    · cases q1
      rw [l2]
      refine ⟨zeroT4, H', ?_, zeroV⟩
      rw [← q2]; rfl
    · cases q1
  · rw [l1] at this
    rcases this with ⟨e', p', q1, _⟩ | ⟨_, q2⟩
    · cases q1
    · rw [l2]
      obtain ⟨u, o1, o2⟩ := O L [] t f H l3 hl (by rw [List.append_nil]; exact hl)
      rw [List.append_nil] at o1
      have e : S15_1l call rounds (rv s) (.ptr b2 0 0) (.isl 3 f (L.map tokAV)) (.lit (.int .i64 0)) (.lit (.int .i64 0)) H = S15_0 call (rv s) (.ptr b2 0 0) (.isl 3 f (L.map tokAV)) (ri (0 : Nat)) H := q2
      rw [e]
      simp only [S15_0, fb_gtr, opt_s, test_b, decide_eq_true_eq]
      rw [if_neg (by simp), o1]
      simp only [opt2_s, extract_tup, List.getElem?_cons_zero, List.getElem?_cons_succ, opt_s]
      rw [tree_box o2]
      have b2lt : b2 < H.length := (List.getElem?_eq_some_iff.1 g2).1
      have k10 : (H ++ [AObj.arr ⟨4, false, false, [u]⟩])[H.length]? = some (.arr ⟨4, false, false, [u]⟩) := get_last _ _
      have k2 : (H ++ [AObj.arr ⟨4, false, false, [u]⟩])[b2]? = some (boxOf zeroT4) := by rw [List.getElem?_append_left b2lt]; exact g2
      generalize H ++ [AObj.arr ⟨4, false, false, [u]⟩] = K at *
      rw [tree_load o2 k10, opt_s]
      have fin : ∃ K', storeX 4 (.ptr b2 0 0) u K = some K' ∧ loadX (some 4) (.ptr b2 0 0) K' = some u := by
        obtain ⟨f1, f2, f3, f4⟩ := o2.cells
        cases o2 with
        | @mk kk p tx kv ks hkv =>
          exact ⟨_, store_tree (cs := [_, _, _, _]) k2 rfl f3, loadA_at (cs := [_, _, _, _]) (get_set_self k2) rfl⟩
      obtain ⟨K', y1, y2⟩ := fin
      rw [y1, optH_s, y2, opt_s]
      exact ⟨u, K', rfl, o2⟩

/-! ### The law -/

def RefParse (call : CallF) : Prop := ∀ (s : List UInt8) (h : Heap), ∃ v, call 15 [rv s] h = some (.tup [v, ri (parseF s).err, ri (parseF s).pos], h) ∧ TreeV v (parseF s).tree

theorem F6_ok {call : CallF} (C : ParseCall call) (R : RefParse call) (P : PrintOk call 300000000) (Q : RefPrintOk call 300000000) (S : SameCall call 300000000) (hk : ∀ h, call 14 [] h = some (.lit (.bool true), h)) (s : List UInt8) :
    ∃ h', F6 call (rv s) [] = some (.lit (.bool true), h') := by
  obtain ⟨v, c1, c2⟩ := C.parse s []
  have hw := parseF_w s
  have hd := len_depth _ hw
  have hp := (parseF_print s).2
  simp only [F6, c1, opt2_s, extract_tup, List.getElem?_cons_zero, List.getElem?_cons_succ, opt_s]
  rw [tree_box c2]
  have g3 : (([] : Heap) ++ [AObj.arr ⟨4, false, false, [v]⟩])[([] : Heap).length]? = some (.arr ⟨4, false, false, [v]⟩) := get_last _ _
  generalize (([] : Heap) ++ [AObj.arr ⟨4, false, false, [v]⟩]) = H at *
  generalize ([] : Heap).length = b3 at *
  obtain ⟨w, d1, d2⟩ := R s H
  rw [d1]
  simp only [opt2_s, extract_tup, List.getElem?_cons_zero, List.getElem?_cons_succ, opt_s]
  rw [tree_box d2]
  have g6 : (H ++ [AObj.arr ⟨4, false, false, [w]⟩])[H.length]? = some (.arr ⟨4, false, false, [w]⟩) := get_last _ _
  have g3' : (H ++ [AObj.arr ⟨4, false, false, [w]⟩])[b3]? = some (.arr ⟨4, false, false, [v]⟩) := (List.getElem?_append_left (List.getElem?_eq_some_iff.1 g3).1).trans g3
  generalize H ++ [AObj.arr ⟨4, false, false, [w]⟩] = K at *
  generalize H.length = b6 at *
  have l3 := tree_load c2 g3'
  have l6 := tree_load d2 g6
  have hs := S true v w _ _ K c2 d2 hd hw ⟨fun _ => rfl, rfl⟩
  have p1 := P v _ K c2 hd (by omega)
  have p2 := Q w _ K d2 hd (by omega)
  simp only [l3, l6, opt_s, eqH_s, hs, opt2_s, test_b, if_true, fb_eql, decide_true, p1, p2, fb_eqls, hk]
  exact ⟨_, rfl⟩

/-! ### over a table -/

structure HasRef (E : SEnv) : Prop extends HasBack E where
  p15 : E.prim 15 = none
  p17 : E.prim 17 = none
  p25 : E.prim 25 = none
  p26 : E.prim 26 = none
  p27 : E.prim 27 = none
  p32 : E.prim 32 = none
  p33 : E.prim 33 = none
  p37 : E.prim 37 = none
  f15 : E.fns 15 = some (.alone, N15)
  f17 : E.fns 17 = some (.alone, N17)
  f25 : E.fns 25 = some (.alone, N25)
  f26 : E.fns 26 = some (.alone, N26)
  f27 : E.fns 27 = some (.alone, N27)
  f32 : E.fns 32 = some (.alone, N32)
  f33 : E.fns 33 = some (.alone, N33)
  f37 : E.fns 37 = some (.alone, N37)

theorem HasRef.hex {E : SEnv} (H : HasRef E) (n : Nat) : HexCall (scall E (n + 1)) := fun c h =>
  alone_call H.p37 H.f37 rfl (F37_ok (scall E n) c []) ⟨[], rfl⟩

theorem QuotR.lift {s : List UInt8} {n fr : Nat} {acc : List Tok} {r : LexR} {lo : Nat} {E : SEnv} {m : Nat} (hp : E.prim 33 = none) (hf : E.fns 33 = some (.alone, N33)) (h : Heap) (q : QuotR s n fr acc r lo (F33 (scall E m) (rv s) (ri fr) []) []) :
    QuotR s n fr acc r lo (scall E (m + 1) 33 [rv s, ri fr] h) h := by
  rcases q with ⟨e, p, h1, h2, h3⟩ | ⟨k, j, text, h1, h2, h3, h4, h5⟩
  · exact .inl ⟨e, p, h1, h2, alone_call hp hf rfl h3 ⟨[], rfl⟩⟩
  · exact .inr ⟨k, j, text, h1, h2, h3, h4, alone_call hp hf rfl h5 ⟨[], rfl⟩⟩

theorem HasRef.lexr {E : SEnv} (H : HasRef E) (n : Nat) : RefLex (scall E (n + 2)) where
  parts := fun c h => alone_call H.p32 H.f32 rfl (F32_ok (scall E (n + 1)) c []) ⟨[], rfl⟩
  quoted := fun s fr k acc r h hs hf hr => QuotR.lift H.p33 H.f33 h (F33_ok (H.hex n) hs [] hf hr)

theorem HasRef.split {E : SEnv} (H : HasRef E) (n : Nat) : RefSplit (scall E (n + 3)) := fun s h => by
  obtain ⟨v, hc, o, h1, h2⟩ := F25_ok (H.lexr n) s []
  obtain ⟨u, ids, h3, h4⟩ := SliceV.of h2 (tok_free _)
  refine ⟨u, alone_call H.p25 H.f25 rfl h1 ⟨ids, ?_⟩, h4⟩
  simp only [snapR, snaps, h3, snap1_lit, List.append_nil, Option.map_some]

theorem Par.ne {a : List Tok} {t : T} (h : Par a t) : 0 < a.length := by
  obtain ⟨x, r, rfl, _⟩ := h.pos
  simp

theorem HasRef.one {E : SEnv} (H : HasRef E) (n : Nat) : ∀ d, OneCall (scall E (n + d)) d := by
  intro d
  induction d with
  | zero => intro a b t f h hp hd; have := hp.ne; omega
  | succ d ih =>
    intro a b t f h hp hd hl
    obtain ⟨r, K, h1, v, ids, h2, h3⟩ := F26_ok (f := f) ih hp hd hl []
    have hs : snaps h [.isl 3 f ((a ++ b).map tokAV)] = some ([.isl 3 f ((a ++ b).map tokAV)], []) := by
      simp only [snaps, snap1, snapCell_free (v := .isl 3 f ((a ++ b).map tokAV)) rfl, List.append_nil]
    refine ⟨v, alone_call (n := n + d) H.p26 H.f26 hs h1 ⟨ids, ?_⟩, h3⟩
    simp only [snapR, snaps, h2, snap1_lit, List.append_nil, Option.map_some]

theorem HasRef.parse {E : SEnv} (H : HasRef E) (n : Nat) : RefParse (scall E (n + 8192 + 4)) := fun s h => by
  have h0 : OneCall (scall E (n + 8192 + 3)) 8192 := by
    have := H.one (n + 3) 8192
    rwa [show n + 3 + 8192 = n + 8192 + 3 by omega] at this
  obtain ⟨v, hc, h1, h2⟩ := F15_ok (H.split (n + 8192)) h0 s []
  refine ⟨v, alone_call H.p15 H.f15 rfl h1 ⟨[], ?_⟩, h2⟩
  simp only [snapR, snaps, h2.snap, snap1_lit, List.append_nil, Option.map_some]

theorem HasRef.quote {E : SEnv} (H : HasRef E) (n : Nat) : RefQuote (scall E (n + 1)) := fun b h hb =>
  alone_call H.p27 H.f27 rfl (F27_ok hb []) ⟨[], rfl⟩

theorem HasRef.print {E : SEnv} (H : HasRef E) (n : Nat) : ∀ d, RefPrintOk (scall E (n + d + 1)) d := by
  intro d
  induction d with
  | zero => intro v t h _ hd; have := depth_pos t; omega
  | succ d ih =>
    intro v t h tv hd hl
    obtain ⟨h', h1⟩ := F17_ok (H.quote (n + d)) ih tv hd hl []
    have hs : snaps h [v] = some ([v], []) := by simp only [snaps, tv.snap, List.append_nil]
    exact alone_call (n := n + d + 1) H.p17 H.f17 hs h1 ⟨[], rfl⟩

end Go.Proofs.Ytcajleckiegffaa
