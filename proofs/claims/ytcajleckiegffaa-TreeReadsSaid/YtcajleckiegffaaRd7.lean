import Derived.Test.YtcajleckiegffaaRd6
import Derived.Test.YtcajleckiegffaaBkA
set_option linter.unusedSectionVars false
namespace Go.Proofs.Ytcajleckiegffaa
set_option linter.unusedSimpArgs false
set_option linter.unusedVariables false
open Go.Am
set_option maxRecDepth 100000

/-! ### hawserref4.one: the tree that begins with a token -/

def OneCall (call : CallF) (d : Nat) : Prop := ∀ (a b : List Tok) (t : T) (f : Bool) (h : Heap), Par a t → a.length ≤ d → (a ++ b).length ≤ 8192 →
  ∃ u, call 26 [.isl 3 f ((a ++ b).map tokAV)] h = some (.tup [u, ri (a.length : Nat)], h) ∧ TreeV u t

structure OLoop (H : Heap) (b2 b4 p : Nat) (kv : AV) (ks : List T) : Prop where
  ne : b2 ≠ b4
  g2 : H[b2]? = some (boxOf zeroT4)
  g4 : H[b4]? = some (boxOf (.agg [ri 1, ri p, rv [], kv]))
  own : ∃ es o, OwnS H kv 4 es o ∧ ListV es ks ∧ ∀ id, o = some id → id ≠ b2 ∧ id ≠ b4

theorem one_exit {call : CallF} {H : Heap} {b2 b4 p n : Nat} {kv : AV} {ks : List T} (m : OLoop H b2 b4 p kv ks) (hn : n ≤ 100000) :
    ∃ r H', S26_0 call (.ptr b2 0 0) (.ptr b4 0 0) (ri n) H = some (.tup [r, ri ((n + 1 : Nat) : Int)], H') ∧ ∃ v ids, snap1 H' r = some (v, ids) ∧ TreeV v (.mk 1 p [] ks) := by
  obtain ⟨es, o, w, lv, ho⟩ := m.own
  have okc : [ri 1, ri p, rv [], kv].all okCell = true := by
    cases o with
    | none => obtain ⟨rfl, _⟩ := w; rfl
    | some id => obtain ⟨rfl, _⟩ := w; rfl
  have l1 : loadX (some 4) (.ptr b4 0 0) H = some (.agg [ri 1, ri p, rv [], kv]) := loadA_at m.g4 rfl
  have s1 := store_tree (b := b2) m.g2 rfl okc
  have g1 : (H.set b2 (boxOf (.agg [ri 1, ri p, rv [], kv])))[b2]? = some (boxOf (.agg [ri 1, ri p, rv [], kv])) := get_set_self m.g2
  have l2 := loadA_at (m := 4) g1 rfl
  have hw : fastWrap .i64 ((n : Int) + 1) = ((n + 1 : Nat) : Int) := by rw [wrap64 (by omega) (by omega)]; rfl
  have w2 : OwnS (H.set b2 (boxOf (.agg [ri 1, ri p, rv [], kv]))) kv 4 es o := OwnS.mono w fun id e => get_set_ne (fun e2 => (ho id e).1 e2.symm)
  refine ⟨.agg [ri 1, ri p, rv [], kv], H.set b2 (boxOf (.agg [ri 1, ri p, rv [], kv])), ?_, agg_snap (k := 1) w2 lv⟩
  simp only [S26_0, l1, opt_s, fb_add, hw, s1, optH_s, l2]

theorem cut_from {l : List AV} {f : Bool} {n : Nat} (h2 : n ≤ l.length) (h : Heap) : ∃ f', cutX 3 (.isl 3 f l) (some (ri n)) none none h = some (.isl 3 f' (l.drop n)) := by
  have e : (l.drop n).take (l.length - n) = l.drop n := List.take_of_length_le (by rw [List.length_drop]; omega)
  refine ⟨f && l.length == l.length, ?_⟩
  simp [cutX, bound, intLit, h2, e]

theorem one_loop {call : CallF} {d : Nat} (C : OneCall call d) {L b : List Tok} {f : Bool} {y : Tok} (hy : y.kind = 2) (hL : L.length ≤ 8192) {b2 b4 p : Nat} :
    ∀ (k : Nat) (ks : List T) (ts : List Tok) (done : List T) (n : Nat) (H : Heap) (kv : AV), ParL ts ks → L.drop n = ts ++ y :: b → ts.length ≤ d → n ≤ L.length → OLoop H b2 b4 p kv done → done.length ≤ n → L.length - n < k →
      ∃ r H', S26_1l call k (.isl 3 f (L.map tokAV)) (.ptr b2 0 0) (.ptr b4 0 0) (ri n) H = some (.tup [r, ri ((n + ts.length + 1 : Nat) : Int)], H') ∧ ∃ v ids, snap1 H' r = some (v, ids) ∧ TreeV v (.mk 1 p [] (done ++ ks)) := by
  intro k
  induction k with
  | zero => intro ks ts done n H kv _ _ _ _ _ _ hk; omega
  | succ k ih =>
    intro ks ts done n H kv hp hd hts hn m hdn hk
    show ∃ r H', S26_2b call (S26_1l call k) _ _ _ _ H = _ ∧ _
    have hlen : L.length - n = ts.length + (b.length + 1) := by
      have := congrArg List.length hd
      rw [List.length_drop, List.length_append, List.length_cons] at this
      exact this
    have at_ : ∀ (x : Tok) (r : List Tok), L.drop n = x :: r → indexAddrS 3 (.isl 3 f (L.map tokAV)) (ri n) H = some (.iptr (tokAV x) 0) := by
      intro x r e
      have hx : L[n]? = some x := by
        have := congrArg (fun l => l[0]?) e
        rwa [List.getElem?_drop, Nat.add_zero] at this
      rw [ixa_isl (Int.natCast_nonneg _), Int.toNat_natCast, List.getElem?_map, hx]
      rfl
    have q0 : ∀ x : Tok, fieldAddrX 0 (.iptr (tokAV x) 0) = some (.iptr (tokAV x) 0) := fun _ => rfl
    have q1 : ∀ x : Tok, loadX none (.iptr (tokAV x) 0) H = some (ri x.kind) := fun _ => rfl
    cases hp with
    | nil =>
      have h1 := at_ y b hd
      obtain ⟨r, H', e1, e2⟩ := one_exit (call := call) m (n := n) (by omega)
      refine ⟨r, H', ?_, by rw [List.append_nil]; exact e2⟩
      simp only [S26_2b, h1, q0, q1, opt_s, fb_neq, test_b, decide_eq_true_eq]
      rw [if_neg (by rw [hy]; simp)]
      exact e1
    | @cons a b' t ks' hpa hpl =>
      obtain ⟨x, ra, hax, hx2⟩ := hpa.pos
      have h1 := at_ x (ra ++ b' ++ y :: b) (by rw [hd, hax]; simp)
      have ha0 : 0 < a.length := by rw [hax]; exact Nat.succ_pos _
      rw [List.length_append] at hts hlen
      have hal : a.length ≤ d := by omega
      have k1 : b'.length ≤ d := by omega
      have k2 : n + a.length ≤ L.length := by omega
      have k3 : (done ++ [t]).length ≤ n + a.length := by rw [List.length_append, List.length_singleton]; omega
      have k4 : L.length - (n + a.length) < k := by omega
      have k5 : n + a.length + b'.length + 1 = n + (a ++ b').length + 1 := by rw [List.length_append]; omega
      have kn : n ≤ 8192 := by omega
      have ka : a.length ≤ 8192 := by omega
      have kd : done.length ≤ 8192 := by omega
      obtain ⟨f', hc⟩ := cut_from (l := L.map tokAV) (f := f) (n := n) (by rw [List.length_map]; exact hn) H
      rw [← List.map_drop, hd, List.append_assoc] at hc
      have hsz : (a ++ (b' ++ y :: b)).length ≤ 8192 := by
        rw [← List.append_assoc, ← hd, List.length_drop]; omega
      obtain ⟨u, c1, c2⟩ := C a (b' ++ y :: b) t f' H hpa hal hsz
      obtain ⟨es, o, w, lv, ho⟩ := m.own
      have b4lt : b4 < H.length := (List.getElem?_eq_some_iff.1 m.g4).1
      have b2lt : b2 < H.length := (List.getElem?_eq_some_iff.1 m.g2).1
      have g6 : (H ++ [AObj.arr ⟨4, false, false, [u]⟩])[H.length]? = some (.arr ⟨4, false, false, [u]⟩) := get_last _ _
      have g4 : (H ++ [AObj.arr ⟨4, false, false, [u]⟩])[b4]? = some (boxOf (.agg [ri 1, ri p, rv [], kv])) := by rw [List.getElem?_append_left b4lt]; exact m.g4
      have g2 : (H ++ [AObj.arr ⟨4, false, false, [u]⟩])[b2]? = some (boxOf zeroT4) := by rw [List.getElem?_append_left b2lt]; exact m.g2
      have w1 : OwnS (H ++ [AObj.arr ⟨4, false, false, [u]⟩]) kv 4 es o := OwnS.mono w fun id e => by
        subst e
        exact List.getElem?_append_left (OwnS.lt w)
      have hol : ∀ id, o = some id → id < H.length := fun id e => by subst e; exact OwnS.lt w
      have bx := tree_box c2 H
      have hl1 : (H ++ [AObj.arr ⟨4, false, false, [u]⟩]).length = H.length + 1 := by simp
      simp only [S26_2b, h1, q0, q1, opt_s, fb_neq, test_b, decide_eq_true_eq]
      rw [if_pos (by
        have : ¬ ((x.kind : Int) = 2) := by omega
        exact this)]
      rw [hc, opt_s]
      rw [c1]
      simp only [opt2_s, extract_tup, List.getElem?_cons_zero, List.getElem?_cons_succ, opt_s]
      rw [bx]
      generalize H ++ [AObj.arr ⟨4, false, false, [u]⟩] = H1 at *
      have l1 : loadX none (.ptr b4 0 3) H1 = some kv := load_at g4
      have l2 : loadX (some 4) (.ptr H.length 0 0) H1 = some u := tree_load c2 g6
      obtain ⟨f1, f2, f3, f4⟩ := c2.cells
      have bs := bslice_one (sz := 4) (z := .agg [(.lit (.int .i64 0)), (.lit (.int .i64 0)), (.lit (.string ⟨⟨[]⟩⟩)), (.lit (.slice none 0 0))]) (t := u) (h := H1) f2 f3 (by rw [f4]; exact c2.snap _)
      rw [f4] at bs
      have hel := lv.length
      have ap := w1.append (ys := [u]) (bytes := 56) (f := true) (by simp) (by rw [hel]; simp only [List.length_singleton]; omega)
      have b4' : (kill H1 o ++ [AObj.arr ⟨4, true, false, es ++ [u]⟩])[b4]? = some (boxOf (.agg [ri 1, ri p, rv [], kv])) := get_kill g4 (fun e => (ho _ e).2 rfl) _
      have b2' : (kill H1 o ++ [AObj.arr ⟨4, true, false, es ++ [u]⟩])[b2]? = some (boxOf zeroT4) := get_kill g2 (fun e => (ho _ e).1 rfl) _
      have sc := store_cell (u := .sl H1.length 0 (es.length + [u].length) false) b4' rfl rfl
      have hkl : (kill H1 o).length = H1.length := kill_length _ _
      have hw : fastWrap .i64 ((n : Int) + (a.length : Nat)) = ((n + a.length : Nat) : Int) := by rw [wrap64 (by omega) (by omega)]; rfl
      simp only [fa_ptr, Nat.zero_add, opt_s, l1, l2, bs, opt2_s, ap]
      rw [sc]
      simp only [optH_s, fb_add, hw, opt_s]
      have key : OLoop ((kill H1 o ++ [AObj.arr ⟨4, true, false, es ++ [u]⟩]).set b4 (boxOf (.agg [ri 1, ri p, rv [], .sl H1.length 0 (es.length + [u].length) false]))) b2 b4 p (.sl H1.length 0 (es.length + [u].length) false) (done ++ [t]) := by
        refine ⟨m.ne, ?_, get_set_self b4', es ++ [u], some H1.length, ⟨by simp, ?_⟩, lv.append (.cons c2 .nil), fun id e => ?_⟩
        · rw [get_set_ne (fun e => m.ne e.symm)]; exact b2'
        · rw [get_set_ne (by omega), List.getElem?_append_right (by omega), hkl]
          simp
        · cases e; exact ⟨by omega, by omega⟩
      have hd2 : L.drop (n + a.length) = b' ++ y :: b := by
        rw [← List.drop_drop, hd, List.append_assoc, List.drop_left]
      have := ih ks' b' (done ++ [t]) (n + a.length) _ _ hpl hd2 k1 k2 key k3 k4
      rw [List.append_assoc, List.singleton_append, k5] at this
      exact this

theorem F26_ok {call : CallF} {d : Nat} (C : OneCall call d) {a b : List Tok} {t : T} {f : Bool} (hp : Par a t) (ha : a.length ≤ d + 1) (hl : (a ++ b).length ≤ 8192) (h : Heap) :
    ∃ r H, F26 call (.isl 3 f ((a ++ b).map tokAV)) h = some (.tup [r, ri (a.length : Nat)], H) ∧ ∃ v ids, snap1 H r = some (v, ids) ∧ TreeV v t := by
  obtain ⟨x, ra, rfl, hx2⟩ := hp.pos
  have bx : ∀ h : Heap, box (.agg [.lit (.int .i64 0), .lit (.int .i64 0), .lit (.string ⟨⟨[]⟩⟩), .lit (.slice none 0 0)]) h = some (.ptr h.length 0 0, h ++ [boxOf zeroT4]) := fun h => box_agg h (by simp) rfl
  have ix : ∀ H : Heap, indexAddrS 3 (.isl 3 f (((x :: ra) ++ b).map tokAV)) (.lit (.int .i64 0)) H = some (.iptr (tokAV x) 0) := fun H => by
    rw [ixa_isl (by decide)]; rfl
  have q0 : ∀ o, fieldAddrX o (.iptr (tokAV x) 0) = some (.iptr (tokAV x) o) := fun o => by rw [fa_iptr, Nat.zero_add]
  have q1 : ∀ H : Heap, loadX none (.iptr (tokAV x) 0) H = some (ri x.kind) ∧ loadX none (.iptr (tokAV x) 1) H = some (ri x.place) ∧ loadX none (.iptr (tokAV x) 2) H = some (rv x.text) := fun H => ⟨rfl, rfl, rfl⟩
  have bl : buildX [(.lit (.int .i64 0)), (.lit (.int .i64 0)), (.lit (.string ⟨⟨[]⟩⟩)), (.lit (.slice none 0 0))] [(0, 1), (1, 1), (2, 1), (3, 1)] [(0, ri x.kind), (1, ri x.place), (2, rv x.text)] = some (.agg [ri x.kind, ri x.place, rv x.text, .lit (.slice none 0 0)]) := rfl
  have g2 : (h ++ [boxOf zeroT4])[h.length]? = some (boxOf zeroT4) := get_last _ _
  have l2 : h.length < (h ++ [boxOf zeroT4]).length := by simp
  simp only [F26, bx, opt2_s, S26_6, ix, q0, q1, opt_s, eqH_s, bl]
  generalize hH0 : h ++ [boxOf zeroT4] = H0 at *
  generalize h.length = b2 at *
  have g4 : (H0 ++ [boxOf zeroT4])[H0.length]? = some (boxOf zeroT4) := get_last _ _
  have g2' : (H0 ++ [boxOf zeroT4])[b2]? = some (boxOf zeroT4) := by rw [List.getElem?_append_left l2]; exact g2
  have st := store_tree (b := H0.length) (c0 := ri x.kind) (c1 := ri x.place) (c2 := rv x.text) (c3 := .lit (.slice none 0 0)) g4 rfl rfl
  simp only [q1, opt_s, eqK_s, eqH_s, ix, st, optH_s]
  have k4 : ((H0 ++ [boxOf zeroT4]).set H0.length (boxOf (.agg [ri x.kind, ri x.place, rv x.text, .lit (.slice none 0 0)])))[H0.length]? = some (boxOf (.agg [ri x.kind, ri x.place, rv x.text, .lit (.slice none 0 0)])) := get_set_self g4
  have k2 : ((H0 ++ [boxOf zeroT4]).set H0.length (boxOf (.agg [ri x.kind, ri x.place, rv x.text, .lit (.slice none 0 0)])))[b2]? = some (boxOf zeroT4) := by rw [get_set_ne (by omega)]; exact g2'
  generalize (H0 ++ [boxOf zeroT4]).set H0.length (boxOf (.agg [ri x.kind, ri x.place, rv x.text, .lit (.slice none 0 0)])) = H at *
  have n24 : b2 ≠ H0.length := by omega
  generalize H0.length = b4 at *
  have lk : loadX none (.ptr b4 0 0) H = some (ri x.kind) := load_at k4
  simp only [S26_5, fa_ptr, Nat.zero_add, opt_s, lk, fb_neq, test_b, decide_eq_true_eq]
  cases hp with
  | leaf h1 h2 =>
    rw [if_pos (by
      have : ¬ ((x.kind : Int) = 1) := by omega
      exact this)]
    have la : loadX (some 4) (.ptr b4 0 0) H = some (.agg [ri x.kind, ri x.place, rv x.text, .lit (.slice none 0 0)]) := loadA_at k4 rfl
    have s1 := store_tree (b := b2) (c0 := ri x.kind) (c1 := ri x.place) (c2 := rv x.text) (c3 := .lit (.slice none 0 0)) k2 rfl rfl
    have g1 : (H.set b2 (boxOf (.agg [ri x.kind, ri x.place, rv x.text, .lit (.slice none 0 0)])))[b2]? = some (boxOf (.agg [ri x.kind, ri x.place, rv x.text, .lit (.slice none 0 0)])) := get_set_self k2
    have lb := loadA_at (m := 4) g1 rfl
    refine ⟨.agg [ri x.kind, ri x.place, rv x.text, .lit (.slice none 0 0)], H.set b2 (boxOf (.agg [ri x.kind, ri x.place, rv x.text, .lit (.slice none 0 0)])), ?_, .agg [ri x.kind, ri x.place, rv x.text, .lit (.slice none 0 0)], [], rfl, .mk .nil⟩
    simp only [la, opt_s, s1, optH_s, lb]
    rfl
  | @node _ y ts ks h1 h2 h3 h4 =>
    rw [if_neg (by
      have : (x.kind : Int) = 1 := by omega
      simp [this])]
    rw [h1, h2] at k4
    have hlen : ((x :: (ts ++ [y])) ++ b).length = ts.length + 2 + b.length := by simp; omega
    have m1 : ts.length ≤ d := by
      rw [List.length_cons, List.length_append, List.length_singleton] at ha; omega
    have m2 : 1 ≤ ((x :: (ts ++ [y])) ++ b).length := by rw [hlen]; omega
    have m3 : ((x :: (ts ++ [y])) ++ b).length - 1 < rounds := Nat.lt_of_le_of_lt (Nat.sub_le _ _) (Nat.lt_of_le_of_lt hl (by decide))
    have := one_loop (call := call) C (L := (x :: (ts ++ [y])) ++ b) (b := b) (f := f) h3 hl (b2 := b2) (b4 := b4) (p := x.place) rounds ks ts [] 1 H (.lit (.slice none 0 0)) h4 (by simp) m1 m2
      ⟨n24, k2, k4, [], none, ⟨rfl, rfl⟩, .nil, fun id e => by cases e⟩ (Nat.zero_le _) m3
    obtain ⟨r, H', e1, e2⟩ := this
    refine ⟨r, H', ?_, by simpa using e2⟩
    simp only [S26_4, S26_3]
    rw [show (.lit (.int .i64 1) : AV) = ri ((1 : Nat) : Int) from rfl]
    rw [e1]
    have : ((1 + ts.length + 1 : Nat) : Int) = (((x :: (ts ++ [y])).length : Nat) : Int) := by simp; omega
    rw [this]

end Go.Proofs.Ytcajleckiegffaa
