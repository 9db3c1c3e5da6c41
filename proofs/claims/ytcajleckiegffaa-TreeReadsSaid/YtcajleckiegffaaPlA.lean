import Derived.Test.YtcajleckiegffaaTrA
set_option linter.unusedSectionVars false
namespace Go.Proofs.Ytcajleckiegffaa
set_option linter.unusedSimpArgs false
set_option linter.unusedVariables false
open Go.Am
set_option maxRecDepth 100000

/-! ### lex.Quote -/

def hexC1 (n : Nat) : UInt8 := if n < 10 then UInt8.ofNat (48 + n) else UInt8.ofNat (87 + n)

def quoteC (c : UInt8) : List UInt8 :=
  if c.toNat = 34 ∨ c.toNat = 92 then [92, c] else if c.toNat = 10 then [92, 110] else if c.toNat < 32 ∨ 126 < c.toNat then [92, 120, hexC1 (c.toNat / 16), hexC1 (c.toNat % 16)] else [c]

def quoteF (b : List UInt8) : List UInt8 := 34 :: (b.flatMap quoteC ++ [34])

/-- A slice that nobody else appends to. -/
def OwnI (h : Heap) (v : AV) (sz : Nat) (es : List AV) : Prop := v = .isl sz true es ∨ ∃ o, OwnS h v sz es o

theorem OwnI.append {h : Heap} {v : AV} {sz bytes : Nat} {es ys : List AV} {f : Bool} (w : OwnI h v sz es) (hy : ys ≠ []) (hr : (2 * (es.length + ys.length) + 1024) * (bytes + 1) ≤ 140737488355328) :
    ∃ v' h', appendX sz bytes v (.isl sz f ys) h = some (v', h') ∧ OwnI h' v' sz (es ++ ys) := by
  rcases w with rfl | ⟨o, w⟩
  · have hr' : roomy bytes (es.length + ys.length) = true := decide_eq_true hr
    refine ⟨.sl h.length 0 (es.length + ys.length) false, new h sz (es ++ ys), ?_, .inr ⟨some h.length, by simp, ?_⟩⟩
    · unfold appendX
      rw [elems_isl]
      have he : ys.isEmpty = false := by cases ys <;> simp_all
      simp only [he, Bool.false_eq_true, if_false]
      rw [if_pos ⟨trivial, hr'⟩]
    · simp [new]
  · exact ⟨_, _, w.append hy hr, .inr ⟨some h.length, by simpa using OwnS.appended (h := h) (o := o) (sz := sz) (es := es ++ ys)⟩⟩

theorem OwnI.b2s {h : Heap} {v : AV} {l : List UInt8} (w : OwnI h v 1 (l.map byteAV)) : b2sX v h = some (.lit (.string ⟨⟨l⟩⟩)) := by
  rcases w with rfl | ⟨o, w⟩
  · simp only [b2sX, elemsOf, if_true]
    show Option.map _ (bytesOf (l.map byteAV)) = _
    rw [bytes_map]; rfl
  · exact own_b2s w

theorem shrand_all : ((List.range 256).all fun n => match binX Try.prog .none .shr 5 (.lit (.int .u8 n)) (.lit (.int .u64 4)), binX Try.prog .none .and 5 (.lit (.int .u8 n)) (.lit (.int .u8 15)) with
    | some (.lit (.int .u8 a)), some (.lit (.int .u8 b)) => a == (n / 16 : Nat) && b == (n % 16 : Nat)
    | _, _ => false) = true := by kernel_rfl

theorem shrand (c : UInt8) : binX Try.prog .none .shr 5 (.lit (.int .u8 c.toNat)) (.lit (.int .u64 4)) = some (.lit (.int .u8 ((c.toNat / 16 : Nat) : Int))) ∧
    binX Try.prog .none .and 5 (.lit (.int .u8 c.toNat)) (.lit (.int .u8 15)) = some (.lit (.int .u8 ((c.toNat % 16 : Nat) : Int))) := by
  have := List.all_eq_true.1 shrand_all c.toNat (List.mem_range.2 c.toNat_lt)
  split at this
  · rename_i a b h1 h2
    rw [Bool.and_eq_true] at this
    rw [h1, h2, eq_of_beq this.1, eq_of_beq this.2]
    exact ⟨rfl, rfl⟩
  · cases this

theorem hex_ix (n : Nat) (hn : n < 16) : fastIndex (.lit (.string ⟨⟨[48, 49, 50, 51, 52, 53, 54, 55, 56, 57, 97, 98, 99, 100, 101, 102]⟩⟩)) (.lit (.int .u8 (n : Int))) = some (byteAV (hexC1 n)) := by
  rw [str_ix]
  have : ∀ m : Fin 16, (([48, 49, 50, 51, 52, 53, 54, 55, 56, 57, 97, 98, 99, 100, 101, 102] : List UInt8)[m.val]?).map (fun b => AV.lit (.int .u8 b.toNat)) = some (byteAV (hexC1 m.val)) := by
    intro m
    have h := m.isLt
    rcases m with ⟨m, hm⟩
    simp only
    rcases (by omega : m = 0 ∨ m = 1 ∨ m = 2 ∨ m = 3 ∨ m = 4 ∨ m = 5 ∨ m = 6 ∨ m = 7 ∨ m = 8 ∨ m = 9 ∨ m = 10 ∨ m = 11 ∨ m = 12 ∨ m = 13 ∨ m = 14 ∨ m = 15) with e | e | e | e | e | e | e | e | e | e | e | e | e | e | e | e <;> subst e <;> rfl
  exact this ⟨n, hn⟩

theorem bytes1 (h : Heap) (a : UInt8) (n : Int) (hn : n = a.toNat) : bsliceX 1 (.lit (.int .u8 0)) 1 [(0, .lit (.int .u8 n))] h = some (.isl 1 true ([a].map byteAV), h) := by
  subst hn; exact bslice_one rfl rfl rfl
theorem bytes2 (h : Heap) (a b : UInt8) (m n : Int) (hm : m = a.toNat) (hn : n = b.toNat) : bsliceX 1 (.lit (.int .u8 0)) 2 [(0, .lit (.int .u8 m)), (1, .lit (.int .u8 n))] h = some (.isl 1 true ([a, b].map byteAV), h) := by
  subst hm; subst hn; rfl
theorem bytes4 (h : Heap) (a b c d : UInt8) (m n : Int) (hm : m = a.toNat) (hn : n = b.toNat) : bsliceX 1 (.lit (.int .u8 0)) 4 [(0, .lit (.int .u8 m)), (1, .lit (.int .u8 n)), (2, byteAV c), (3, byteAV d)] h = some (.isl 1 true ([a, b, c, d].map byteAV), h) := by
  subst hm; subst hn; rfl

theorem quoteC_len (c : UInt8) : (quoteC c).length ≤ 4 := by
  unfold quoteC
  split
  · simp
  split
  · simp
  split <;> simp

theorem quote_loop {call : CallF} {b : List UInt8} (hb : b.length ≤ 100000000000) :
    ∀ (k i : Nat) (v : AV) (h : Heap), OwnI h v 1 ((34 :: (b.take i).flatMap quoteC).map byteAV) → i ≤ b.length → b.length - i < k → (34 :: (b.take i).flatMap quoteC).length ≤ 1 + 4 * i →
      ∃ h', S23_1l call k (.lit (.string ⟨⟨b⟩⟩)) v (.lit (.int .i64 b.length)) (.lit (.int .i64 i)) h = some (.lit (.string ⟨⟨quoteF b⟩⟩), h') := by
  intro k
  induction k with
  | zero => intro i v h _ _ hk; omega
  | succ k ih =>
    intro i v h w hi hk hlen
    show ∃ h', S23_11b call (S23_1l call k) _ _ _ _ h = _
    simp only [S23_11b, fb_lss, opt_s, S23_10, test_b, decide_eq_true_eq]
    by_cases hlt : i < b.length
    · rw [if_pos (by omega)]
      obtain ⟨c, hc⟩ : ∃ c, b[i]? = some c := ⟨b[i], List.getElem?_eq_getElem hlt⟩
      have hw : fastWrap .i64 ((i : Int) + 1) = ((i + 1 : Nat) : Int) := by rw [wrap64 (by omega) (by omega)]; rfl
      have hq := quoteC_len c
      have ht : (34 :: (b.take (i + 1)).flatMap quoteC) = (34 :: (b.take i).flatMap quoteC) ++ quoteC c := by
        have hg : b[i] = c := (List.getElem?_eq_some_iff.1 hc).2
        rw [List.take_succ_eq_append_getElem hlt, hg]
        simp [List.flatMap_append]
      have next : ∀ (ys : List UInt8), quoteC c = ys → ys ≠ [] → ∃ v' h', appendX 1 1 v (.isl 1 true (ys.map byteAV)) h = some (v', h') ∧ ∃ h2, S23_1l call k (.lit (.string ⟨⟨b⟩⟩)) v' (.lit (.int .i64 b.length)) (.lit (.int .i64 (i + 1 : Nat))) h' = some (.lit (.string ⟨⟨quoteF b⟩⟩), h2) := by
        intro ys he hne
        rw [he] at hq ht
        obtain ⟨v', h', q1, q2⟩ := w.append (bytes := 1) (f := true) (ys := ys.map byteAV) (by simpa using hne) (by simp at hlen ⊢; omega)
        refine ⟨v', h', q1, ih (i + 1) v' h' (by rw [ht, List.map_append]; exact q2) (by omega) (by omega) (by rw [ht, List.length_append]; omega)⟩
      simp only [S23_9, S23_8, str_ix, hc, Option.map_some, opt_s, S23_7, fb_eql, test_b, decide_eq_true_eq, ceq]
      have esc : (c.toNat = 34 ∨ c.toNat = 92) → ∃ h', S23_6 call (S23_1l call k) (.lit (.string ⟨⟨b⟩⟩)) v (.lit (.int .u8 c.toNat)) (.lit (.int .i64 b.length)) (.lit (.int .i64 i)) (.lit (.bool true)) h = some (.lit (.string ⟨⟨quoteF b⟩⟩), h') := by
        intro h1
        obtain ⟨v', h', q1, q2⟩ := next [92, c] (by simp only [quoteC, if_pos h1]) (by simp)
        simp only [S23_6, test_b, if_true]
        rw [bytes2 h 92 c _ _ (by rfl) (by rfl), opt2_s, q1, opt2_s, fb_add, opt_s, hw]
        exact q2
      by_cases h34 : c.toNat = 34
      · rw [if_pos h34]; exact esc (.inl h34)
      rw [if_neg h34]
      by_cases h92 : c.toNat = 92
      · rw [show decide (c.toNat = 92) = true from decide_eq_true h92]; exact esc (.inr h92)
      rw [show decide (c.toNat = 92) = false from decide_eq_false h92]
      have hn : ¬ (c.toNat = 34 ∨ c.toNat = 92) := by omega
      simp only [S23_6, test_b, Bool.false_eq_true, if_false, S23_5, fb_eql, opt_s, S23_4, ceq, decide_eq_true_eq]
      by_cases h10 : c.toNat = 10
      · obtain ⟨v', h', q1, q2⟩ := next [92, 110] (by simp only [quoteC, if_neg hn, if_pos h10]) (by simp)
        rw [if_pos h10, bytes2 h 92 110 _ _ (by rfl) (by rfl), opt2_s, q1, opt2_s, fb_add, opt_s, hw]
        exact q2
      rw [if_neg h10]
      have hex : (c.toNat < 32 ∨ 126 < c.toNat) → ∃ h', S23_2 call (S23_1l call k) (.lit (.string ⟨⟨b⟩⟩)) v (.lit (.int .u8 c.toNat)) (.lit (.int .i64 b.length)) (.lit (.int .i64 i)) (.lit (.bool true)) h = some (.lit (.string ⟨⟨quoteF b⟩⟩), h') := by
        intro h1
        have hc := c.toNat_lt
        obtain ⟨v', h', q1, q2⟩ := next [92, 120, hexC1 (c.toNat / 16), hexC1 (c.toNat % 16)] (by simp only [quoteC, if_neg hn, if_neg h10, if_pos h1]) (by simp)
        simp only [S23_2, test_b, if_true]
        rw [(shrand c).1, opt_s, hex_ix _ (by omega), opt_s, (shrand c).2, opt_s, hex_ix _ (by omega), opt_s, bytes4 h 92 120 _ _ _ _ (by rfl) (by rfl), opt2_s, eqH_s, q1, opt2_s, fb_add, opt_s, hw]
        exact q2
      simp only [S23_3, fb_lss, opt_s, test_b, decide_eq_true_eq, clt1, fb_gtr, clt2]
      by_cases h32 : c.toNat < 32
      · rw [if_pos h32]; exact hex (.inl h32)
      rw [if_neg h32]
      by_cases h126 : 126 < c.toNat
      · rw [show decide (126 < c.toNat) = true from decide_eq_true h126]; exact hex (.inr h126)
      rw [show decide (126 < c.toNat) = false from decide_eq_false h126]
      obtain ⟨v', h', q1, q2⟩ := next [c] (by simp only [quoteC, if_neg hn, if_neg h10]; rw [if_neg (by omega)]) (by simp)
      simp only [S23_2, test_b, Bool.false_eq_true, if_false]
      rw [bytes1 h c _ (by rfl), opt2_s, q1, opt2_s, fb_add, opt_s, hw]
      exact q2
    · rw [if_neg (by omega)]
      have : b.take i = b := List.take_of_length_le (by omega)
      rw [this] at w hlen
      obtain ⟨v', h', q1, q2⟩ := w.append (bytes := 1) (f := true) (ys := [34].map byteAV) (by simp) (by simp at hlen ⊢; omega)
      simp only [S23_0]
      rw [bytes1 h 34 _ (by rfl), opt2_s, q1, opt2_s, OwnI.b2s (l := quoteF b) (by unfold quoteF; rw [← List.cons_append, List.map_append]; exact q2), opt_s]
      exact ⟨_, rfl⟩

theorem F23_ok (call : CallF) {b : List UInt8} (hb : b.length ≤ 100000000000) (h : Heap) : ∃ h', F23 call (.lit (.string ⟨⟨b⟩⟩)) h = some (.lit (.string ⟨⟨quoteF b⟩⟩), h') := by
  simp only [F23, S23_14]
  rw [bytes1 h 34 _ (by rfl), opt2_s]
  simp only [S23_13, lenStr_s, opt_s, S23_12]
  have := quote_loop (call := call) hb rounds 0 (.isl 1 true ([34].map byteAV)) h (.inl (by simp)) (by omega) (by simp only [rounds]; omega) (by simp)
  exact this

end Go.Proofs.Ytcajleckiegffaa

namespace Go.Proofs.Ytcajleckiegffaa
set_option linter.unusedSimpArgs false
set_option linter.unusedVariables false
open Go.Am
set_option maxRecDepth 100000

/-! ### tree.Print -/

mutual
def printT : T → List UInt8
  | .mk k _ t ks => if k = 3 then t else if k = 4 then quoteF t else if k = 1 then 40 :: (Lib.join (printL ks) [32] ++ [41]) else []
def printL : List T → List (List UInt8)
  | [] => []
  | t :: ts => printT t :: printL ts
end

mutual
def depthT : T → Nat
  | .mk _ _ _ ks => depthL ks + 1
def depthL : List T → Nat
  | [] => 0
  | t :: ts => max (depthT t) (depthL ts)
end

theorem printL_map (ts : List T) : printL ts = ts.map printT := by
  induction ts with
  | nil => rfl
  | cons t ts ih => simp [printL, ih]

theorem depthL_mem {ts : List T} {t : T} (h : t ∈ ts) : depthT t ≤ depthL ts := by
  induction ts with
  | nil => cases h
  | cons a ts ih =>
    simp only [depthL]
    rcases List.mem_cons.1 h with rfl | h
    · omega
    · have := ih h; omega

theorem join_len (sep x : List UInt8) (xs : List (List UInt8)) : (x :: xs).flatten.length + sep.length * xs.length = (Lib.join (x :: xs) sep).length := by
  rw [Lib.join_cons]
  simp only [Lib.joinTail, List.flatten_cons, List.length_append]
  have : (List.map (fun y => sep ++ y) xs).flatten.length = xs.flatten.length + sep.length * xs.length := by
    induction xs with
    | nil => simp
    | cons y ys ih => simp only [List.map_cons, List.flatten_cons, List.length_append, ih, List.length_cons, Nat.mul_add]; omega
  omega

theorem join_mem {sep : List UInt8} {xs : List (List UInt8)} {x : List UInt8} (h : x ∈ xs) : x.length ≤ (Lib.join xs sep).length := by
  cases xs with
  | nil => cases h
  | cons y ys =>
    have := join_len sep y ys
    have h2 : x.length ≤ (y :: ys).flatten.length := (List.sublist_flatten_of_mem h).length_le
    omega

theorem join_count {b : UInt8} {xs : List (List UInt8)} : xs.length ≤ (Lib.join xs [b]).length + 1 := by
  cases xs with
  | nil => simp
  | cons y ys =>
    have := join_len [b] y ys
    simp at this ⊢
    omega

theorem quoteF_len (b : List UInt8) : b.length ≤ (quoteF b).length := by
  have : ∀ b : List UInt8, b.length ≤ (b.flatMap quoteC).length := by
    intro b
    induction b with
    | nil => simp
    | cons c b ih =>
      have h1 : 0 < (quoteC c).length := by
        unfold quoteC
        split
        · simp
        split
        · simp
        split <;> simp
      simp only [List.flatMap_cons, List.length_append, List.length_cons]
      omega
  have := this b
  unfold quoteF
  rw [List.length_cons, List.length_append]; omega

structure QuoteCall (call : CallF) : Prop where
  quote : ∀ (b : List UInt8) (h : Heap), b.length ≤ 100000000000 → call 23 [.lit (.string ⟨⟨b⟩⟩)] h = some (.lit (.string ⟨⟨quoteF b⟩⟩), h)

structure JoinCall (call : CallF) : Prop where
  join : ∀ (xs : List (List UInt8)) (h : Heap) (v : AV) (o : Option Nat), OwnS h v 1 (xs.map fun b => .lit (.string ⟨⟨b⟩⟩)) o → xs.length ≤ 100000000001 → (Lib.join xs [32]).length ≤ 100000000000 → call 24 [v, .lit (.string ⟨⟨[32]⟩⟩)] h = some (.lit (.string ⟨⟨Lib.join xs [32]⟩⟩), h)

def PrintOk (call : CallF) (d : Nat) : Prop := ∀ (v : AV) (t : T) (h : Heap), TreeV v t → depthT t ≤ d → (printT t).length ≤ 100000000000 → call 13 [v] h = some (.lit (.string ⟨⟨printT t⟩⟩), h)

def strAV (b : List UInt8) : AV := .lit (.string ⟨⟨b⟩⟩)

theorem print_loop {call : CallF} {d : Nat} (J : JoinCall call) (Q : PrintOk call d) {kv : AV} {ks : List T} (hv : KidsV kv ks) (hd : depthL ks ≤ d) (hl : (Lib.join (printL ks) [32]).length ≤ 99999999998) :
    ∀ (k i : Nat) (v : AV) (h : Heap) (o : Option Nat), OwnS h v 1 ((printL (ks.take i)).map strAV) o → i ≤ ks.length → ks.length - i < k →
      ∃ h', S13_2l call k v kv (.lit (.int .i64 ks.length)) (.lit (.int .i64 i)) h = some (.lit (.string ⟨⟨40 :: (Lib.join (printL ks) [32] ++ [41])⟩⟩), h') := by
  have hc := join_count (b := 32) (xs := printL ks)
  have hlen : (printL ks).length = ks.length := by rw [printL_map, List.length_map]
  intro k
  induction k with
  | zero => intro i v h o _ _ hk; omega
  | succ k ih =>
    intro i v h o w hi hk
    show ∃ h', S13_3b call (S13_2l call k) _ _ _ _ h = _
    simp only [S13_3b, fb_lss, opt_s, test_b, decide_eq_true_eq]
    by_cases hlt : i < ks.length
    · rw [if_pos (by omega)]
      have a2 : ks.length - (i + 1) < k := by omega
      have ht : ks[i]? = some ks[i] := List.getElem?_eq_getElem hlt
      generalize ks[i] = t at ht
      obtain ⟨u, q1, q2⟩ := hv.ix ht h
      rw [q1, opt_s]
      have hm := List.mem_of_getElem? ht
      have hdt := depthL_mem hm
      have hpt : (printT t).length ≤ 100000000000 := by
        have := join_mem (sep := [32]) (xs := printL ks) (x := printT t) (by rw [printL_map]; exact List.mem_map_of_mem hm)
        omega
      have hld : loadX (some 4) (.iptr u 0) h = some u := by
        cases q2 with
        | mk hk => exact load_iptrA h rfl
      rw [hld, opt_s, tree_box q2]
      have hld2 : loadX (some 4) (.ptr h.length 0 0) (h ++ [.arr ⟨4, false, false, [u]⟩]) = some u := by
        cases q2 with
        | mk hk => exact load_boxA h 4 4 false false rfl
      have w1 : OwnS (h ++ [.arr ⟨4, false, false, [u]⟩]) v 1 ((printL (ks.take i)).map strAV) o := w.keep (p := none) (fun id _ e => by cases e) _
      generalize h ++ [AObj.arr ⟨4, false, false, [u]⟩] = H at hld2 w1
      rw [hld2, opt_s, Q u t H q2 (by omega) hpt, opt2_s, bslice_one (sz := 1) (t := .lit (.string ⟨⟨printT t⟩⟩)) (by rfl) (by rfl) (by rfl), opt2_s]
      have hlen2 : ((printL (ks.take i)).map strAV).length = i := by rw [List.length_map, printL_map, List.length_map, List.length_take]; omega
      have ha := w1.append (ys := [strAV (printT t)]) (bytes := 16) (f := true) (by simp) (by rw [hlen2]; simp only [List.length_singleton]; omega)
      have e : reElem (cellsOf (.lit (.string ⟨⟨printT t⟩⟩))) = strAV (printT t) := rfl
      rw [e, ha, opt2_s, fb_add, opt_s]
      have hw : fastWrap .i64 ((i : Int) + 1) = ((i + 1 : Nat) : Int) := by rw [wrap64 (by omega) (by omega)]; rfl
      rw [hw]
      have hts : (printL (ks.take i)).map strAV ++ [strAV (printT t)] = (printL (ks.take (i + 1))).map strAV := by
        have hg : ks[i] = t := (List.getElem?_eq_some_iff.1 ht).2
        rw [List.take_succ_eq_append_getElem hlt, hg]
        simp [printL_map]
      rw [hts]
      have hl3 : ((printL (ks.take i)).map strAV).length + [strAV (printT t)].length = ((printL (ks.take (i + 1))).map strAV).length := by rw [← hts]; simp
      rw [hl3]
      exact ih (i + 1) _ _ (some H.length) OwnS.appended hlt a2
    · rw [if_neg (by omega)]
      have : ks.take i = ks := List.take_of_length_le (by omega)
      rw [this] at w
      simp only [S13_1]
      rw [J.join (printL ks) h v o w (by omega) (by omega), opt2_s, fb_adds (by simp; omega), opt_s, fb_adds (by simp; omega), opt_s]
      exact ⟨_, rfl⟩

theorem F13_ok {call : CallF} {d : Nat} (J : JoinCall call) (U : QuoteCall call) (Q : PrintOk call d) {v : AV} {t : T} (tv : TreeV v t) (hd : depthT t ≤ d + 1) (hl : (printT t).length ≤ 100000000000) (h : Heap) :
    ∃ h', F13 call v h = some (.lit (.string ⟨⟨printT t⟩⟩), h') := by
  obtain ⟨c1, c2, c3, c4⟩ := tv.cells
  cases tv with
  | @mk k p t kv ks hk =>
    simp only [depthT] at hd
    simp only [F13]
    rw [box_agg (cs := [.lit (.int .i64 k), .lit (.int .i64 p), .lit (.string ⟨⟨t⟩⟩), kv]) h (by simp) c3, opt2_s]
    have lb : ∀ off, loadX none (.ptr h.length 0 off) (h ++ [.arr ⟨4, false, false, [.agg [.lit (.int .i64 k), .lit (.int .i64 p), .lit (.string ⟨⟨t⟩⟩), kv]]⟩]) = [.lit (.int .i64 k), .lit (.int .i64 p), .lit (.string ⟨⟨t⟩⟩), kv][off]? := fun off => load_box h 4 off false false _
    simp only [List.length_cons, List.length_nil, Nat.zero_add, Nat.reduceAdd]
    generalize h ++ [AObj.arr ⟨4, false, false, [AV.agg [.lit (.int .i64 k), .lit (.int .i64 p), .lit (.string ⟨⟨t⟩⟩), kv]]⟩] = H at lb
    simp only [S13_13, fa_ptr, opt_s, lb, List.getElem?_cons_zero, List.getElem?_cons_succ, Nat.zero_add, S13_12, fb_eql, S13_11, test_b, decide_eq_true_eq, ceq]
    simp only [printT] at hl ⊢
    by_cases h3 : k = 3
    · rw [if_pos h3, if_pos h3]; exact ⟨_, rfl⟩
    rw [if_neg h3] at hl
    rw [if_neg h3, if_neg h3]
    simp only [S13_10, fb_eql, opt_s, S13_9, test_b, decide_eq_true_eq, ceq, fa_ptr, lb, List.getElem?_cons_zero, List.getElem?_cons_succ, Nat.zero_add]
    by_cases h4 : k = 4
    · rw [if_pos h4] at hl
      rw [if_pos h4, if_pos h4]
      have := quoteF_len t
      rw [U.quote t H (by omega), opt2_s]
      exact ⟨_, rfl⟩
    rw [if_neg h4] at hl
    rw [if_neg h4, if_neg h4]
    simp only [S13_8, fb_eql, opt_s, S13_7, test_b, decide_eq_true_eq, ceq]
    by_cases h1 : k = 1
    · rw [if_pos h1] at hl
      rw [if_pos h1, if_pos h1]
      simp only [S13_6, S13_5, fa_ptr, opt_s, lb, List.getElem?_cons_zero, List.getElem?_cons_succ, Nat.zero_add, hk.len, S13_4]
      have hc := join_count (b := 32) (xs := printL ks)
      have hlen : (printL ks).length = ks.length := by rw [printL_map, List.length_map]
      simp at hl
      have := print_loop J Q hk (by omega) (by omega) rounds 0 (.lit (.slice none 0 0)) H none ⟨rfl, rfl⟩ (by omega) (by simp only [rounds]; omega)
      exact this
    · rw [if_neg h1, if_neg h1]
      simp only [S13_0]
      exact ⟨_, rfl⟩

end Go.Proofs.Ytcajleckiegffaa

namespace Go.Proofs.Ytcajleckiegffaa
set_option linter.unusedSimpArgs false
set_option linter.unusedVariables false
open Go.Am
set_option maxRecDepth 100000

/-! ### A printed tree's tokens -/

def atomC (c : UInt8) : Prop := special c = false ∧ 33 ≤ c.toNat ∧ c.toNat ≤ 126

mutual
def goodT : T → Prop
  | .mk k _ t ks => (k = 3 ∧ t ≠ [] ∧ (∀ c ∈ t, atomC c) ∧ ks = []) ∨ (k = 4 ∧ t.length ≤ 200 ∧ ks = []) ∨ (k = 1 ∧ t = [] ∧ goodL ks)
def goodL : List T → Prop
  | [] => True
  | t :: ts => goodT t ∧ goodL ts
end

def bareTok (x : Tok) : Tok := ⟨x.kind, 0, x.text⟩

mutual
def toksT : T → List Tok
  | .mk k _ t ks => if k = 1 then ⟨1, 0, []⟩ :: (toksL ks ++ [⟨2, 0, []⟩]) else [⟨k, 0, t⟩]
def toksL : List T → List Tok
  | [] => []
  | t :: ts => toksT t ++ toksL ts
end

/-- From one place between tokens to another one. -/
def LexTo (s : List UInt8) (i : Nat) (acc : List Tok) (j : Nat) (acc' : List Tok) : Prop :=
  ∃ c, c ≤ 3 * (j - i) ∧ i ≤ j ∧ ∀ (k fr : Nat) (text : List UInt8) (R : LexR), (∀ fr' text', lexM s k 0 j fr' text' acc' = some R) → lexM s (k + c) 0 i fr text acc = some R

theorem LexTo.refl (s : List UInt8) (i : Nat) (acc : List Tok) : LexTo s i acc i acc := ⟨0, by omega, Nat.le_refl _, fun k fr text R h => h fr text⟩

theorem LexTo.trans {s : List UInt8} {i j l : Nat} {a b c : List Tok} (h1 : LexTo s i a j b) (h2 : LexTo s j b l c) : LexTo s i a l c := by
  obtain ⟨c1, p1, q1, f1⟩ := h1
  obtain ⟨c2, p2, q2, f2⟩ := h2
  refine ⟨c2 + c1, by omega, by omega, fun k fr text R h => ?_⟩
  rw [← Nat.add_assoc]
  exact f1 _ _ _ _ fun fr' text' => f2 _ _ _ _ h

theorem drop_get {s l : List UInt8} {i : Nat} {c : UInt8} (h : s.drop i = c :: l) : s[i]? = some c ∧ s.drop (i + 1) = l := by
  constructor
  · rw [← List.head?_drop, h]; rfl
  · rw [← List.tail_drop, h]; rfl

theorem lex_space {s l : List UInt8} {i : Nat} {acc : List Tok} (h : s.drop i = 32 :: l) : LexTo s i acc (i + 1) acc :=
  ⟨1, by omega, by omega, fun k fr text R hR => by
    simp only [lexM, (drop_get h).1]
    exact hR _ _⟩

theorem lex_open {s l : List UInt8} {i : Nat} {acc : List Tok} (h : s.drop i = 40 :: l) : LexTo s i acc (i + 1) (acc ++ [⟨1, i, []⟩]) :=
  ⟨1, by omega, by omega, fun k fr text R hR => by
    simp only [lexM, (drop_get h).1]
    exact hR _ _⟩

theorem lex_close {s l : List UInt8} {i : Nat} {acc : List Tok} (h : s.drop i = 41 :: l) : LexTo s i acc (i + 1) (acc ++ [⟨2, i, []⟩]) :=
  ⟨1, by omega, by omega, fun k fr text R hR => by
    simp only [lexM, (drop_get h).1]
    exact hR _ _⟩

/-- What may stand behind an atom. -/
def stops : List UInt8 → Prop
  | [] => True
  | c :: _ => special c = true

theorem get_stop {s l : List UInt8} {i : Nat} (h : s.drop i = l) : s[i]? = l.head? := by rw [← List.head?_drop, h]

theorem atom_run {s t l : List UInt8} (ha : ∀ c ∈ t, atomC c) (hs : stops l) : ∀ (n : Nat) (i fr : Nat) (text : List UInt8) (acc : List Tok) (k : Nat) (R : LexR), n ≤ t.length → s.drop i = t.drop n ++ l →
    (∀ fr' text', lexM s k 0 (i + (t.length - n)) fr' text' (acc ++ [⟨3, fr, (s.drop fr).take (i + (t.length - n) - fr)⟩]) = some R) → lexM s (k + (t.length - n + 1)) 3 i fr text acc = some R := by
  intro n
  obtain ⟨d, hd⟩ : ∃ d, d = t.length - n := ⟨_, rfl⟩
  induction d generalizing n with
  | zero =>
    intro i fr text acc k R hn hdr hk
    have e : t.length - n = 0 := by omega
    rw [e] at hk ⊢
    have : t.drop n = [] := List.drop_eq_nil_of_le (by omega)
    rw [this, List.nil_append] at hdr
    have hg := get_stop hdr
    simp only [lexM, hg]
    cases l with
    | nil => simp only [List.head?_nil]; exact hk _ _
    | cons c l =>
      simp only [List.head?_cons]
      have hs' : special c = true := hs
      rw [if_pos hs']; exact hk _ _
  | succ d ih =>
    intro i fr text acc k R hn hdr hk
    have hlt : n < t.length := by omega
    have hc : t.drop n = t[n] :: t.drop (n + 1) := List.drop_eq_getElem_cons hlt
    obtain ⟨a1, a2, a3⟩ := ha t[n] (List.getElem_mem hlt)
    rw [hc, List.cons_append] at hdr
    obtain ⟨g1, g2⟩ := drop_get hdr
    have e : t.length - n + 1 = (t.length - (n + 1) + 1) + 1 := by omega
    rw [e, ← Nat.add_assoc]
    simp only [lexM, g1]
    rw [a1, if_neg (by simp), if_neg (by omega)]
    refine ih (n + 1) (by omega) (i + 1) fr text acc k R hlt g2 fun fr' text' => ?_
    have e2 : i + 1 + (t.length - (n + 1)) = i + (t.length - n) := by omega
    rw [e2]
    exact hk fr' text'

theorem lex_atom {s t l : List UInt8} {i : Nat} {acc : List Tok} (hne : t ≠ []) (ha : ∀ c ∈ t, atomC c) (hs : stops l) (h : s.drop i = t ++ l) : LexTo s i acc (i + t.length) (acc ++ [⟨3, i, t⟩]) := by
  have hlen : 0 < t.length := List.length_pos_iff.2 hne
  refine ⟨t.length + 1 + 1, by omega, by omega, fun k fr text R hR => ?_⟩
  obtain ⟨c, t', rfl⟩ : ∃ c t', t = c :: t' := by cases t with | nil => exact absurd rfl hne | cons c t' => exact ⟨c, t', rfl⟩
  obtain ⟨a1, a2, a3⟩ := ha c (by simp)
  obtain ⟨g1, g2⟩ := drop_get (l := t' ++ l) (by rw [h]; rfl)
  have sp := a1
  simp only [special, Bool.or_eq_false_iff, decide_eq_false_iff_not] at sp
  obtain ⟨⟨⟨⟨s1, s2⟩, s3⟩, s4⟩, s5⟩ := sp
  rw [← Nat.add_assoc]
  simp only [lexM, g1]
  rw [s1, if_neg (by simp), if_neg s2, if_neg s3, if_neg s4, if_neg s5]
  have := atom_run (s := s) (t := c :: t') (l := l) ha hs 0 i i text acc k R (Nat.zero_le _) (by rw [h]; rfl) (fun fr' text' => by
    have e : (s.drop i).take (i + ((c :: t').length - 0) - i) = c :: t' := by rw [h, Nat.sub_zero, Nat.add_sub_cancel_left, List.take_left]
    rw [e]; exact hR fr' text')
  exact this

def quoteOk (c : UInt8) : Bool := match quoteC c with
  | [] => false
  | a :: q => bif Nat.beq a.toNat 92 then Nat.beq (escF q).1.toNat c.toNat && (decide (0 ≤ (escF q).1) && (decide ((escF q).2 = q.length) && !Nat.beq q.length 0)) else
    (bif Nat.beq a.toNat c.toNat then (bif Nat.beq q.length 0 then !Nat.beq a.toNat 34 && (!Nat.blt a.toNat 32 && !Nat.blt 126 a.toNat) else false) else false)

theorem quote_all : ((List.range 256).all fun n => quoteOk (UInt8.ofNat n)) = true := by kernel_rfl

theorem quote_ok (c : UInt8) : (quoteC c = [c] ∧ c.toNat ≠ 92 ∧ c.toNat ≠ 34 ∧ 32 ≤ c.toNat ∧ c.toNat ≤ 126) ∨ ∃ q, quoteC c = 92 :: q ∧ (escF q).1.toNat = c.toNat ∧ (escF q).2 = q.length ∧ q.length ≠ 0 := by
  have h := List.all_eq_true.1 quote_all c.toNat (List.mem_range.2 c.toNat_lt)
  rw [UInt8.ofNat_toNat] at h
  unfold quoteOk at h
  split at h
  · cases h
  · rename_i a q hq
    cases ha : Nat.beq a.toNat 92 with
    | true =>
      have e := Nat.eq_of_beq_eq_true ha
      have e2 : a = 92 := UInt8.toNat_inj.1 e
      rw [ha] at h
      simp only [cond_true, Bool.and_eq_true, decide_eq_true_eq, Bool.not_eq_true'] at h
      obtain ⟨h1, h2, h3, h4⟩ := h
      refine .inr ⟨q, by rw [hq, e2], Nat.eq_of_beq_eq_true h1, h3, fun e => by rw [e] at h4; cases h4⟩
    | false =>
      rw [ha] at h
      simp only [cond_false] at h
      cases hb : Nat.beq a.toNat c.toNat with
      | false => rw [hb] at h; cases h
      | true =>
        have e2 : a = c := UInt8.toNat_inj.1 (Nat.eq_of_beq_eq_true hb)
        subst e2
        rw [hb] at h
        simp only [cond_true] at h
        cases hc : Nat.beq q.length 0 with
        | false => rw [hc] at h; cases h
        | true =>
          rw [hc] at h
          have hq0 : q = [] := List.length_eq_zero_iff.1 (Nat.eq_of_beq_eq_true hc)
          subst hq0
          simp only [cond_true, Bool.and_eq_true, Bool.not_eq_true'] at h
          obtain ⟨h1, h2, h3⟩ := h
          refine .inl ⟨hq, fun e => ?_, fun e => ?_, ?_, ?_⟩
          · rw [e] at ha; cases ha
          · rw [e] at h1; cases h1
          · rcases Nat.lt_or_ge a.toNat 32 with hl | hl
            · rw [show Nat.blt a.toNat 32 = true by rw [Nat.blt_eq]; exact hl] at h2; cases h2
            · exact hl
          · rcases Nat.lt_or_ge 126 a.toNat with hl | hl
            · rw [show Nat.blt 126 a.toNat = true by rw [Nat.blt_eq]; exact hl] at h3; cases h3
            · exact hl

theorem quote_run {s l : List UInt8} : ∀ (b pre : List UInt8) (i fr : Nat) (acc : List Tok), s.drop i = b.flatMap quoteC ++ 34 :: l → pre.length + b.length ≤ 200 →
    ∃ c, c ≤ (b.flatMap quoteC).length + 1 ∧ ∀ (k : Nat) (R : LexR), (∀ fr' text', lexM s k 0 (i + (b.flatMap quoteC).length + 1) fr' text' (acc ++ [⟨4, fr, pre ++ b⟩]) = some R) → lexM s (k + c) 2 i fr pre acc = some R := by
  intro b
  induction b with
  | nil =>
    intro pre i fr acc hd hp
    refine ⟨1, by simp, fun k R hR => ?_⟩
    obtain ⟨g1, g2⟩ := drop_get (l := l) (by rw [hd]; rfl)
    simp only [lexM, g1]
    rw [if_pos (by decide), if_neg (by simp at hp; omega)]
    have := hR fr pre
    simpa using this
  | cons x b ih =>
    intro pre i fr acc hd hp
    simp only [List.length_cons] at hp
    rw [List.flatMap_cons, List.append_assoc] at hd
    rcases quote_ok x with ⟨h1, h2, h3, h4, h5⟩ | ⟨q, h1, h2, h3, h4⟩
    · rw [h1] at hd
      obtain ⟨g1, g2⟩ := drop_get hd
      obtain ⟨c, hc, f⟩ := ih (pre ++ [x]) (i + 1) fr acc g2 (by simp; omega)
      refine ⟨c + 1, by rw [List.flatMap_cons, h1, List.length_append, List.length_singleton]; omega, fun k R hR => ?_⟩
      rw [← Nat.add_assoc]
      simp only [lexM, g1]
      rw [if_neg h3, if_neg h2, if_neg (by omega)]
      refine f k R fun fr' text' => ?_
      have := hR fr' text'
      rw [List.flatMap_cons, h1, List.length_append, List.length_singleton] at this
      rw [List.append_assoc]
      have e : i + 1 + (b.flatMap quoteC).length + 1 = i + (1 + (b.flatMap quoteC).length) + 1 := by omega
      rw [e]; exact this
    · rw [h1, List.cons_append] at hd
      obtain ⟨g1, g2⟩ := drop_get hd
      have hq : escF (q ++ (b.flatMap quoteC ++ 34 :: l)) = escF q := escF_append _ _ (by omega)
      have g3 : s.drop (i + (1 + q.length)) = b.flatMap quoteC ++ 34 :: l := by
        rw [← Nat.add_assoc, ← List.drop_drop, g2, List.drop_left]
      obtain ⟨c, hc, f⟩ := ih (pre ++ [x]) (i + (1 + q.length)) fr acc g3 (by simp; omega)
      refine ⟨c + 1, by rw [List.flatMap_cons, h1, List.length_append, List.length_cons]; omega, fun k R hR => ?_⟩
      rw [← Nat.add_assoc]
      simp only [lexM, g1]
      rw [if_neg (by decide), if_pos (by decide), g2, hq, if_neg (by omega)]
      have e1 : escB (q ++ (b.flatMap quoteC ++ 34 :: l)) = x := by
        unfold escB
        rw [hq, h2, UInt8.ofNat_toNat]
      rw [e1]
      have e2 : (escF q).2.toNat = q.length := by omega
      rw [e2]
      refine f k R fun fr' text' => ?_
      have := hR fr' text'
      rw [List.flatMap_cons, h1, List.length_append, List.length_cons] at this
      rw [List.append_assoc]
      have e : i + (1 + q.length) + (b.flatMap quoteC).length + 1 = i + (q.length + 1 + (b.flatMap quoteC).length) + 1 := by omega
      rw [e]; exact this

theorem lex_quote {s b l : List UInt8} {i : Nat} {acc : List Tok} (hb : b.length ≤ 200) (h : s.drop i = quoteF b ++ l) : LexTo s i acc (i + (quoteF b).length) (acc ++ [⟨4, i, b⟩]) := by
  have h' : s.drop i = 34 :: (b.flatMap quoteC ++ 34 :: l) := by rw [h]; simp [quoteF]
  obtain ⟨g1, g2⟩ := drop_get h'
  obtain ⟨c, hc, f⟩ := quote_run b [] (i + 1) i acc g2 (by simpa using hb)
  have hl : (quoteF b).length = (b.flatMap quoteC).length + 2 := by
    unfold quoteF
    rw [List.length_cons, List.length_append, List.length_singleton]
  refine ⟨c + 1, by omega, by omega, fun k fr text R hR => ?_⟩
  rw [← Nat.add_assoc]
  simp only [lexM, g1]
  refine f k R fun fr' text' => ?_
  have e : i + 1 + (b.flatMap quoteC).length + 1 = i + (quoteF b).length := by omega
  rw [e]; exact hR fr' text'

mutual
theorem lex_tree (s : List UInt8) : ∀ (t : T) (l : List UInt8) (i : Nat) (acc : List Tok), goodT t → stops l → s.drop i = printT t ++ l → ∃ tk, tk.map bareTok = toksT t ∧ LexTo s i acc (i + (printT t).length) (acc ++ tk)
  | .mk k p tx ks, l, i, acc, hg, hs, hd => by
    simp only [goodT] at hg
    rcases hg with ⟨rfl, h1, h2, rfl⟩ | ⟨rfl, h1, rfl⟩ | ⟨rfl, rfl, h1⟩
    · exact ⟨[⟨3, i, tx⟩], rfl, lex_atom h1 h2 hs hd⟩
    · exact ⟨[⟨4, i, tx⟩], rfl, lex_quote h1 hd⟩
    · have e : printT (.mk 1 p [] ks) = 40 :: (Lib.join (printL ks) [32] ++ [41]) := by simp [printT]
      rw [e] at hd ⊢
      obtain ⟨g1, g2⟩ := drop_get (c := 40) (l := Lib.join (printL ks) [32] ++ 41 :: l) (by rw [hd]; simp)
      have b1 := lex_open (acc := acc) (l := Lib.join (printL ks) [32] ++ 41 :: l) (by rw [hd]; simp)
      obtain ⟨tk, b2, b3⟩ := lex_kids s ks (41 :: l) (i + 1) (acc ++ [⟨1, i, []⟩]) h1 rfl g2
      have b4 := lex_close (s := s) (l := l) (i := i + 1 + (Lib.join (printL ks) [32]).length) (acc := acc ++ [⟨1, i, []⟩] ++ tk) (by rw [← List.drop_drop, g2, List.drop_left])
      refine ⟨⟨1, i, []⟩ :: (tk ++ [⟨2, i + 1 + (Lib.join (printL ks) [32]).length, []⟩]), ?_, ?_⟩
      · simp [toksT, bareTok, ← b2]
      · have := (b1.trans b3).trans b4
        have e2 : i + (40 :: (Lib.join (printL ks) [32] ++ [41])).length = i + 1 + (Lib.join (printL ks) [32]).length + 1 := by
          rw [List.length_cons, List.length_append, List.length_singleton]; omega
        rw [e2]
        simpa using this
theorem lex_kids (s : List UInt8) : ∀ (ks : List T) (l : List UInt8) (i : Nat) (acc : List Tok), goodL ks → stops l → s.drop i = Lib.join (printL ks) [32] ++ l → ∃ tk, tk.map bareTok = toksL ks ∧ LexTo s i acc (i + (Lib.join (printL ks) [32]).length) (acc ++ tk)
  | [], l, i, acc, _, _, hd => ⟨[], rfl, by
      have e : (Lib.join (printL []) [32]).length = 0 := rfl
      rw [e, Nat.add_zero, List.append_nil]; exact .refl _ _ _⟩
  | t :: ts, l, i, acc, hg, hs, hd => by
    have e : Lib.join (printL (t :: ts)) [32] = printT t ++ Lib.joinTail [32] (printL ts) := by simp only [printL]; rw [Lib.join_cons]
    simp only [goodL] at hg
    rw [e, List.append_assoc] at hd
    have st : stops (Lib.joinTail [32] (printL ts) ++ l) := by
      cases ts with
      | nil => exact hs
      | cons _ _ => rfl
    obtain ⟨tk, a1, a2⟩ := lex_tree s t _ i acc hg.1 st hd
    obtain ⟨tk2, b1, b2⟩ := lex_tail s ts l (i + (printT t).length) (acc ++ tk) hg.2 hs (by rw [← List.drop_drop, hd, List.drop_left])
    refine ⟨tk ++ tk2, by simp only [List.map_append, a1, b1, toksL], ?_⟩
    have := a2.trans b2
    rw [e, List.length_append, ← Nat.add_assoc, ← List.append_assoc]
    exact this
theorem lex_tail (s : List UInt8) : ∀ (ks : List T) (l : List UInt8) (i : Nat) (acc : List Tok), goodL ks → stops l → s.drop i = Lib.joinTail [32] (printL ks) ++ l → ∃ tk, tk.map bareTok = toksL ks ∧ LexTo s i acc (i + (Lib.joinTail [32] (printL ks)).length) (acc ++ tk)
  | [], l, i, acc, _, _, hd => ⟨[], rfl, by
      have e : (Lib.joinTail [32] (printL [])).length = 0 := rfl
      rw [e, Nat.add_zero, List.append_nil]; exact .refl _ _ _⟩
  | t :: ts, l, i, acc, hg, hs, hd => by
    have e : Lib.joinTail [32] (printL (t :: ts)) = 32 :: (printT t ++ Lib.joinTail [32] (printL ts)) := by simp [Lib.joinTail, printL]
    simp only [goodL] at hg
    rw [e, List.cons_append, List.append_assoc] at hd
    have st : stops (Lib.joinTail [32] (printL ts) ++ l) := by
      cases ts with
      | nil => exact hs
      | cons _ _ => rfl
    obtain ⟨g1, g2⟩ := drop_get hd
    have a0 := lex_space (acc := acc) hd
    obtain ⟨tk, a1, a2⟩ := lex_tree s t _ (i + 1) acc hg.1 st g2
    obtain ⟨tk2, b1, b2⟩ := lex_tail s ts l (i + 1 + (printT t).length) (acc ++ tk) hg.2 hs (by rw [← List.drop_drop, g2, List.drop_left])
    refine ⟨tk ++ tk2, by simp only [List.map_append, a1, b1, toksL], ?_⟩
    have := (a0.trans a2).trans b2
    rw [e, List.length_cons, List.length_append, ← List.append_assoc]
    have e2 : i + ((printT t).length + (Lib.joinTail [32] (printL ts)).length + 1) = i + 1 + (printT t).length + (Lib.joinTail [32] (printL ts)).length := by omega
    rw [e2]; exact this
end

/-- A whole text. -/
theorem split_of_lex {s : List UInt8} (hs : s.length ≤ 8192) {acc : List Tok} (h : LexTo s 0 [] s.length acc) : splitF s = ⟨acc, 0, 0⟩ := by
  obtain ⟨c, h1, h2, f⟩ := h
  refine splitF_of hs (k := 1 + c) (by simp only [rounds]; omega) (f 1 0 [] _ fun fr' text' => ?_)
  have : s[s.length]? = none := List.getElem?_eq_none (Nat.le_refl _)
  simp only [lexM, this]

end Go.Proofs.Ytcajleckiegffaa

namespace Go.Proofs.Ytcajleckiegffaa
set_option linter.unusedSimpArgs false
set_option linter.unusedVariables false
open Go.Am
set_option maxRecDepth 100000

/-! ### Trees without their places -/

mutual
def bareT : T → T
  | .mk k _ t ks => .mk k 0 t (bareL ks)
def bareL : List T → List T
  | [] => []
  | t :: ts => bareT t :: bareL ts
end

theorem bareL_map (ts : List T) : bareL ts = ts.map bareT := by
  induction ts with
  | nil => rfl
  | cons t ts ih => simp [bareL, ih]

mutual
theorem printT_bare : ∀ t : T, printT (bareT t) = printT t
  | .mk k p t ks => by simp only [bareT, printT, printL_bare ks]
theorem printL_bare : ∀ ts : List T, printL (bareL ts) = printL ts
  | [] => rfl
  | t :: ts => by simp only [bareL, printL, printT_bare t, printL_bare ts]
end

mutual
theorem bareTT : ∀ t : T, bareT (bareT t) = bareT t
  | .mk k p t ks => by simp only [bareT, bareLL ks]
theorem bareLL : ∀ ts : List T, bareL (bareL ts) = bareL ts
  | [] => rfl
  | t :: ts => by simp only [bareL, bareTT t, bareLL ts]
end

def bareSt (st : List (Nat × List T)) : List (Nat × List T) := st.map fun x => (0, bareL x.2)

theorem bareSt_len (st : List (Nat × List T)) : (bareSt st).length = st.length := List.length_map _

theorem bareSt_last (st : List (Nat × List T)) : (bareSt st).getLast? = st.getLast?.map fun x => (0, bareL x.2) := List.getLast?_map ..

theorem bareSt_drop (st : List (Nat × List T)) : (bareSt st).dropLast = bareSt st.dropLast := by simp [bareSt, List.map_dropLast]

theorem bareL_append (a b : List T) : bareL (a ++ b) = bareL a ++ bareL b := by simp [bareL_map]

theorem bareSt_add (st : List (Nat × List T)) (t : T) : bareSt (addKid st t) = addKid (bareSt st) (bareT t) := by
  unfold addKid
  rw [bareSt_last, bareSt_drop]
  cases st.getLast? with
  | none => rfl
  | some x =>
    simp only [Option.map_some, bareSt, List.map_append, List.map_cons, List.map_nil, bareL_append]
    rfl

theorem parseM_bare (n : Nat) : ∀ (l : List Tok) (st : List (Nat × List T)) (wh : List T),
    (parseM n l st wh).err = (parseM n (l.map bareTok) (bareSt st) (bareL wh)).err ∧ bareT (parseM n l st wh).tree = bareT (parseM n (l.map bareTok) (bareSt st) (bareL wh)).tree := by
  have nt : bareT noTree = noTree := rfl
  have wl : ∀ wh : List T, (bareL wh).length = wh.length := fun wh => by rw [bareL_map, List.length_map]
  intro l
  induction l with
  | nil =>
    intro st wh
    simp only [parseM, List.map_nil, bareSt_len]
    by_cases h : 0 < st.length
    · rw [if_pos h, if_pos h]; exact ⟨rfl, rfl⟩
    · rw [if_neg h, if_neg h]
      refine ⟨rfl, ?_⟩
      cases wh with
      | nil => rfl
      | cons w wh =>
                simp only [List.headD_cons, bareL, bareTT]
  | cons x r ih =>
    intro st wh
    simp only [parseM, List.map_cons, bareSt_len, bareSt_last, bareSt_drop, wl]
    have k : (bareTok x).kind = x.kind := rfl
    have tx : (bareTok x).text = x.text := rfl
    have pl : (bareTok x).place = 0 := rfl
    rw [k, tx, pl]
    by_cases h1 : x.kind = 1 ∧ 40 ≤ st.length
    · rw [if_pos h1, if_pos h1]; exact ⟨rfl, rfl⟩
    rw [if_neg h1, if_neg h1]
    by_cases h2 : x.kind = 2 ∧ st.length = 0
    · rw [if_pos h2, if_pos h2]; exact ⟨rfl, rfl⟩
    rw [if_neg h2, if_neg h2]
    by_cases h3 : 0 < wh.length
    · rw [if_pos h3, if_pos h3]; exact ⟨rfl, rfl⟩
    rw [if_neg h3, if_neg h3]
    by_cases h4 : x.kind = 1
    · rw [if_pos h4, if_pos h4]
      have := ih (st ++ [(x.place, [])]) wh
      simp only [bareSt, List.map_append, List.map_cons, List.map_nil, bareL] at this
      exact this
    rw [if_neg h4, if_neg h4]
    by_cases h5 : x.kind = 2
    · rw [if_pos h5, if_pos h5]
      cases st.getLast? with
      | none => exact ⟨rfl, rfl⟩
      | some y =>
        obtain ⟨p, ks⟩ := y
        simp only [Option.map_some]
        by_cases h6 : st.dropLast.length = 0
        · rw [if_pos h6, if_pos h6]
          have := ih st.dropLast (wh ++ [.mk 1 p [] ks])
          rw [bareL_append] at this
          exact this
        · rw [if_neg h6, if_neg h6]
          have := ih (addKid st.dropLast (.mk 1 p [] ks)) wh
          rw [bareSt_add] at this
          exact this
    rw [if_neg h5, if_neg h5]
    by_cases h6 : st.length = 0
    · rw [if_pos h6, if_pos h6]
      have := ih st (wh ++ [.mk x.kind x.place x.text []])
      rw [bareL_append] at this
      exact this
    · rw [if_neg h6, if_neg h6]
      have := ih (addKid st (.mk x.kind x.place x.text [])) wh
      rw [bareSt_add] at this
      exact this

/-! ### What a tree's tokens do -/

mutual
def nestT : T → Nat
  | .mk k _ _ ks => if k = 1 then nestL ks + 1 else 0
def nestL : List T → Nat
  | [] => 0
  | t :: ts => max (nestT t) (nestL ts)
end

/-- A tree that is done: to the top of the stack, or the whole. -/
def putSt (st : List (Nat × List T)) (t : T) : List (Nat × List T) := if st.length = 0 then st else addKid st t
def putWh (st : List (Nat × List T)) (t : T) : List T := if st.length = 0 then [t] else []

theorem addKid_snoc (st : List (Nat × List T)) (p : Nat) (ks : List T) (t : T) : addKid (st ++ [(p, ks)]) t = st ++ [(p, ks ++ [t])] := by simp [addKid]

mutual
theorem parse_tree (n : Nat) : ∀ (t : T) (r : List Tok) (st : List (Nat × List T)), goodT t → st.length + nestT t ≤ 40 → parseM n (toksT t ++ r) st [] = parseM n r (putSt st (bareT t)) (putWh st (bareT t))
  | .mk k p tx ks, r, st, hg, hn => by
    simp only [goodT] at hg
    rcases hg with ⟨rfl, h1, h2, rfl⟩ | ⟨rfl, h1, rfl⟩ | ⟨rfl, rfl, h1⟩
    · simp only [toksT, if_neg (by decide : ¬ (3 : Nat) = 1), List.cons_append, List.nil_append, parseM, putSt, putWh, bareT, bareL]
      rw [if_neg (by simp), if_neg (by simp), if_neg (by simp), if_neg (by simp)]
      by_cases h : st.length = 0
      · rw [if_pos h, if_pos h, if_pos h]
      · rw [if_neg h, if_neg h, if_neg h]
    · simp only [toksT, if_neg (by decide : ¬ (4 : Nat) = 1), List.cons_append, List.nil_append, parseM, putSt, putWh, bareT, bareL]
      rw [if_neg (by simp), if_neg (by simp), if_neg (by simp), if_neg (by simp)]
      by_cases h : st.length = 0
      · rw [if_pos h, if_pos h, if_pos h]
      · rw [if_neg h, if_neg h, if_neg h]
    · simp only [nestT, if_true] at hn
      simp only [toksT, if_true, List.cons_append, List.append_assoc]
      rw [parseM]
      simp only [List.length_nil, if_true]
      rw [if_neg (by omega), if_neg (by simp), if_neg (by omega), parse_kids n ks _ st 0 [] h1 (by omega)]
      simp only [List.nil_append]
      rw [parseM]
      simp only [List.length_append, List.length_singleton, List.length_nil, if_true]
      rw [if_neg (by simp), if_neg (by omega), if_neg (by omega), if_neg (by decide)]
      simp only [List.getLast?_append, List.getLast?_singleton, Option.some_or, List.dropLast_concat, putSt, putWh, bareT]
      by_cases h : st.length = 0
      · rw [if_pos h, if_pos h, if_pos h]; rfl
      · rw [if_neg h, if_neg h, if_neg h]
theorem parse_kids (n : Nat) : ∀ (ks : List T) (r : List Tok) (st : List (Nat × List T)) (p : Nat) (k0 : List T), goodL ks → st.length + 1 + nestL ks ≤ 40 → parseM n (toksL ks ++ r) (st ++ [(p, k0)]) [] = parseM n r (st ++ [(p, k0 ++ bareL ks)]) []
  | [], r, st, p, k0, _, _ => by simp only [toksL, List.nil_append, bareL, List.append_nil]
  | t :: ts, r, st, p, k0, hg, hn => by
    simp only [goodL] at hg
    simp only [nestL] at hn
    simp only [toksL, List.append_assoc]
    rw [parse_tree n t _ _ hg.1 (by simp; omega)]
    have e : ¬ (st ++ [(p, k0)]).length = 0 := by simp
    simp only [putSt, putWh, if_neg e, addKid_snoc]
    rw [parse_kids n ts r st p (k0 ++ [bareT t]) hg.2 (by omega)]
    simp only [bareL, List.append_assoc, List.cons_append, List.nil_append]
end

mutual
theorem deep_tree (n : Nat) : ∀ (t : T) (r : List Tok) (st : List (Nat × List T)), goodT t → st.length ≤ 40 → 40 < st.length + nestT t → (parseM n (toksT t ++ r) st []).err = 14
  | .mk k p tx ks, r, st, hg, hs, hn => by
    simp only [goodT] at hg
    rcases hg with ⟨rfl, h1, h2, rfl⟩ | ⟨rfl, h1, rfl⟩ | ⟨rfl, rfl, h1⟩
    · simp only [nestT] at hn; simp at hn; omega
    · simp only [nestT] at hn; simp at hn; omega
    · simp only [nestT, if_true] at hn
      simp only [toksT, if_true, List.cons_append, List.append_assoc]
      rw [parseM]
      simp only [List.length_nil, if_true]
      by_cases h : 40 ≤ st.length
      · rw [if_pos ⟨trivial, h⟩]
      · rw [if_neg (by omega), if_neg (by simp), if_neg (by omega)]
        exact deep_kids n ks _ st 0 [] h1 (by omega) (by omega)
theorem deep_kids (n : Nat) : ∀ (ks : List T) (r : List Tok) (st : List (Nat × List T)) (p : Nat) (k0 : List T), goodL ks → st.length + 1 ≤ 40 → 40 < st.length + 1 + nestL ks → (parseM n (toksL ks ++ r) (st ++ [(p, k0)]) []).err = 14
  | [], r, st, p, k0, _, hs, hn => by simp only [nestL] at hn; omega
  | t :: ts, r, st, p, k0, hg, hs, hn => by
    simp only [goodL] at hg
    simp only [nestL] at hn
    simp only [toksL, List.append_assoc]
    have e1 : (st ++ [(p, k0)]).length = st.length + 1 := by simp
    by_cases h : 40 < st.length + 1 + nestT t
    · exact deep_tree n t _ _ hg.1 (by rw [e1]; exact hs) (by rw [e1]; exact h)
    · rw [parse_tree n t _ _ hg.1 (by rw [e1]; omega)]
      have e : ¬ (st ++ [(p, k0)]).length = 0 := by simp
      simp only [putSt, putWh, if_neg e, addKid_snoc]
      exact deep_kids n ts r st p (k0 ++ [bareT t]) hg.2 hs (by omega)
end

end Go.Proofs.Ytcajleckiegffaa

namespace Go.Proofs.Ytcajleckiegffaa
set_option linter.unusedSimpArgs false
set_option linter.unusedVariables false
open Go.Am
set_option maxRecDepth 100000

/-! ### Printed trees are read as themselves -/

theorem parse_of_toks {s : List UInt8} {tk : List Tok} {t : T} (hs : splitF s = ⟨tk, 0, 0⟩) (hb : tk.map bareTok = toksT t) (g : goodT t) :
    (nestT t ≤ 40 → (parseF s).err = 0 ∧ bareT (parseF s).tree = bareT t) ∧ (40 < nestT t → (parseF s).err = 14) := by
  have hne : tk.length ≠ 0 := by
    intro e
    have h2 : tk = [] := List.length_eq_zero_iff.1 e
    subst h2
    cases t with
    | mk k p tx ks =>
      simp only [toksT] at hb
      split at hb <;> simp at hb
  have e : parseF s = parseM s.length tk [] [] := by
    unfold parseF
    rw [hs, if_neg (by simp), if_neg hne]
  rw [e]
  have hp := parseM_bare s.length tk [] []
  rw [hb] at hp
  have b1 : bareSt [] = [] := rfl
  have b2 : bareL [] = [] := rfl
  rw [b1, b2] at hp
  constructor
  · intro hn
    have h := parse_tree s.length t [] [] g (by simpa using hn)
    rw [List.append_nil] at h
    rw [h] at hp
    refine ⟨hp.1.trans ?_, hp.2.trans ?_⟩
    · simp [putSt, putWh, parseM]
    · simp [putSt, putWh, parseM, bareTT]
  · intro hn
    have h := deep_tree s.length t [] [] g (by simp) (by simpa using hn)
    rw [List.append_nil] at h
    rw [hp.1, h]

theorem split_print {t : T} (g : goodT t) (hl : (printT t).length ≤ 8192) : ∃ tk, splitF (printT t) = ⟨tk, 0, 0⟩ ∧ tk.map bareTok = toksT t := by
  obtain ⟨tk, h1, h2⟩ := lex_tree (printT t) t [] 0 [] g trivial (by simp)
  refine ⟨tk, split_of_lex hl ?_, h1⟩
  simpa using h2

theorem parse_print {t : T} (g : goodT t) (hl : (printT t).length ≤ 8192) (hn : nestT t ≤ 40) : (parseF (printT t)).err = 0 ∧ bareT (parseF (printT t)).tree = bareT t := by
  obtain ⟨tk, h1, h2⟩ := split_print g hl
  exact (parse_of_toks h1 h2 g).1 hn

/-- Trees within brackets, a blank ahead of each. -/
def rowS (ks : List T) : List UInt8 := 40 :: (Lib.joinTail [32] (printL ks) ++ [41])

theorem split_row {ks : List T} (g : goodL ks) (hl : (rowS ks).length ≤ 8192) : ∃ tk, splitF (rowS ks) = ⟨tk, 0, 0⟩ ∧ tk.map bareTok = toksT (.mk 1 0 [] ks) := by
  have hd : (rowS ks).drop 0 = 40 :: (Lib.joinTail [32] (printL ks) ++ [41]) := rfl
  obtain ⟨g1, g2⟩ := drop_get hd
  have a0 := lex_open (acc := []) hd
  obtain ⟨tk, a1, a2⟩ := lex_tail (rowS ks) ks [41] 1 ([] ++ [⟨1, 0, []⟩]) g rfl g2
  have a3 := lex_close (s := rowS ks) (l := []) (i := 1 + (Lib.joinTail [32] (printL ks)).length) (acc := [] ++ [⟨1, 0, []⟩] ++ tk) (by rw [← List.drop_drop, g2, List.drop_left])
  have hL : (rowS ks).length = 1 + (Lib.joinTail [32] (printL ks)).length + 1 := by simp [rowS]; omega
  refine ⟨[⟨1, 0, []⟩] ++ tk ++ [⟨2, 1 + (Lib.joinTail [32] (printL ks)).length, []⟩], split_of_lex hl ?_, ?_⟩
  · rw [hL]
    have := (a0.trans a2).trans a3
    simpa using this
  · simp [toksT, bareTok, ← a1]

theorem parse_row {ks : List T} (g : goodL ks) (hl : (rowS ks).length ≤ 8192) : (nestL ks < 40 → (parseF (rowS ks)).err = 0 ∧ bareT (parseF (rowS ks)).tree = .mk 1 0 [] (bareL ks)) ∧ (40 ≤ nestL ks → (parseF (rowS ks)).err = 14) := by
  obtain ⟨tk, h1, h2⟩ := split_row g hl
  have := parse_of_toks (t := .mk 1 0 [] ks) h1 h2 (by simp only [goodT]; exact .inr (.inr ⟨trivial, trivial, g⟩))
  simp only [nestT, if_true] at this
  refine ⟨fun h => ?_, fun h => this.2 (by omega)⟩
  have h := this.1 (by omega)
  exact ⟨h.1, by rw [h.2]; rfl⟩

/-! ### What is read is good -/

def goodTok (x : Tok) : Prop := ((x.kind = 1 ∨ x.kind = 2) ∧ x.text = []) ∨ (x.kind = 3 ∧ x.text ≠ [] ∧ ∀ c ∈ x.text, atomC c) ∨ (x.kind = 4 ∧ x.text.length ≤ 200)

def AtomInv (s : List UInt8) (i fr : Nat) : Prop := fr ≤ i ∧ i ≤ s.length ∧ (∀ (j : Nat) (c : UInt8), fr ≤ j → j < i → s[j]? = some c → atomC c) ∧ (fr < i ∨ ∃ c, s[i]? = some c ∧ special c = false)

theorem goodAtom {s : List UInt8} {i fr : Nat} (h : AtomInv s i fr) (hlt : fr < i) : goodTok ⟨3, fr, (s.drop fr).take (i - fr)⟩ := by
  obtain ⟨h1, h2, h3, h4⟩ := h
  refine .inr (.inl ⟨rfl, ?_, ?_⟩)
  · intro e
    have := congrArg List.length e
    simp at this
    omega
  · intro c hc
    obtain ⟨j, hj⟩ := List.mem_iff_getElem?.1 hc
    rw [List.getElem?_take] at hj
    split at hj
    · rw [List.getElem?_drop] at hj
      exact h3 (fr + j) c (by omega) (by omega) hj
    · cases hj

theorem good_snoc {acc : List Tok} {x : Tok} (h : ∀ y ∈ acc, goodTok y) (hx : goodTok x) : ∀ y ∈ acc ++ [x], goodTok y := by
  intro y hy
  rcases List.mem_append.1 hy with hy | hy
  · exact h y hy
  · rw [List.mem_singleton] at hy; subst hy; exact hx

theorem lexM_good (s : List UInt8) : ∀ (k lab i fr : Nat) (text : List UInt8) (acc : List Tok) (R : LexR), lexM s k lab i fr text acc = some R → (∀ x ∈ acc, goodTok x) → (lab = 3 → AtomInv s i fr) → ∀ x ∈ R.toks, goodTok x := by
  intro k
  induction k with
  | zero => intro lab i fr text acc R h; simp [lexM] at h
  | succ k ih =>
    intro lab i fr text acc R h ha hA
    have er : ∀ (n p : Nat), some (⟨[], n, p⟩ : LexR) = some R → ∀ x ∈ R.toks, goodTok x := fun n p e x hx => by
      rw [← Option.some.inj e] at hx; cases hx
    match lab with
    | 0 =>
      simp only [lexM] at h
      split at h
      · rw [← Option.some.inj h]; exact ha
      rename_i c hc
      have hlen : i < s.length := (List.getElem?_eq_some_iff.1 hc).1
      split at h
      · exact ih _ _ _ _ _ _ h ha (by intro e; cases e)
      rename_i hsp
      split at h
      · exact ih _ _ _ _ _ _ h ha (by intro e; cases e)
      rename_i h59
      split at h
      · exact ih _ _ _ _ _ _ h (good_snoc ha (.inl ⟨.inl rfl, rfl⟩)) (by intro e; cases e)
      rename_i h40
      split at h
      · exact ih _ _ _ _ _ _ h (good_snoc ha (.inl ⟨.inr rfl, rfl⟩)) (by intro e; cases e)
      rename_i h41
      split at h
      · exact ih _ _ _ _ _ _ h ha (by intro e; cases e)
      rename_i h34
      refine ih _ _ _ _ _ _ h ha fun _ => ⟨Nat.le_refl _, by omega, fun j c h1 h2 => by omega, .inr ⟨c, hc, ?_⟩⟩
      simp only [special, Bool.or_eq_false_iff, decide_eq_false_iff_not]
      exact ⟨⟨⟨⟨by simpa using hsp, h59⟩, h40⟩, h41⟩, h34⟩
    | 1 =>
      simp only [lexM] at h
      split at h
      · exact ih _ _ _ _ _ _ h ha (by intro e; cases e)
      split at h
      · exact ih _ _ _ _ _ _ h ha (by intro e; cases e)
      · exact ih _ _ _ _ _ _ h ha (by intro e; cases e)
    | 2 =>
      simp only [lexM] at h
      split at h
      · exact er _ _ h
      split at h
      · split at h
        · exact er _ _ h
        · rename_i h200
          exact ih _ _ _ _ _ _ h (good_snoc ha (.inr (.inr ⟨rfl, by show text.length ≤ 200; omega⟩))) (by intro e; cases e)
      split at h
      · split at h
        · exact er _ _ h
        · exact ih _ _ _ _ _ _ h ha (by intro e; cases e)
      split at h
      · exact er _ _ h
      · exact ih _ _ _ _ _ _ h ha (by intro e; cases e)
    | 3 =>
      have hA := hA rfl
      simp only [lexM] at h
      split at h
      · rename_i hn
        refine ih _ _ _ _ _ _ h (good_snoc ha (goodAtom hA ?_)) (by intro e; cases e)
        rcases hA.2.2.2 with h1 | ⟨c, h1, _⟩
        · exact h1
        · rw [hn] at h1; cases h1
      rename_i c hc
      have hlen : i < s.length := (List.getElem?_eq_some_iff.1 hc).1
      split at h
      · rename_i hs
        refine ih _ _ _ _ _ _ h (good_snoc ha (goodAtom hA ?_)) (by intro e; cases e)
        rcases hA.2.2.2 with h1 | ⟨c', h1, h2⟩
        · exact h1
        · rw [hc] at h1; cases h1; rw [hs] at h2; cases h2
      rename_i hs
      split at h
      · exact er _ _ h
      rename_i hr
      obtain ⟨a1, a2, a3, a4⟩ := hA
      refine ih _ _ _ _ _ _ h ha fun _ => ⟨by omega, by omega, fun j c' h1 h2 h3 => ?_, .inl (by omega)⟩
      by_cases hj : j = i
      · subst hj
        rw [hc] at h3; cases h3
        exact ⟨by simpa using hs, by omega, by omega⟩
      · exact a3 j c' h1 (by omega) h3
    | _ + 4 => simp [lexM] at h

theorem splitF_good {s : List UInt8} : ∀ x ∈ (splitF s).toks, goodTok x := by
  by_cases hs : s.length ≤ 8192
  · exact lexM_good s _ _ _ _ _ _ _ (splitF_some hs) (by simp) (by intro e; cases e)
  · unfold splitF
    rw [if_pos (by omega)]
    simp

theorem goodL_append {a b : List T} (ha : goodL a) (hb : goodL b) : goodL (a ++ b) := by
  induction a with
  | nil => exact hb
  | cons x a ih =>
    simp only [goodL, List.cons_append] at ha ⊢
    exact ⟨ha.1, ih ha.2⟩

theorem goodL_one {t : T} (h : goodT t) : goodL [t] := by simp only [goodL]; exact ⟨h, trivial⟩

def goodSt (st : List (Nat × List T)) : Prop := ∀ x ∈ st, goodL x.2

theorem goodSt_add {st : List (Nat × List T)} {t : T} (h : goodSt st) (ht : goodT t) : goodSt (addKid st t) := by
  unfold addKid
  split
  · rename_i p ks hl
    intro x hx
    rcases List.mem_append.1 hx with hx | hx
    · exact h x (List.dropLast_subset _ hx)
    · rw [List.mem_singleton] at hx
      subst hx
      exact goodL_append (h (p, ks) (List.mem_of_getLast? hl)) (goodL_one ht)
  · exact h

theorem parseM_good (n : Nat) : ∀ (l : List Tok) (st : List (Nat × List T)) (wh : List T), (∀ x ∈ l, goodTok x) → goodSt st → goodL wh → (l ≠ [] ∨ st ≠ [] ∨ wh ≠ []) → (parseM n l st wh).err = 0 → goodT (parseM n l st wh).tree := by
  intro l
  induction l with
  | nil =>
    intro st wh _ hs hw hne he
    simp only [parseM] at he ⊢
    split at he
    · cases he
    · rename_i h
      rw [if_neg h]
      cases wh with
      | nil =>
        have : st = [] := by cases st with | nil => rfl | cons a b => simp at h
        simp [this] at hne
      | cons w wh => simp only [goodL] at hw; exact hw.1
  | cons x r ih =>
    intro st wh hl hs hw hne he
    have hx := hl x (by simp)
    have hr : ∀ y ∈ r, goodTok y := fun y hy => hl y (List.mem_cons_of_mem _ hy)
    simp only [parseM] at he ⊢
    by_cases h1 : x.kind = 1 ∧ 40 ≤ st.length
    · rw [if_pos h1] at he; cases he
    rw [if_neg h1] at he ⊢
    by_cases h2 : x.kind = 2 ∧ st.length = 0
    · rw [if_pos h2] at he; cases he
    rw [if_neg h2] at he ⊢
    by_cases h3 : 0 < wh.length
    · rw [if_pos h3] at he; cases he
    rw [if_neg h3] at he ⊢
    have hwn : wh = [] := by cases wh with | nil => rfl | cons a b => simp at h3
    by_cases h4 : x.kind = 1
    · rw [if_pos h4] at he ⊢
      refine ih _ _ hr ?_ hw (by simp) he
      intro y hy
      rcases List.mem_append.1 hy with hy | hy
      · exact hs y hy
      · rw [List.mem_singleton] at hy; subst hy; exact trivial
    rw [if_neg h4] at he ⊢
    by_cases h5 : x.kind = 2
    · rw [if_pos h5] at he ⊢
      cases hq : st.getLast? with
      | none => rw [hq] at he; cases he
      | some y =>
        obtain ⟨p, ks⟩ := y
        rw [hq] at he
        have gk : goodT (.mk 1 p [] ks) := by simp only [goodT]; exact .inr (.inr ⟨trivial, trivial, hs (p, ks) (List.mem_of_getLast? hq)⟩)
        have gd : goodSt st.dropLast := fun y hy => hs y (List.dropLast_subset _ hy)
        simp only at he ⊢
        by_cases h6 : st.dropLast.length = 0
        · rw [if_pos h6] at he ⊢
          exact ih _ _ hr gd (goodL_append hw (goodL_one gk)) (by simp) he
        · rw [if_neg h6] at he ⊢
          refine ih _ _ hr (goodSt_add gd gk) hw (.inr (.inl fun e => ?_)) he
          have := congrArg List.length e
          unfold addKid at this
          split at this
          · simp at this
          · exact h6 this
    rw [if_neg h5] at he ⊢
    have gx : goodT (.mk x.kind x.place x.text []) := by
      simp only [goodT]
      rcases hx with ⟨h | h, _⟩ | ⟨h, a, b⟩ | ⟨h, a⟩
      · exact absurd h h4
      · exact absurd h h5
      · exact .inl ⟨h, a, b, trivial⟩
      · exact .inr (.inl ⟨h, a, trivial⟩)
    by_cases h6 : st.length = 0
    · rw [if_pos h6] at he ⊢
      exact ih _ _ hr hs (goodL_append hw (goodL_one gx)) (by simp) he
    · rw [if_neg h6] at he ⊢
      refine ih _ _ hr (goodSt_add hs gx) hw (.inr (.inl fun e => ?_)) he
      have := congrArg List.length e
      unfold addKid at this
      split at this
      · simp at this
      · exact h6 this

theorem parseF_good {s : List UInt8} (he : (parseF s).err = 0) : goodT (parseF s).tree := by
  have hg := @splitF_good s
  unfold parseF at he ⊢
  generalize splitF s = R at he hg ⊢
  by_cases h1 : R.err ≠ 0
  · rw [if_pos h1] at he; exact absurd he h1
  rw [if_neg h1] at he ⊢
  by_cases h2 : R.toks.length = 0
  · rw [if_pos h2] at he; cases he
  rw [if_neg h2] at he ⊢
  exact parseM_good _ _ _ _ hg (fun x hx => by cases hx) trivial (.inl fun e => h2 (by rw [e]; rfl)) he

end Go.Proofs.Ytcajleckiegffaa

namespace Go.Proofs.Ytcajleckiegffaa
set_option linter.unusedSimpArgs false
set_option linter.unusedVariables false
open Go.Am
set_option maxRecDepth 100000

/-! ### How great a tree is that is read -/

mutual
def wT : T → Nat
  | .mk _ _ t ks => 4 * t.length + 3 + wL ks
def wL : List T → Nat
  | [] => 0
  | t :: ts => wT t + wL ts
end

theorem wL_append (a b : List T) : wL (a ++ b) = wL a + wL b := by
  induction a with
  | nil => simp [wL]
  | cons x a ih => simp only [List.cons_append, wL, ih]; omega

mutual
theorem depth_w : ∀ t : T, depthT t ≤ wT t
  | .mk k p t ks => by
    have := depth_wL ks
    simp only [depthT, wT]; omega
theorem depth_wL : ∀ ts : List T, depthL ts ≤ wL ts
  | [] => Nat.le_refl _
  | t :: ts => by
    have := depth_w t
    have := depth_wL ts
    simp only [depthL, wL]; omega
end

theorem quoteF_le (b : List UInt8) : (quoteF b).length ≤ 4 * b.length + 2 := by
  have : ∀ b : List UInt8, (b.flatMap quoteC).length ≤ 4 * b.length := by
    intro b
    induction b with
    | nil => simp
    | cons c b ih =>
      have h1 := quoteC_len c
      rw [List.flatMap_cons, List.length_append, List.length_cons]
      omega
  have := this b
  unfold quoteF
  rw [List.length_cons, List.length_append, List.length_singleton]; omega

theorem joinTail_len (xs : List (List UInt8)) : (Lib.joinTail [32] xs).length = xs.flatten.length + xs.length := by
  induction xs with
  | nil => rfl
  | cons x xs ih =>
    simp only [Lib.joinTail, List.map_cons, List.flatten_cons, List.length_append, List.length_cons] at ih ⊢
    simp only [List.length_nil]
    omega

mutual
theorem print_w : ∀ t : T, (printT t).length + 1 ≤ wT t
  | .mk k p t ks => by
    have h1 := quoteF_le t
    have h2 := tail_w ks
    simp only [printT, wT]
    split
    · omega
    split
    · omega
    split
    · cases ks with
      | nil => simp [printL, Lib.join_nil]; omega
      | cons a b =>
        simp only [printL] at h2 ⊢
        rw [Lib.join_cons, List.length_cons, List.length_append, List.length_append, List.length_singleton]
        have e : (Lib.joinTail [32] (printT a :: printL b)).length = 1 + (printT a).length + (Lib.joinTail [32] (printL b)).length := by
          simp only [Lib.joinTail, List.map_cons, List.flatten_cons, List.length_append, List.length_cons, List.length_nil]
          try omega
        rw [e] at h2
        omega
    · simp only [List.length_nil]; omega
theorem tail_w : ∀ ts : List T, (Lib.joinTail [32] (printL ts)).length ≤ wL ts
  | [] => Nat.le_refl _
  | t :: ts => by
    have h1 := print_w t
    have h2 := tail_w ts
    have e : (Lib.joinTail [32] (printT t :: printL ts)).length = 1 + (printT t).length + (Lib.joinTail [32] (printL ts)).length := by
      simp only [Lib.joinTail, List.map_cons, List.flatten_cons, List.length_append, List.length_cons, List.length_nil]
      try omega
    simp only [printL, wL, e]
    omega
end

def wK (l : List Tok) : Nat := (l.map fun x => 4 * x.text.length + 3).sum
def wS (st : List (Nat × List T)) : Nat := (st.map fun x => 3 + wL x.2).sum

theorem wS_append (a b : List (Nat × List T)) : wS (a ++ b) = wS a + wS b := by simp [wS]

theorem last_split {st : List (Nat × List T)} {p : Nat} {ks : List T} (h : st.getLast? = some (p, ks)) : st = st.dropLast ++ [(p, ks)] := by
  rw [List.getLast?_eq_some_iff] at h
  obtain ⟨l, rfl⟩ := h
  simp

theorem wS_last {st : List (Nat × List T)} {p : Nat} {ks : List T} (h : st.getLast? = some (p, ks)) : wS st = wS st.dropLast + (3 + wL ks) := by
  have := congrArg wS (last_split h)
  rw [wS_append] at this
  rw [this]
  simp [wS]

theorem wS_add (st : List (Nat × List T)) (t : T) : wS (addKid st t) ≤ wS st + wT t := by
  unfold addKid
  split
  · rename_i p ks h
    rw [wS_last h, wS_append]
    simp [wS, wL_append, wL]; omega
  · omega

theorem parseM_w (n : Nat) : ∀ (l : List Tok) (st : List (Nat × List T)) (wh : List T), wT (parseM n l st wh).tree ≤ wK l + wS st + wL wh + 3 := by
  have e3 : wT noTree = 3 := rfl
  intro l
  induction l with
  | nil =>
    intro st wh
    simp only [parseM]
    split
    · simp only [e3]; omega
    · cases wh with
      | nil => simp only [List.headD_nil, e3]; omega
      | cons a b => simp only [List.headD_cons, wL]; omega
  | cons x r ih =>
    intro st wh
    have ek : wK (x :: r) = 4 * x.text.length + 3 + wK r := by simp [wK]
    simp only [parseM, ek]
    split
    · simp only [e3]; omega
    split
    · simp only [e3]; omega
    split
    · simp only [e3]; omega
    split
    · have := ih (st ++ [(x.place, [])]) wh
      rw [wS_append] at this
      simp [wS, wL] at this ⊢
      omega
    split
    · split
      · rename_i p ks h
        have h2 := wS_last h
        split
        · have := ih st.dropLast (wh ++ [.mk 1 p [] ks])
          simp only [wL_append, wL, wT, List.length_nil] at this
          omega
        · have := ih (addKid st.dropLast (.mk 1 p [] ks)) wh
          have h3 := wS_add st.dropLast (.mk 1 p [] ks)
          simp only [wT, List.length_nil] at h3
          omega
      · simp only [e3]; omega
    split
    · have := ih st (wh ++ [.mk x.kind x.place x.text []])
      simp only [wL_append, wL, wT] at this
      omega
    · have := ih (addKid st (.mk x.kind x.place x.text [])) wh
      have h3 := wS_add st (.mk x.kind x.place x.text [])
      simp only [wL, wT] at h3
      omega

def shortTok (m : Nat) (x : Tok) : Prop := x.text.length ≤ m

theorem short_snoc {m : Nat} {acc : List Tok} {x : Tok} (h : ∀ y ∈ acc, shortTok m y) (hx : shortTok m x) : ∀ y ∈ acc ++ [x], shortTok m y := by
  intro y hy
  rcases List.mem_append.1 hy with hy | hy
  · exact h y hy
  · rw [List.mem_singleton] at hy; subst hy; exact hx

theorem lexM_short (s : List UInt8) {m : Nat} (hm : 200 ≤ m) (hs : s.length ≤ m) : ∀ (k lab i fr : Nat) (text : List UInt8) (acc : List Tok) (R : LexR), lexM s k lab i fr text acc = some R → (∀ x ∈ acc, shortTok m x) → ∀ x ∈ R.toks, shortTok m x := by
  intro k
  have at_ : ∀ fr i, shortTok m ⟨3, fr, (s.drop fr).take (i - fr)⟩ := fun fr i => by
    show ((s.drop fr).take (i - fr)).length ≤ m
    rw [List.length_take, List.length_drop]; omega
  induction k with
  | zero => intro lab i fr text acc R h; simp [lexM] at h
  | succ k ih =>
    intro lab i fr text acc R h ha
    have er : ∀ (n p : Nat), some (⟨[], n, p⟩ : LexR) = some R → ∀ x ∈ R.toks, shortTok m x := fun n p e x hx => by
      rw [← Option.some.inj e] at hx; cases hx
    match lab with
    | 0 =>
      simp only [lexM] at h
      split at h
      · rw [← Option.some.inj h]; exact ha
      split at h
      · exact ih _ _ _ _ _ _ h ha
      split at h
      · exact ih _ _ _ _ _ _ h ha
      split at h
      · exact ih _ _ _ _ _ _ h (short_snoc ha (Nat.zero_le _))
      split at h
      · exact ih _ _ _ _ _ _ h (short_snoc ha (Nat.zero_le _))
      split at h
      · exact ih _ _ _ _ _ _ h ha
      · exact ih _ _ _ _ _ _ h ha
    | 1 =>
      simp only [lexM] at h
      split at h
      · exact ih _ _ _ _ _ _ h ha
      split at h
      · exact ih _ _ _ _ _ _ h ha
      · exact ih _ _ _ _ _ _ h ha
    | 2 =>
      simp only [lexM] at h
      split at h
      · exact er _ _ h
      split at h
      · split at h
        · exact er _ _ h
        · exact ih _ _ _ _ _ _ h (short_snoc ha (by show text.length ≤ m; omega))
      split at h
      · split at h
        · exact er _ _ h
        · exact ih _ _ _ _ _ _ h ha
      split at h
      · exact er _ _ h
      · exact ih _ _ _ _ _ _ h ha
    | 3 =>
      simp only [lexM] at h
      split at h
      · exact ih _ _ _ _ _ _ h (short_snoc ha (at_ _ _))
      split at h
      · exact ih _ _ _ _ _ _ h (short_snoc ha (at_ _ _))
      split at h
      · exact er _ _ h
      · exact ih _ _ _ _ _ _ h ha
    | _ + 4 => simp [lexM] at h

theorem splitF_short {s : List UInt8} : ∀ x ∈ (splitF s).toks, shortTok 8192 x := by
  by_cases hs : s.length ≤ 8192
  · exact lexM_short s (by omega) hs _ _ _ _ _ _ _ (splitF_some hs) (by simp)
  · unfold splitF
    rw [if_pos (by omega)]
    simp

theorem wK_le {l : List Tok} (h : ∀ x ∈ l, shortTok 8192 x) : wK l ≤ 32771 * l.length := by
  induction l with
  | nil => simp [wK]
  | cons x r ih =>
    have h1 : x.text.length ≤ 8192 := h x (by simp)
    have h2 := ih fun y hy => h y (List.mem_cons_of_mem _ hy)
    have ek : wK (x :: r) = 4 * x.text.length + 3 + wK r := by simp [wK]
    rw [ek, List.length_cons]
    omega

theorem parseF_w (s : List UInt8) : wT (parseF s).tree ≤ 300000000 := by
  have h1 := splitF_len s
  have h2 := wK_le (@splitF_short s)
  unfold parseF
  generalize splitF s = R at h1 h2 ⊢
  have e3 : wT noTree = 3 := rfl
  split
  · simp only [e3]; omega
  split
  · simp only [e3]; omega
  · have := parseM_w s.length R.toks [] []
    simp only [wS, wL, List.map_nil, List.sum_nil] at this
    omega

theorem parseF_print (s : List UInt8) : depthT (parseF s).tree ≤ 300000000 ∧ (printT (parseF s).tree).length ≤ 300000000 := by
  have h1 := depth_w (parseF s).tree
  have h2 := print_w (parseF s).tree
  have h3 := parseF_w s
  omega

end Go.Proofs.Ytcajleckiegffaa

namespace Go.Proofs.Ytcajleckiegffaa
set_option linter.unusedSimpArgs false
set_option linter.unusedVariables false
open Go.Am
set_option maxRecDepth 100000

/-! ### The walk of TreeKids -/

theorem tree_load {H : Heap} {b : Nat} {r sh : Bool} {v : AV} {t : T} (tv : TreeV v t) (hb : H[b]? = some (.arr ⟨4, r, sh, [v]⟩)) : loadX (some 4) (.ptr b 0 0) H = some v := by
  cases tv with
  | mk hk => exact loadA_at hb rfl

theorem tree_field {H : Heap} {b off : Nat} {r sh : Bool} {k p : Nat} {t : List UInt8} {kv : AV} (hb : H[b]? = some (.arr ⟨4, r, sh, [.agg [.lit (.int .i64 k), .lit (.int .i64 p), .lit (.string ⟨⟨t⟩⟩), kv]]⟩)) : loadX none (.ptr b 0 off) H = [.lit (.int .i64 k), .lit (.int .i64 p), .lit (.string ⟨⟨t⟩⟩), kv][off]? := load_at hb

def T.kindOf : T → Nat
  | .mk k _ _ _ => k

theorem TreeV.load {u : AV} {t : T} (tv : TreeV u t) (h : Heap) : loadX (some 4) (.iptr u 0) h = some u ∧ loadX none (.iptr u 0) h = some (.lit (.int .i64 t.kindOf)) := by
  cases tv with
  | mk hk => exact ⟨load_iptrA h rfl, rfl⟩

theorem own_ix {h : Heap} {v : AV} {es : List AV} {ts : List T} {o : Option Nat} (w : OwnS h v 4 es o) (lv : ListV es ts) {i : Nat} {t : T} (ht : ts[i]? = some t) :
    ∃ id u, indexAddrS 4 v (.lit (.int .i64 (i : Int))) h = some (.ptr id i 0) ∧ loadX (some 4) (.ptr id i 0) h = some u ∧ loadX none (.ptr id i 0) h = some (.lit (.int .i64 t.kindOf)) ∧ TreeV u t := by
  obtain ⟨u, h1, h2⟩ := lv.get ht
  have hi : i < es.length := (List.getElem?_eq_some_iff.1 h1).1
  cases o with
  | none => obtain ⟨_, rfl⟩ := w; simp at h1
  | some id =>
    obtain ⟨rfl, hid⟩ := w
    refine ⟨id, u, ?_, ?_, ?_, h2⟩
    · unfold indexAddrS intLit
      simp only [Int.natCast_nonneg, if_true, hid, Int.toNat_natCast, Nat.zero_add]
      rw [if_pos ⟨trivial, hi, hi⟩]
    · cases h2 with
      | mk hk =>
        unfold loadX
        simp only [hid, h1]
        exact readX_all rfl
    · cases h2 with
      | mk hk =>
        unfold loadX
        simp only [hid, h1]
        rfl

theorem joinTail_snoc (xs : List (List UInt8)) (y : List UInt8) : Lib.joinTail [32] (xs ++ [y]) = Lib.joinTail [32] xs ++ [32] ++ y := by simp [Lib.joinTail]

theorem printL_snoc (ts : List T) (t : T) : printL (ts ++ [t]) = printL ts ++ [printT t] := by simp [printL_map]

/-- The trees that are wanted. -/
structure Want (h : Heap) (v : AV) (want : List T) (n : Nat) : Prop where
  own : ∃ o es, OwnS h v 4 es o ∧ ListV es want
  ok : ∀ t ∈ want, goodT t ∧ wT t ≤ 300000000 ∧ (printT t).length ≤ 500
  len : want.length ≤ n

theorem Want.more {h : Heap} {v : AV} {want : List T} {n m : Nat} (w : Want h v want n) (hm : n ≤ m) (x : List AObj) : Want (h ++ x) v want m where
  own := by
    obtain ⟨o, es, h1, h2⟩ := w.own
    exact ⟨o, es, h1.keep (p := none) (fun _ _ e => by cases e) x, h2⟩
  ok := w.ok
  len := Nat.le_trans w.len hm

theorem Want.size {h : Heap} {v : AV} {want : List T} {n : Nat} (w : Want h v want n) : (Lib.joinTail [32] (printL want)).length ≤ 501 * n := by
  have h1 : ∀ ts : List T, (∀ t ∈ ts, (printT t).length ≤ 500) → (Lib.joinTail [32] (printL ts)).length ≤ 501 * ts.length := by
    intro ts
    induction ts with
    | nil => intro _; simp [printL, Lib.joinTail]
    | cons t ts ih =>
      intro h
      have a := h t (by simp)
      have b := ih fun x hx => h x (List.mem_cons_of_mem _ hx)
      have e : (Lib.joinTail [32] (printL (t :: ts))).length = 1 + (printT t).length + (Lib.joinTail [32] (printL ts)).length := by
        simp only [printL, Lib.joinTail, List.map_cons, List.flatten_cons, List.length_append, List.length_cons, List.length_nil]
        try omega
      rw [e, List.length_cons]; omega
  have h2 := h1 want fun t ht => (w.ok t ht).2.2
  have h3 := w.len
  omega

theorem Want.push {h : Heap} {v : AV} {want : List T} {n : Nat} (w : Want h v want n) (hn : n ≤ 100) {u : AV} {t : T} (tv : TreeV u t) (ht : goodT t ∧ wT t ≤ 300000000 ∧ (printT t).length ≤ 500) :
    ∃ v' h', appendX 4 56 v (.isl 4 true [u]) h = some (v', h') ∧ Want h' v' (want ++ [t]) (n + 1) ∧ ∀ (b : Nat) (x : AObj), (∀ o es, OwnS h v 4 es o → o ≠ some b) → h[b]? = some x → h'[b]? = some x := by
  obtain ⟨o, es, h1, h2⟩ := w.own
  have hl := h2.length
  have h3 := w.len
  refine ⟨_, _, h1.append (bytes := 56) (f := true) (ys := [u]) (by simp) (by simp only [List.length_singleton]; omega), ⟨⟨some h.length, es ++ [u], ?_, h2.append (.cons tv .nil)⟩, ?_, by simp; omega⟩, ?_⟩
  · have := OwnS.appended (h := h) (o := o) (sz := 4) (es := es ++ [u])
    simpa using this
  · intro x hx
    rcases List.mem_append.1 hx with hx | hx
    · exact w.ok x hx
    · rw [List.mem_singleton] at hx; subst hx; exact ht
  · intro b x hb hx
    exact get_kill hx (hb o es h1) _

theorem kids_end {call : CallF} (P : PrintOk call 300000000) (hk : ∀ h, call 14 [] h = some (.lit (.bool true), h)) {h : Heap} {v : AV} {want : List T} {n : Nat} (w : Want h v want n) (hn : n ≤ 100) {b p : Nat} {kv : AV} {ks : List T} (hv : KidsV kv ks)
    (hb : h[b]? = some (.arr ⟨4, false, false, [.agg [.lit (.int .i64 1), .lit (.int .i64 p), .lit (.string ⟨⟨[]⟩⟩), kv]]⟩)) (he : bareL ks = bareL want) (hw : wT (.mk 1 p [] ks) ≤ 300000000) :
    ∀ (k i : Nat), i ≤ want.length → want.length - i < k → ∃ h', S9_1l call k v (.ptr b 0 0) (.lit (.string ⟨⟨40 :: Lib.join (printL (want.take i)) [32]⟩⟩)) (.lit (.int .i64 i)) h = some (.lit (.bool true), h') := by
  obtain ⟨o, es, w1, w2⟩ := w.own
  have tv : TreeV (.agg [.lit (.int .i64 1), .lit (.int .i64 p), .lit (.string ⟨⟨[]⟩⟩), kv]) (.mk 1 p [] ks) := .mk hv
  have pe : printL ks = printL want := by rw [← printL_bare ks, he, printL_bare]
  have hkl : ks.length = want.length := by
    have := congrArg List.length he
    rwa [bareL_map, bareL_map, List.length_map, List.length_map] at this
  have hlen : es.length = want.length := w2.length
  have hfull : printT (.mk 1 p [] ks) = 40 :: (Lib.join (printL want) [32] ++ [41]) := by simp [printT, pe]
  have hsz := print_w (.mk 1 p [] ks)
  have hdp := depth_w (.mk 1 p [] ks)
  have hsize : ∀ i, (Lib.join (printL (want.take i)) [32]).length ≤ 100000 := by
    intro i
    have h1 : Want h v want n := w
    cases hq : want.take i with
    | nil => simp [printL, Lib.join_nil]
    | cons a c =>
      have h2 : ∀ t ∈ a :: c, (printT t).length ≤ 500 := fun t ht => (w.ok t (List.mem_of_mem_take (by rw [hq]; exact ht))).2.2
      have h3 : (a :: c).length ≤ 100 := by rw [← hq, List.length_take]; have := w.len; omega
      have h5 : Want h v (a :: c) 100 → True := fun _ => trivial
      have h4 : ∀ ts : List T, (∀ t ∈ ts, (printT t).length ≤ 500) → (Lib.joinTail [32] (printL ts)).length ≤ 501 * ts.length := by
        intro ts
        induction ts with
        | nil => intro _; simp [printL, Lib.joinTail]
        | cons t ts ih =>
          intro h
          have a := h t (by simp)
          have b := ih fun x hx => h x (List.mem_cons_of_mem _ hx)
          have e : (Lib.joinTail [32] (printL (t :: ts))).length = 1 + (printT t).length + (Lib.joinTail [32] (printL ts)).length := by
            simp only [printL, Lib.joinTail, List.map_cons, List.flatten_cons, List.length_append, List.length_cons, List.length_nil]
            try omega
          rw [e, List.length_cons]; omega
      have h6 := h4 (a :: c) h2
      have e : (Lib.joinTail [32] (printL (a :: c))).length = (Lib.join (printL (a :: c)) [32]).length + 1 := by
        simp only [printL]
        rw [Lib.join_cons]
        simp only [Lib.joinTail, List.map_cons, List.flatten_cons, List.length_append, List.length_cons, List.length_nil]
        omega
      omega
  intro k
  induction k with
  | zero => intro i _ hk; omega
  | succ k ih =>
    intro i hi hk2
    show ∃ h', S9_5b call (S9_1l call k) _ _ _ _ h = _
    simp only [S9_5b, w1.len, hlen, opt_s, fb_lss, test_b, decide_eq_true_eq]
    by_cases hlt : i < want.length
    · rw [if_pos (by omega)]
      have a2 : want.length - (i + 1) < k := by omega
      have ht : want[i]? = some want[i] := List.getElem?_eq_getElem hlt
      have hg : want.take (i + 1) = want.take i ++ [want[i]] := List.take_succ_eq_append_getElem hlt
      have a3 : i + 1 ≤ want.length := hlt
      have hi9 : i < 200 := by have := w.len; omega
      have hlt2 : i < ks.length := by omega
      have hmin : min i want.length = i := Nat.min_eq_left (by omega)
      generalize want[i] = t at ht hg
      have hm := List.mem_of_getElem? ht
      obtain ⟨t1, t2, t3⟩ := w.ok t hm
      obtain ⟨id, u, i1, i2, i3, i4⟩ := own_ix w1 w2 ht
      have hdt := depth_w t
      obtain ⟨t', ht', hbt⟩ : ∃ t', ks[i]? = some t' ∧ bareT t' = bareT t := by
        refine ⟨ks[i], List.getElem?_eq_getElem hlt2, ?_⟩
        have h1 := congrArg (·[i]?) he
        simp only [bareL_map, List.getElem?_map, List.getElem?_eq_getElem hlt2, ht, Option.map_some] at h1
        exact Option.some.inj h1
      obtain ⟨u', j1, j2⟩ := hv.ix ht' h
      obtain ⟨j3, j4⟩ := j2.load h
      have hpt' : printT t' = printT t := by rw [← printT_bare t', hbt, printT_bare]
      have hkt' : t'.kindOf = t.kindOf := by
        cases t' with
        | mk a b c d =>
          cases t with
          | mk a' b' c' d' =>
            simp only [bareT, T.mk.injEq] at hbt
            exact hbt.1
      have hd' : depthT t' ≤ 300000000 := by
        have := depthL_mem (List.mem_of_getElem? ht')
        simp only [depthT] at hdp
        omega
      have st3 : ∀ (x : List UInt8), x ++ printT t = 40 :: Lib.join (printL (want.take (i + 1))) [32] → x.length ≤ 200000 → ∃ h', S9_3 call (S9_1l call k) v (.ptr b 0 0) (.lit (.string ⟨⟨x⟩⟩)) (.lit (.int .i64 i)) h = some (.lit (.bool true), h') := by
        intro x hx hxl
        have p1 := P u t h i4 (by omega) (by omega)
        have p2 := P u' t' h j2 hd' (by rw [hpt']; omega)
        rw [hpt'] at p2
        rw [hkt'] at j4
        simp only [S9_3, i1, i2, i3, opt_s, p1, opt2_s, fb_adds (show x.length + (printT t).length < 1152921504606846976 by omega), fa_ptr, tree_field hb, List.getElem?_cons_zero, List.getElem?_cons_succ, Nat.zero_add, Nat.add_zero, eqH_s, j1, j3, p2, fb_neqs, fb_neq, fa_iptr, j4, test_b, ne_eq, not_true_eq_false, decide_false, Bool.false_eq_true, if_false]
        have hw : fastWrap .i64 ((i : Int) + 1) = ((i + 1 : Nat) : Int) := by rw [wrap64 (by omega) (by omega)]; rfl
        simp only [S9_2, fb_add, opt_s, hw, hx]
        exact ih (i + 1) a3 a2
      have hs1 := hsize i
      simp only [S9_4, fb_gtr, opt_s, test_b, decide_eq_true_eq]
      by_cases h0 : 0 < i
      · rw [if_pos (by omega), fb_adds (by simp; omega), opt_s]
        refine st3 _ ?_ (by simp; omega)
        rw [hg, printL_snoc]
        cases hq : want.take i with
        | nil =>
          have := congrArg List.length hq
          rw [List.length_take, hmin, List.length_nil] at this
          omega
        | cons a c =>
          simp only [printL, List.cons_append]
          rw [Lib.join_cons, Lib.join_cons, joinTail_snoc]
          simp
      · rw [if_neg (by omega)]
        have : i = 0 := by omega
        subst this
        refine st3 _ ?_ (by rw [List.length_cons]; omega)
        rw [hg, List.take_zero, List.nil_append]
        show 40 :: Lib.join [] [32] ++ printT t = 40 :: Lib.join [printT t] [32]
        rw [Lib.join_one, Lib.join_nil]
        rfl
    · rw [if_neg (by omega)]
      have : want.take i = want := List.take_of_length_le (by omega)
      have hs1 := hsize i
      rw [this] at hs1
      rw [this]
      have p1 := P _ _ h tv (by omega) (by omega)
      rw [hfull] at p1
      simp only [S9_0, tree_load tv hb, opt_s, p1, opt2_s]
      rw [fb_adds (by simp; omega), opt_s]
      simp only [List.cons_append, fb_eqls, opt_s, decide_true, test_b, if_true, hk, opt2_s]
      exact ⟨_, rfl⟩

end Go.Proofs.Ytcajleckiegffaa

namespace Go.Proofs.Ytcajleckiegffaa
set_option linter.unusedSimpArgs false
set_option linter.unusedVariables false
open Go.Am
set_option maxRecDepth 100000

theorem kids_parse {call : CallF} (C : ParseCall call) (P : PrintOk call 300000000) (hk : ∀ h, call 14 [] h = some (.lit (.bool true), h)) {h : Heap} {v : AV} {want : List T} (w : Want h v want 8) :
    ∃ h', S9_11 call (.lit (.string ⟨⟨40 :: Lib.joinTail [32] (printL want)⟩⟩)) v h = some (.lit (.bool true), h') := by
  have hsz := w.size
  have gl : ∀ ts : List T, (∀ t ∈ ts, goodT t) → goodL ts := by
    intro ts
    induction ts with
    | nil => intro _; trivial
    | cons a b ih => intro h; exact ⟨h a (by simp), ih fun x hx => h x (List.mem_cons_of_mem _ hx)⟩
  have g := gl want fun t ht => (w.ok t ht).1
  have hl : (rowS want).length ≤ 8192 := by
    unfold rowS
    rw [List.length_cons, List.length_append, List.length_singleton]; omega
  obtain ⟨law1, law2⟩ := parse_row g hl
  obtain ⟨x, c1, c2⟩ := C.parse (rowS want) h
  have hw := parseF_w (rowS want)
  simp only [S9_11]
  rw [fb_adds (by rw [List.length_cons, List.length_singleton]; omega), opt_s]
  have e : (40 :: Lib.joinTail [32] (printL want)) ++ [41] = rowS want := by simp [rowS]
  rw [e, c1]
  generalize parseF (rowS want) = Q at law1 law2 c1 c2 hw
  simp only [opt2_s, extract_tup, List.getElem?_cons_zero, List.getElem?_cons_succ, opt_s]
  rw [tree_box c2]
  simp only [S9_10, fb_eql, opt_s, test_b, decide_eq_true_eq, ceq, hk, opt2_s]
  by_cases h14 : Q.err = 14
  · rw [if_pos h14]; exact ⟨_, rfl⟩
  rw [if_neg h14]
  have hn : nestL want < 40 := by
    rcases Nat.lt_or_ge (nestL want) 40 with h | h
    · exact h
    · exact absurd (law2 h) h14
  obtain ⟨l1, l2⟩ := law1 hn
  have w' := w.more (Nat.le_refl 8) [AObj.arr ⟨4, false, false, [x]⟩]
  have hb : (h ++ [AObj.arr ⟨4, false, false, [x]⟩])[h.length]? = some (.arr ⟨4, false, false, [x]⟩) := get_last _ _
  generalize h ++ [AObj.arr ⟨4, false, false, [x]⟩] = H at w' hb
  generalize h.length = b at hb
  obtain ⟨qt, err, pos⟩ := Q
  simp only at l1 l2 c2 hw
  subst l1
  cases c2 with
  | @mk k p tx kv ks hkv =>
    simp only [bareT, T.mk.injEq] at l2
    obtain ⟨rfl, _, rfl, he⟩ := l2
    have hkl : ks.length = want.length := by
      have := congrArg List.length he
      rwa [bareL_map, bareL_map, List.length_map, List.length_map] at this
    obtain ⟨o, es, w1, w2⟩ := w'.own
    simp only [S9_9, fb_neq, opt_s, test_b, fa_ptr, tree_field hb, List.getElem?_cons_zero, List.getElem?_cons_succ, Nat.zero_add, Nat.add_zero, hkv.len, w1.len, w2.length, hkl, ne_eq, not_true_eq_false, Int.natCast_zero, Int.natCast_one, decide_false, Bool.false_eq_true, if_false, S9_8, S9_7, S9_6]
    have z := kids_end P hk w' (by omega) hkv hb he hw rounds 0 (by omega) (by have := w.len; simp only [rounds]; omega)
    simpa [printL, Lib.join_nil] using z

theorem kids_loop {call : CallF} (C : ParseCall call) (P : PrintOk call 300000000) (hk : ∀ h, call 14 [] h = some (.lit (.bool true), h)) {f : Bool} {ss : List (List UInt8)} :
    ∀ (k i : Nat) (h : Heap) (v : AV) (want : List T), Want h v want i → i ≤ 8 → 8 - i < k →
      ∃ h', S9_12l call k (.isl 1 f (ss.map strAV)) (.lit (.string ⟨⟨40 :: Lib.joinTail [32] (printL want)⟩⟩)) v (.lit (.int .i64 i)) h = some (.lit (.bool true), h') := by
  intro k
  induction k with
  | zero => intro i h v want _ _ hk; omega
  | succ k ih =>
    intro i h v want w hi hk2
    show ∃ h', S9_18b call (S9_12l call k) _ _ _ _ h = _
    simp only [S9_18b, lenS_isl, List.length_map, opt_s, fb_lss, test_b, decide_eq_true_eq]
    have fin : ∃ h', S9_11 call (.lit (.string ⟨⟨40 :: Lib.joinTail [32] (printL want)⟩⟩)) v h = some (.lit (.bool true), h') := by
      refine kids_parse C P hk ⟨w.own, w.ok, Nat.le_trans w.len hi⟩
    by_cases hlt : i < ss.length
    · rw [if_pos (by omega)]
      by_cases h8 : i < 8
      · rw [if_pos (by omega)]
        have a2 : 8 - (i + 1) < k := by omega
        have a3 : i + 1 ≤ 8 := h8
        have hw : fastWrap .i64 ((i : Int) + 1) = ((i + 1 : Nat) : Int) := by rw [wrap64 (by omega) (by omega)]; rfl
        have gs : (ss.map strAV)[i]? = some (strAV ss[i]) := by rw [List.getElem?_map, List.getElem?_eq_getElem hlt]; rfl
        generalize ss[i] = s at gs
        have l1 : loadX none (.iptr (strAV s) 0) h = some (.lit (.string ⟨⟨s⟩⟩)) := rfl
        obtain ⟨x, c1, c2⟩ := C.parse s h
        have hpw := parseF_w s
        have hpg := @parseF_good s
        simp only [S9_17, ixa_isl (Int.natCast_nonneg _), Int.toNat_natCast, gs, Option.map_some, opt_s, l1, c1, opt2_s, extract_tup, List.getElem?_cons_zero, List.getElem?_cons_succ]
        generalize parseF s = R at c1 c2 hpw hpg
        rw [tree_box c2]
        have hdp := depth_w R.tree
        have hpr := print_w R.tree
        have g6 : (h ++ [AObj.arr ⟨4, false, false, [x]⟩])[h.length]? = some (.arr ⟨4, false, false, [x]⟩) := get_last _ _
        have hne : ∀ o es, OwnS h v 4 es o → o ≠ some h.length := fun o es ho e => by
          subst e
          have := OwnS.lt ho
          omega
        have w1 := w.more (Nat.le_succ i) [AObj.arr ⟨4, false, false, [x]⟩]
        have wq : ∀ o es, OwnS (h ++ [AObj.arr ⟨4, false, false, [x]⟩]) v 4 es o → o ≠ some h.length := fun o es ho e => by
          subst e
          obtain ⟨e1, e2⟩ := ho
          obtain ⟨o2, es2, e3, _⟩ := w.own
          cases o2 with
          | none => obtain ⟨e4, _⟩ := e3; rw [e1] at e4; cases e4
          | some id =>
            have := e3.1
            rw [e1] at this
            have e5 : h.length = id := by injection this
            exact hne _ _ e3 (by rw [e5])
        have w0 : Want (h ++ [AObj.arr ⟨4, false, false, [x]⟩]) v want i := w.more (Nat.le_refl i) _
        clear hne
        generalize h.length = b at g6 wq
        generalize h ++ [AObj.arr ⟨4, false, false, [x]⟩] = H at g6 wq w1 w0
        obtain ⟨y, d1, d2⟩ := C.parse (printT R.tree) H
        obtain ⟨q1, q2⟩ := parseF_print (printT R.tree)
        have p1 : ∀ hp, call 13 [x] hp = some (.lit (.string ⟨⟨printT R.tree⟩⟩), hp) := fun hp => P x R.tree hp c2 (by omega) (by omega)
        simp only [S9_16, tree_load c2 g6, opt_s, p1, opt2_s, d1, extract_tup, List.getElem?_cons_zero, List.getElem?_cons_succ]
        generalize parseF (printT R.tree) = U at d1 d2 q1 q2
        rw [tree_box d2]
        have g6' : (H ++ [AObj.arr ⟨4, false, false, [y]⟩])[b]? = some (.arr ⟨4, false, false, [x]⟩) := by
          rw [List.getElem?_append_left (List.getElem?_eq_some_iff.1 g6).1]; exact g6
        have g9 : (H ++ [AObj.arr ⟨4, false, false, [y]⟩])[H.length]? = some (.arr ⟨4, false, false, [y]⟩) := get_last _ _
        have wq' : ∀ o es, OwnS (H ++ [AObj.arr ⟨4, false, false, [y]⟩]) v 4 es o → o ≠ some b := fun o es ho e => by
          subst e
          obtain ⟨e1, e2⟩ := ho
          obtain ⟨o2, es2, e3, _⟩ := w0.own
          cases o2 with
          | none => obtain ⟨e4, _⟩ := e3; rw [e1] at e4; cases e4
          | some id =>
            have := e3.1
            rw [e1] at this
            have e5 : b = id := by injection this
            exact wq _ _ e3 (by rw [e5])
        have w2 := w1.more (Nat.le_refl (i + 1)) [AObj.arr ⟨4, false, false, [y]⟩]
        have w3 := w0.more (Nat.le_refl i) [AObj.arr ⟨4, false, false, [y]⟩]
        generalize H.length = b9 at g9
        generalize H ++ [AObj.arr ⟨4, false, false, [y]⟩] = K at g6' g9 w2 w3 wq'
        have p2 : ∀ hp, call 13 [y] hp = some (.lit (.string ⟨⟨printT U.tree⟩⟩), hp) := fun hp => P y U.tree hp d2 (by omega) (by omega)
        have next : ∃ h', S9_13 call (S9_12l call k) (.isl 1 f (ss.map strAV)) (.lit (.string ⟨⟨40 :: Lib.joinTail [32] (printL want)⟩⟩)) v (.lit (.int .i64 i)) K = some (.lit (.bool true), h') := by
          simp only [S9_13, fb_add, opt_s, hw]
          exact ih (i + 1) K v want w2 a3 a2
        have cz : ∀ n : Nat, (¬ (n : Int) = 0) = (¬ n = 0) := fun n => by simp
        simp only [S9_15, fb_neq, opt_s, test_b, decide_eq_true_eq, ne_eq, cz, tree_load c2 g6', tree_load d2 g9, p1, p2, opt2_s, eqH_s, lenStr_s, fb_gtr, clt2, fb_neqs]
        by_cases e1 : R.err = 0
        · rw [if_neg (by simpa using e1)]
          by_cases e2 : U.err = 0
          · rw [if_neg (by simpa using e2)]
            by_cases e3 : 500 < (printT R.tree).length
            · rw [if_pos e3]; exact next
            rw [if_neg e3]
            by_cases e4 : printT U.tree = printT R.tree
            · rw [if_neg (by simpa using e4)]
              have hsz := w3.size
              obtain ⟨v', K', b1, b2, b3⟩ := w3.push (by omega) c2 ⟨hpg e1, hpw, by omega⟩
              have g7 := b3 b _ wq' g6'
              obtain ⟨f1, f2, f3, f4⟩ := c2.cells
              have bs := bslice_one (sz := 4) (z := .agg [(.lit (.int .i64 0)), (.lit (.int .i64 0)), (.lit (.string ⟨⟨[]⟩⟩)), (.lit (.slice none 0 0))]) (t := x) (h := K) f2 f3 (by rw [f4]; exact c2.snap K)
              rw [f4] at bs
              simp only [S9_14, tree_load c2 g6', opt_s, bs, opt2_s, b1, tree_load c2 g7, p1]
              rw [fb_adds (by rw [List.length_cons, List.length_singleton]; omega), opt_s, fb_adds (by simp only [List.length_append, List.length_cons, List.length_nil]; omega), opt_s]
              simp only [S9_13, fb_add, opt_s, hw]
              have e : (40 :: Lib.joinTail [32] (printL want)) ++ [32] ++ printT R.tree = 40 :: Lib.joinTail [32] (printL (want ++ [R.tree])) := by
                rw [printL_snoc, joinTail_snoc]; rfl
              rw [e]
              exact ih (i + 1) K' v' (want ++ [R.tree]) b2 a3 a2
            · rw [if_pos (by simpa using e4)]; exact next
          · rw [if_pos (by simpa using e2)]; exact next
        · rw [if_pos (by simpa using e1)]; exact next
      · rw [if_neg (by omega)]; exact fin
    · rw [if_neg (by omega)]; exact fin

theorem F9_ok {call : CallF} (C : ParseCall call) (P : PrintOk call 300000000) (hk : ∀ h, call 14 [] h = some (.lit (.bool true), h)) {f : Bool} (ss : List (List UInt8)) (h : Heap) :
    ∃ h', F9 call (.isl 1 f (ss.map strAV)) h = some (.lit (.bool true), h') := by
  simp only [F9, S9_22, S9_21, S9_20, S9_19]
  have := kids_loop C P hk (f := f) (ss := ss) rounds 0 h (.lit (.slice none 0 0)) [] ⟨⟨none, [], ⟨rfl, rfl⟩, .nil⟩, by simp, Nat.le_refl _⟩ (by omega) (by simp only [rounds]; omega)
  exact this

end Go.Proofs.Ytcajleckiegffaa

namespace Go.Proofs.Ytcajleckiegffaa
set_option linter.unusedSimpArgs false
set_option linter.unusedVariables false
open Go.Am Go.RowKit
set_option maxRecDepth 100000

/-! ### Print's contract over any table that holds these functions -/

theorem prim_call2 {E : SEnv} {n : Nat} {f : FuncId} {p : List AV → Option AV} {args args' : List AV} {ids : List Nat} {h : Heap} {r : AV} (hp : E.prim f = some p) (hs : snaps h args = some (args', ids))
    (hr : p args' = some r) (hf : flat r = true) : scall E (n + 1) f args h = some (r, h) := by
  simp only [scall, hp, hs, hr]
  rw [if_pos hf]

theorem strs_map (xs : List (List UInt8)) : strs (xs.map strAV) = some (xs.map fun b => ⟨⟨b⟩⟩) := by
  induction xs with
  | nil => rfl
  | cons x xs ih => simp only [List.map_cons, strAV, strs]; rw [show strs (xs.map strAV) = _ from ih]

theorem join_prim (xs : List (List UInt8)) {f : Bool} (h1 : xs.length ≤ 100000000001) (h2 : (Lib.join xs [32]).length ≤ 100000000000) : joinPrim [.isl 1 f (xs.map strAV), .lit (.string ⟨⟨[32]⟩⟩)] = some (.lit (.string ⟨⟨Lib.join xs [32]⟩⟩)) := by
  have e : joined (xs.map fun b => (⟨⟨b⟩⟩ : ByteArray)) ⟨⟨[32]⟩⟩ = Lib.join xs [32] := by
    unfold joined
    simp [List.map_map, Function.comp_def]
  simp only [joinPrim, strs_map, e]
  rw [if_pos ⟨rfl, by simp; omega, by omega⟩]

structure HasPrint (E : SEnv) : Prop extends HasParse E where
  p13 : E.prim 13 = none
  p14 : E.prim 14 = some knownP
  p23 : E.prim 23 = none
  p24 : E.prim 24 = some joinPrim
  f13 : E.fns 13 = some (.alone, N13)
  f23 : E.fns 23 = some (.alone, N23)

theorem HasPrint.quote {E : SEnv} (H : HasPrint E) (n : Nat) : QuoteCall (scall E (n + 1)) where
  quote := fun b h hb => by
    obtain ⟨h', h1⟩ := F23_ok (scall E n) hb []
    exact alone_call H.p23 H.f23 rfl h1 ⟨[], rfl⟩

theorem HasPrint.join {E : SEnv} (H : HasPrint E) (n : Nat) : JoinCall (scall E (n + 1)) where
  join := fun xs h v o w h1 h2 => by
    obtain ⟨ids, hs⟩ := w.snap (by simp [List.all_eq_true, free1, freeCell])
    have hs2 : snaps h [v, .lit (.string ⟨⟨[32]⟩⟩)] = some ([Am.frozen 1 (xs.map strAV) o, .lit (.string ⟨⟨[32]⟩⟩)], ids) := by
      simp only [snaps, snap1_lit, List.append_nil]
      rw [show snap1 h v = _ from hs]; simp only [List.append_nil]; rfl
    refine prim_call2 H.p24 hs2 ?_ rfl
    cases o with
    | none =>
      obtain ⟨_, e⟩ := w
      have : xs = [] := by simpa using e
      subst this
      rfl
    | some id => exact join_prim xs h1 h2

theorem depth_pos (t : T) : 0 < depthT t := by cases t; simp only [depthT]; omega

theorem HasPrint.print {E : SEnv} (H : HasPrint E) (n : Nat) : ∀ d, PrintOk (scall E (n + d + 1)) d := by
  intro d
  induction d with
  | zero => intro v t h _ hd; have := depth_pos t; omega
  | succ d ih =>
    intro v t h tv hd hl
    obtain ⟨h', h1⟩ := F13_ok (H.join (n + d)) (H.quote (n + d)) ih tv hd hl []
    have hs : snaps h [v] = some ([v], []) := by simp only [snaps, tv.snap, List.append_nil]
    exact alone_call (n := n + d + 1) H.p13 H.f13 hs h1 ⟨[], rfl⟩

theorem HasPrint.known {E : SEnv} (H : HasPrint E) (n : Nat) (h : Heap) : scall E (n + 1) 14 [] h = some (.lit (.bool true), h) := prim_call H.p14 rfl rfl

/-- A call whose arguments lie in memory that stays as it is. -/
theorem scall_vds {E : SEnv} (ok : SEnvOk E) {n : Nat} {f : FuncId} {args : List AV} {vs : Array Value} {I : Nat → Nat → Prop} {r : Value} {h' : Heap}
    (hc : scall E n f args [] = some (.lit r, h')) (w : World) (hI : ∀ b o, I b o → ∃ u, w.cell? ⟨b, o, none⟩ = some u) (hgl : GlobV E.gl ⟨fun _ => (0, 0), I⟩ [] w) (hlen : args.length = vs.size)
    (hv : ∀ (i : Nat) (c : AV) (v : Value), args[i]? = some c → vs[i]? = some v → VD I w c v) : Calls E.P f vs w fun e w' => e = .returned r ∧ Below w.heap.size w w' := by
  refine (scall_ok ok n f _ [] _ _ hc ⟨fun _ => (0, 0), I⟩ w vs (R.nil _ hI) hgl (by simpa using hlen) fun i c v hc hvv => .deep (hv i c v hc hvv)).mono ?_
  rintro e w' ⟨v, g', rfl, hv, hp, hr⟩
  exact ⟨by rw [hv.lit_eq], hp.below⟩

end Go.Proofs.Ytcajleckiegffaa
