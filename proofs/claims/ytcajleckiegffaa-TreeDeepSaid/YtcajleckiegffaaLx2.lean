import Derived.Test.YtcajleckiegffaaLx1
namespace Go.Proofs.Ytcajleckiegffaa
set_option linter.unusedSimpArgs false
set_option linter.unusedVariables false
open Go.Am
set_option maxRecDepth 100000

theorem escF_range (l : List UInt8) : 0 ≤ (escF l).1 ∧ (escF l).1 < 256 ∧ 0 ≤ (escF l).2 ∧ (escF l).2 ≤ 3 ∧ ((escF l).2 ≤ l.length) := by
  have hb := hexD_lt
  match l with
  | [] => simp [escF]
  | c :: r =>
    have hc := c.toNat_lt
    by_cases h1 : c.toNat = 34 ∨ c.toNat = 92
    · simp only [escF, if_pos h1, List.length_cons]; omega
    by_cases h2 : c.toNat = 110
    · simp only [escF, if_neg h1, if_pos h2, List.length_cons]; omega
    by_cases h3 : c.toNat = 120
    · match r with
      | [] => simp only [escF, if_neg h1, if_neg h2, if_pos h3, List.length_cons]; omega
      | [a] => simp only [escF, if_neg h1, if_neg h2, if_pos h3, List.length_cons]; omega
      | a :: b :: r' =>
        have := hb a; have := hb b
        by_cases h4 : 0 ≤ hexD a ∧ 0 ≤ hexD b
        · simp only [escF, if_neg h1, if_neg h2, if_pos h3, if_pos h4, List.length_cons]; omega
        · simp only [escF, if_neg h1, if_neg h2, if_pos h3, if_neg h4, List.length_cons]; omega
    · simp only [escF, if_neg h1, if_neg h2, if_neg h3, List.length_cons]; omega
def escB (l : List UInt8) : UInt8 := UInt8.ofNat (escF l).1.toNat
theorem escB_eq (l : List UInt8) : ((escB l).toNat : Int) = (escF l).1 := by
  have := escF_range l
  unfold escB
  rw [UInt8.toNat_ofNat_of_lt' (by simp [UInt8.size]; omega)]
  omega

structure Tok where
  kind : Nat
  place : Nat
  text : List UInt8

def tokAV (t : Tok) : AV := .agg [.lit (.int .i64 t.kind), .lit (.int .i64 t.place), .lit (.string ⟨⟨t.text⟩⟩)]
def byteAV (c : UInt8) : AV := .lit (.int .u8 c.toNat)

structure LexR where
  toks : List Tok
  err : Nat
  pos : Nat

def spc (c : UInt8) : Bool := c.toNat = 9 || c.toNat = 10 || c.toNat = 13 || c.toNat = 32
def special (c : UInt8) : Bool := spc c || c.toNat = 59 || c.toNat = 40 || c.toNat = 41 || c.toNat = 34

/-- Split's states. -/
def lexM (s : List UInt8) : Nat → Nat → Nat → Nat → List UInt8 → List Tok → Option LexR
  | 0, _, _, _, _, _ => none
  | k + 1, 0, i, _, text, acc => match s[i]? with
    | none => some ⟨acc, 0, 0⟩
    | some c => if spc c then lexM s k 0 (i + 1) i text acc
      else if c.toNat = 59 then lexM s k 1 i i text acc
      else if c.toNat = 40 then lexM s k 0 (i + 1) i text (acc ++ [⟨1, i, []⟩])
      else if c.toNat = 41 then lexM s k 0 (i + 1) i text (acc ++ [⟨2, i, []⟩])
      else if c.toNat = 34 then lexM s k 2 (i + 1) i [] acc
      else lexM s k 3 i i text acc
  | k + 1, 1, i, fr, text, acc => match s[i]? with
    | none => lexM s k 0 i fr text acc
    | some c => if c.toNat = 10 then lexM s k 0 i fr text acc else lexM s k 1 (i + 1) fr text acc
  | k + 1, 2, i, fr, text, acc => match s[i]? with
    | none => some ⟨[], 10, fr⟩
    | some c => if c.toNat = 34 then (if 200 < text.length then some ⟨[], 3, fr⟩ else lexM s k 0 (i + 1) fr text (acc ++ [⟨4, fr, text⟩]))
      else if c.toNat = 92 then (if (escF (s.drop (i + 1))).2 = 0 then some ⟨[], 12, i⟩ else lexM s k 2 (i + (1 + (escF (s.drop (i + 1))).2.toNat)) fr (text ++ [escB (s.drop (i + 1))]) acc)
      else if c.toNat < 32 ∨ 126 < c.toNat then some ⟨[], 12, i⟩
      else lexM s k 2 (i + 1) fr (text ++ [c]) acc
  | k + 1, 3, i, fr, text, acc => match s[i]? with
    | none => lexM s k 0 i fr text (acc ++ [⟨3, fr, (s.drop fr).take (i - fr)⟩])
    | some c => if special c then lexM s k 0 i fr text (acc ++ [⟨3, fr, (s.drop fr).take (i - fr)⟩])
      else if c.toNat < 33 ∨ 126 < c.toNat then some ⟨[], 12, i⟩
      else lexM s k 3 (i + 1) fr text acc
  | _ + 1, _, _, _, _, _ => none

def idxSp (c : UInt8) : Int := if special c then 1 else -1

structure LexCall (call : CallF) : Prop where
  hex : ∀ (c : UInt8) h, call 21 [.lit (.string ⟨⟨[48, 49, 50, 51, 52, 53, 54, 55, 56, 57, 97, 98, 99, 100, 101, 102]⟩⟩), .lit (.int .u8 c.toNat)] h = some (.lit (.int .i64 (hexD c)), h)
  sp : ∀ (c : UInt8) h, ∃ n : Int, call 21 [.lit (.string ⟨⟨[9, 10, 13, 32, 59, 40, 41, 34]⟩⟩), .lit (.int .u8 c.toNat)] h = some (.lit (.int .i64 n), h) ∧ (0 ≤ n ↔ special c = true)
  esc : ∀ l h, call 20 [.lit (.string ⟨⟨l⟩⟩)] h = some (.tup [.lit (.int .u8 (escF l).1), .lit (.int .i64 (escF l).2)], h)

theorem bytes_map (l : List UInt8) : bytesOf (l.map byteAV) = some l := by
  induction l with
  | nil => rfl
  | cons c l ih =>
    simp only [List.map_cons, byteAV, bytesOf]
    rw [show bytesOf (l.map byteAV) = some l from ih]
    simp

theorem own_b2s {h : Heap} {v : AV} {l : List UInt8} {o : Option Nat} (w : OwnS h v 1 (l.map byteAV) o) : b2sX v h = some (.lit (.string ⟨⟨l⟩⟩)) := by
  cases o with
  | none =>
    obtain ⟨rfl, he⟩ := w
    have : l = [] := by simpa using he
    subst this; rfl
  | some id =>
    obtain ⟨rfl, hid⟩ := w
    simp only [b2sX, elemsOf, hid]
    rw [if_pos ⟨trivial, by simp⟩]
    rw [List.drop_zero, List.take_of_length_le (by simp)]
    show Option.map _ (bytesOf (l.map byteAV)) = _
    rw [bytes_map]; rfl

theorem ltSize (s : List UInt8) (hs : s.length ≤ 8192) (i : Nat) (c : UInt8) (h : s[i]? = some c) : i < s.length := (List.getElem?_eq_some_iff.1 h).1

theorem push_tok {h : Heap} {v5 : AV} {acc : List Tok} {o5 : Option Nat} (w5 : OwnS h v5 3 (acc.map tokAV) o5) (hac : acc.length ≤ 1000000000001) (kd p : Nat) (t : List UInt8) (kdI : Int) (hk : kdI = kd) (k : AV → Heap → Res) :
    (opt (buildX [(.lit (.int .i64 0)), (.lit (.int .i64 0)), (.lit (.string ⟨⟨[]⟩⟩))] [(0, 1), (1, 1), (2, 1)] [(0, (.lit (.int .i64 kdI))), (1, (.lit (.int .i64 p))), (2, (.lit (.string ⟨⟨t⟩⟩)))]) fun x =>
      opt2 (bsliceX 3 (.agg [(.lit (.int .i64 0)), (.lit (.int .i64 0)), (.lit (.string ⟨⟨[]⟩⟩))]) 1 [(0, x)] h) fun y h1 => opt2 (appendX 3 32 v5 y h1) k) =
    k (.sl h.length 0 ((acc ++ [(⟨kd, p, t⟩ : Tok)]).map tokAV).length false) (kill h o5 ++ [.arr ⟨3, true, false, (acc ++ [(⟨kd, p, t⟩ : Tok)]).map tokAV⟩]) := by
  subst hk
  have hb : buildX [(.lit (.int .i64 0)), (.lit (.int .i64 0)), (.lit (.string ⟨⟨[]⟩⟩))] [(0, 1), (1, 1), (2, 1)] [(0, (.lit (.int .i64 kd))), (1, (.lit (.int .i64 p))), (2, (.lit (.string ⟨⟨t⟩⟩)))] = some (tokAV ⟨kd, p, t⟩) := rfl
  have hsl : bsliceX 3 (.agg [(.lit (.int .i64 0)), (.lit (.int .i64 0)), (.lit (.string ⟨⟨[]⟩⟩))]) 1 [(0, tokAV ⟨kd, p, t⟩)] h = some (.isl 3 true [tokAV ⟨kd, p, t⟩], h) := bslice_one rfl rfl rfl
  have ha := w5.append (bytes := 32) (f := true) (ys := [tokAV ⟨kd, p, t⟩]) (by simp) (by simp; omega)
  rw [hb, opt_s, hsl, opt2_s, ha, opt2_s]
  simp

theorem push_byte {h : Heap} {v : AV} {l : List UInt8} {o : Option Nat} (w : OwnS h v 1 (l.map byteAV) o) (hl : l.length ≤ 1000000000001) (c : UInt8) (n : Int) (hn : n = c.toNat) (k : AV → Heap → Res) :
    (opt2 (bsliceX 1 (.lit (.int .u8 0)) 1 [(0, .lit (.int .u8 n))] h) fun y h1 => opt2 (appendX 1 1 v y h1) k) =
    k (.sl h.length 0 ((l ++ [c]).map byteAV).length false) (kill h o ++ [.arr ⟨1, true, false, (l ++ [c]).map byteAV⟩]) := by
  subst hn
  have hsl : bsliceX 1 (.lit (.int .u8 0)) 1 [(0, .lit (.int .u8 c.toNat))] h = some (.isl 1 true [byteAV c], h) := bslice_one rfl rfl rfl
  have ha := w.append (bytes := 1) (f := true) (ys := [byteAV c]) (by simp) (by simp; omega)
  rw [hsl, opt2_s, ha, opt2_s]
  simp

def SplitAt (call : CallF) (s : List UInt8) (k lab i fr : Nat) (text : List UInt8) (acc : List Tok) (R : LexR) : Prop :=
  i ≤ s.length → fr ≤ i → acc.length + k ≤ 1000000000001 → text.length + k ≤ 1000000000001 →
      ∀ (v5 v6 : AV) (o5 o6 : Option Nat) (h : Heap), OwnS h v5 3 (acc.map tokAV) o5 → OwnS h v6 1 (text.map byteAV) o6 → (∀ id, o5 = some id → o6 ≠ some id) →
      ∃ v h' o, S10_0g call k lab (.lit (.string ⟨⟨s⟩⟩)) v5 v6 (.lit (.int .i64 i)) (.lit (.int .i64 fr)) h = some (.tup [v, .lit (.int .i64 R.err), .lit (.int .i64 R.pos)], h') ∧ OwnS h' v 3 (R.toks.map tokAV) o

theorem fin_ok (h : Heap) (e p : Nat) : ∃ v h' o, (some (AV.tup [.lit (.slice none 0 0), .lit (.int .i64 e), .lit (.int .i64 p)], h) : Res) = some (.tup [v, .lit (.int .i64 (⟨[], e, p⟩ : LexR).err), .lit (.int .i64 (⟨[], e, p⟩ : LexR).pos)], h') ∧ OwnS h' v 3 ((⟨[], e, p⟩ : LexR).toks.map tokAV) o :=
  ⟨_, h, none, rfl, rfl, rfl⟩

theorem split_0 {call : CallF} (C : LexCall call) {s : List UInt8} (hs : s.length ≤ 8192) {k : Nat} (ih : ∀ lab i fr text acc R, lexM s k lab i fr text acc = some R → SplitAt call s k lab i fr text acc R)
    {i fr : Nat} {text : List UInt8} {acc : List Tok} {R : LexR} (hR : lexM s (k + 1) 0 i fr text acc = some R) : SplitAt call s (k + 1) 0 i fr text acc R := by
  intro hi hfr hac htx v5 v6 o5 o6 h w5 w6 hne
  have hw : fastWrap .i64 ((i : Int) + 1) = ((i + 1 : Nat) : Int) := by rw [wrap64 (by omega) (by omega)]; rfl
  have hix : ∀ c, s[i]? = some c → i < s.length := fun c h => ltSize s hs i c h
  have fin := fin_ok h
  simp only [lexM] at hR
  cases hc : s[i]? with
  | none =>
    rw [hc] at hR
    cases hR
    have : i = s.length := by have := List.getElem?_eq_none_iff.1 hc; omega
    subst this
    refine ⟨v5, h, o5, ?_, w5⟩
    simp only [S10_0g, S10_7L0_, S10_6, opt_s, opt_n, opt2_s, opt2_n, optH_s, test_b, eqK_s, eqH_s, fb_add, fb_sub, fb_mul, fb_eql, fb_neq, fb_lss, fb_leq, fb_gtr, fb_geq, fb_eqls, fb_neqs, not_b, pick_b, convI_i, lenStr_s, lenS_isl, lenS_sl, lenS_nil, extract_tup, decide_eq_true_eq, if_true, if_false, Bool.false_eq_true, decide_false, decide_true, Option.map_some, Option.map_none, ceq, clt1, clt2, cle1, cle2]
    rfl
  | some c =>
    rw [hc] at hR
    simp only at hR
    have hlt := hix c hc
    have hnl : ¬ ((i : Int) = s.length) := by omega
    simp only [S10_0g, S10_7L0_, S10_6, S10_5, S10_4, S10_3, opt_s, opt_n, opt2_s, opt2_n, optH_s, test_b, eqK_s, eqH_s, fb_add, fb_sub, fb_mul, fb_eql, fb_neq, fb_lss, fb_leq, fb_gtr, fb_geq, fb_eqls, fb_neqs, not_b, pick_b, convI_i, lenStr_s, lenS_isl, lenS_sl, lenS_nil, extract_tup, decide_eq_true_eq, if_true, if_false, Bool.false_eq_true, decide_false, decide_true, Option.map_some, Option.map_none, ceq, clt1, clt2, cle1, cle2, hnl, ix_str (Int.natCast_nonneg i), Int.toNat_natCast, hc]
    have rest : spc c = false → ∃ v h' o, S10_2 call (S10_0g call k) (.lit (.string ⟨⟨s⟩⟩)) v5 v6 (.lit (.int .i64 i)) (.lit (.int .i64 i)) (.lit (.int .u8 c.toNat)) (.lit (.bool false)) h = some (.tup [v, .lit (.int .i64 R.err), .lit (.int .i64 R.pos)], h') ∧ OwnS h' v 3 (R.toks.map tokAV) o := by
      intro hsp
      rw [if_neg (by simp [hsp])] at hR
      simp only [S10_2, opt_s, opt_n, opt2_s, opt2_n, optH_s, test_b, eqK_s, eqH_s, fb_add, fb_sub, fb_mul, fb_eql, fb_neq, fb_lss, fb_leq, fb_gtr, fb_geq, fb_eqls, fb_neqs, not_b, pick_b, convI_i, lenStr_s, lenS_isl, lenS_sl, lenS_nil, extract_tup, decide_eq_true_eq, if_true, if_false, Bool.false_eq_true, decide_false, decide_true, Option.map_some, Option.map_none, ceq, clt1, clt2, cle1, cle2]
      by_cases h59 : c.toNat = 59
      · rw [if_pos h59] at hR ⊢
        exact ih 1 _ i text acc R hR (by omega) (by omega) (by omega) (by omega) v5 v6 o5 o6 h w5 w6 hne
      rw [if_neg h59] at hR ⊢
      by_cases h40 : c.toNat = 40
      · rw [if_pos h40] at hR ⊢
        rw [push_tok w5 (by omega) 1 i [] 1 rfl, hw]
        exact ih 0 _ i text _ R hR (by omega) (by omega) (by simp; omega) (by omega) _ v6 _ o6 _ OwnS.appended (w6.keep (fun id e => (fun e2 => hne _ e2 e)) _) (fun id e e2 => by cases e; subst e2; have := w6.lt; omega)
      rw [if_neg h40] at hR ⊢
      by_cases h41 : c.toNat = 41
      · rw [if_pos h41] at hR ⊢
        rw [push_tok w5 (by omega) 2 i [] 2 rfl, hw]
        exact ih 0 _ i text _ R hR (by omega) (by omega) (by simp; omega) (by omega) _ v6 _ o6 _ OwnS.appended (w6.keep (fun id e => (fun e2 => hne _ e2 e)) _) (fun id e e2 => by cases e; subst e2; have := w6.lt; omega)
      rw [if_neg h41] at hR ⊢
      by_cases h34 : c.toNat = 34
      · rw [if_pos h34] at hR ⊢
        rw [hw]
        exact ih 2 _ i [] acc R hR (by omega) (by omega) (by omega) (by simp; omega) v5 _ o5 none h w5 ⟨rfl, rfl⟩ (fun id e e2 => by cases e2)
      rw [if_neg h34] at hR ⊢
      exact ih 3 _ i text acc R hR (by omega) (by omega) (by omega) (by omega) v5 v6 o5 o6 h w5 w6 hne
    have yes : spc c = true → ∃ v h' o, S10_2 call (S10_0g call k) (.lit (.string ⟨⟨s⟩⟩)) v5 v6 (.lit (.int .i64 i)) (.lit (.int .i64 i)) (.lit (.int .u8 c.toNat)) (.lit (.bool true)) h = some (.tup [v, .lit (.int .i64 R.err), .lit (.int .i64 R.pos)], h') ∧ OwnS h' v 3 (R.toks.map tokAV) o := by
      intro hsp
      rw [if_pos hsp] at hR
      simp only [S10_2, opt_s, opt_n, opt2_s, opt2_n, optH_s, test_b, eqK_s, eqH_s, fb_add, fb_sub, fb_mul, fb_eql, fb_neq, fb_lss, fb_leq, fb_gtr, fb_geq, fb_eqls, fb_neqs, not_b, pick_b, convI_i, lenStr_s, lenS_isl, lenS_sl, lenS_nil, extract_tup, decide_eq_true_eq, if_true, if_false, Bool.false_eq_true, decide_false, decide_true, Option.map_some, Option.map_none, ceq, clt1, clt2, cle1, cle2, hw]
      exact ih 0 _ i text acc R hR (by omega) (by omega) (by omega) (by omega) v5 v6 o5 o6 h w5 w6 hne
    by_cases h9 : c.toNat = 9
    · rw [if_pos h9]; exact yes (by simp [spc, h9])
    rw [if_neg h9]
    by_cases h10 : c.toNat = 10
    · rw [if_pos h10]; exact yes (by simp [spc, h10])
    rw [if_neg h10]
    by_cases h13 : c.toNat = 13
    · rw [if_pos h13]; exact yes (by simp [spc, h13])
    rw [if_neg h13]
    by_cases h32 : c.toNat = 32
    · simp only [h32, decide_true]; exact h32 ▸ yes (by simp [spc, h32])
    simp only [h32, decide_false]
    exact rest (by simp [spc, h9, h10, h13, h32])

theorem split_1 {call : CallF} (C : LexCall call) {s : List UInt8} (hs : s.length ≤ 8192) {k : Nat} (ih : ∀ lab i fr text acc R, lexM s k lab i fr text acc = some R → SplitAt call s k lab i fr text acc R)
    {i fr : Nat} {text : List UInt8} {acc : List Tok} {R : LexR} (hR : lexM s (k + 1) 1 i fr text acc = some R) : SplitAt call s (k + 1) 1 i fr text acc R := by
  intro hi hfr hac htx v5 v6 o5 o6 h w5 w6 hne
  have hw : fastWrap .i64 ((i : Int) + 1) = ((i + 1 : Nat) : Int) := by rw [wrap64 (by omega) (by omega)]; rfl
  have hix : ∀ c, s[i]? = some c → i < s.length := fun c h => ltSize s hs i c h
  have fin := fin_ok h
  simp only [lexM] at hR
  cases hc : s[i]? with
  | none =>
    rw [hc] at hR
    have : i = s.length := by have := List.getElem?_eq_none_iff.1 hc; omega
    subst this
    have := ih 0 _ fr text acc R hR (Nat.le_refl _) hfr (by omega) (by omega) v5 v6 o5 o6 h w5 w6 hne
    simp only [S10_0g, S10_11L1_, S10_10, S10_9, S10_8, opt_s, opt_n, opt2_s, opt2_n, optH_s, test_b, eqK_s, eqH_s, fb_add, fb_sub, fb_mul, fb_eql, fb_neq, fb_lss, fb_leq, fb_gtr, fb_geq, fb_eqls, fb_neqs, not_b, pick_b, convI_i, lenStr_s, lenS_isl, lenS_sl, lenS_nil, extract_tup, decide_eq_true_eq, if_true, if_false, Bool.false_eq_true, decide_false, decide_true, Option.map_some, Option.map_none, ceq, clt1, clt2, cle1, cle2, Int.lt_irrefl]
    exact this
  | some c =>
    rw [hc] at hR
    simp only at hR
    have hlt := hix c hc
    have hnl : ((i : Int) < s.length) := by omega
    simp only [S10_0g, S10_11L1_, S10_10, S10_9, S10_8, opt_s, opt_n, opt2_s, opt2_n, optH_s, test_b, eqK_s, eqH_s, fb_add, fb_sub, fb_mul, fb_eql, fb_neq, fb_lss, fb_leq, fb_gtr, fb_geq, fb_eqls, fb_neqs, not_b, pick_b, convI_i, lenStr_s, lenS_isl, lenS_sl, lenS_nil, extract_tup, decide_eq_true_eq, if_true, if_false, Bool.false_eq_true, decide_false, decide_true, Option.map_some, Option.map_none, ceq, clt1, clt2, cle1, cle2, hnl, ix_str (Int.natCast_nonneg i), Int.toNat_natCast, hc]
    by_cases h10 : c.toNat = 10
    · rw [if_pos h10] at hR
      rw [if_neg (by simpa [ceq] using h10)]
      exact ih 0 _ fr text acc R hR hi hfr (by omega) (by omega) v5 v6 o5 o6 h w5 w6 hne
    · rw [if_neg h10] at hR
      rw [if_pos (by simpa [ceq] using h10), hw]
      exact ih 1 _ fr text acc R hR (by omega) (by omega) (by omega) (by omega) v5 v6 o5 o6 h w5 w6 hne

theorem split_2q {call : CallF} (C : LexCall call) {s : List UInt8} (hs : s.length ≤ 8192) {k : Nat} (ih : ∀ lab i fr text acc R, lexM s k lab i fr text acc = some R → SplitAt call s k lab i fr text acc R)
    {i fr : Nat} {text : List UInt8} {acc : List Tok} {R : LexR} {c : UInt8} (hc : s[i]? = some c) (h34 : c.toNat = 34) (hR : lexM s (k + 1) 2 i fr text acc = some R) : SplitAt call s (k + 1) 2 i fr text acc R := by
  intro hi hfr hac htx v5 v6 o5 o6 h w5 w6 hne
  have hw : fastWrap .i64 ((i : Int) + 1) = ((i + 1 : Nat) : Int) := by rw [wrap64 (by omega) (by omega)]; rfl
  have hix : ∀ c, s[i]? = some c → i < s.length := fun c h => ltSize s hs i c h
  have fin := fin_ok h
  simp only [lexM] at hR
  rw [hc] at hR
  simp only at hR
  have hlt := hix c hc
  have hnl : ¬ ((i : Int) = s.length) := by omega
  simp only [S10_0g, S10_21L2_, S10_20, lenStr_s, opt_s, fb_eql, test_b, hnl, decide_false, Bool.false_eq_true, if_false, S10_19, S10_18, S10_17, ix_str (Int.natCast_nonneg i), Int.toNat_natCast, hc, Option.map_some, ceq, decide_eq_true_eq]
  rw [if_pos h34] at hR ⊢
  rw [w6.len]
  simp only [opt_s, opt_n, opt2_s, opt2_n, optH_s, test_b, eqK_s, eqH_s, fb_add, fb_sub, fb_mul, fb_eql, fb_neq, fb_lss, fb_leq, fb_gtr, fb_geq, fb_eqls, fb_neqs, not_b, pick_b, convI_i, lenStr_s, lenS_isl, lenS_sl, lenS_nil, extract_tup, decide_eq_true_eq, if_true, if_false, Bool.false_eq_true, decide_false, decide_true, Option.map_some, Option.map_none, ceq, clt1, clt2, cle1, cle2, List.length_map]
  by_cases h200 : 200 < text.length
  · rw [if_pos h200] at hR ⊢
    cases hR
    exact fin 3 fr
  · rw [if_neg h200] at hR ⊢
    rw [own_b2s w6, opt_s, push_tok w5 (by omega) 4 fr text 4 rfl, hw]
    clear h200
    exact ih 0 _ fr text _ R hR (by omega) (by omega) (by simp; omega) (by omega) _ v6 _ o6 _ OwnS.appended (w6.keep (fun id e => (fun e2 => hne _ e2 e)) _) (fun id e e2 => by cases e; subst e2; have := w6.lt; omega)

theorem split_2e {call : CallF} (C : LexCall call) {s : List UInt8} (hs : s.length ≤ 8192) {k : Nat} (ih : ∀ lab i fr text acc R, lexM s k lab i fr text acc = some R → SplitAt call s k lab i fr text acc R)
    {i fr : Nat} {text : List UInt8} {acc : List Tok} {R : LexR} {c : UInt8} (hc : s[i]? = some c) (h34 : ¬ c.toNat = 34) (h92 : c.toNat = 92) (hR : lexM s (k + 1) 2 i fr text acc = some R) : SplitAt call s (k + 1) 2 i fr text acc R := by
  intro hi hfr hac htx v5 v6 o5 o6 h w5 w6 hne
  have hw : fastWrap .i64 ((i : Int) + 1) = ((i + 1 : Nat) : Int) := by rw [wrap64 (by omega) (by omega)]; rfl
  have hix : ∀ c, s[i]? = some c → i < s.length := fun c h => ltSize s hs i c h
  have fin := fin_ok h
  simp only [lexM] at hR
  rw [hc] at hR
  simp only at hR
  have hlt := hix c hc
  have hnl : ¬ ((i : Int) = s.length) := by omega
  simp only [S10_0g, S10_21L2_, S10_20, lenStr_s, opt_s, fb_eql, test_b, hnl, decide_false, Bool.false_eq_true, if_false, S10_19, S10_18, S10_17, ix_str (Int.natCast_nonneg i), Int.toNat_natCast, hc, Option.map_some, ceq, decide_eq_true_eq]
  rw [if_neg h34] at hR ⊢
  simp only [S10_16, S10_15, fb_eql, opt_s, test_b, ceq, decide_eq_true_eq]
  rw [if_pos h92] at hR ⊢
  rw [fb_add, opt_s, hw, cut_from (Int.natCast_nonneg _) (by omega), opt_s, Int.toNat_natCast, C.esc]
  have er := escF_range (s.drop (i + 1))
  rw [List.length_drop] at er
  simp only [opt_s, opt_n, opt2_s, opt2_n, optH_s, test_b, eqK_s, eqH_s, fb_add, fb_sub, fb_mul, fb_eql, fb_neq, fb_lss, fb_leq, fb_gtr, fb_geq, fb_eqls, fb_neqs, not_b, pick_b, convI_i, lenStr_s, lenS_isl, lenS_sl, lenS_nil, extract_tup, decide_eq_true_eq, if_true, if_false, Bool.false_eq_true, decide_false, decide_true, Option.map_some, Option.map_none, ceq, clt1, clt2, cle1, cle2, List.getElem?_cons_zero, List.getElem?_cons_succ]
  by_cases h0 : (escF (s.drop (i + 1))).2 = 0
  · rw [if_pos h0] at hR ⊢
    cases hR
    exact fin 12 i
  · rw [if_neg h0] at hR ⊢
    rw [push_byte w6 (by omega) (escB (s.drop (i + 1))) _ (escB_eq _).symm]
    rw [wrap64 (n := 1 + (escF (s.drop (i + 1))).2) (by omega) (by omega)]
    rw [show fastWrap .i64 ((i : Int) + (1 + (escF (s.drop (i + 1))).2)) = ((i + (1 + (escF (s.drop (i + 1))).2.toNat) : Nat) : Int) by rw [wrap64 (by omega) (by omega)]; omega]
    simp only [S10_12]
    exact ih 2 _ fr _ acc R hR (by omega) (by omega) (by omega) (by simp; omega) v5 _ o5 _ _ (w5.keep (fun id e e2 => hne id e e2) _) OwnS.appended (fun id e e2 => by cases e2; subst e; have := w5.lt; omega)

theorem split_2o {call : CallF} (C : LexCall call) {s : List UInt8} (hs : s.length ≤ 8192) {k : Nat} (ih : ∀ lab i fr text acc R, lexM s k lab i fr text acc = some R → SplitAt call s k lab i fr text acc R)
    {i fr : Nat} {text : List UInt8} {acc : List Tok} {R : LexR} {c : UInt8} (hc : s[i]? = some c) (h34 : ¬ c.toNat = 34) (h92 : ¬ c.toNat = 92) (hR : lexM s (k + 1) 2 i fr text acc = some R) : SplitAt call s (k + 1) 2 i fr text acc R := by
  intro hi hfr hac htx v5 v6 o5 o6 h w5 w6 hne
  have hw : fastWrap .i64 ((i : Int) + 1) = ((i + 1 : Nat) : Int) := by rw [wrap64 (by omega) (by omega)]; rfl
  have hix : ∀ c, s[i]? = some c → i < s.length := fun c h => ltSize s hs i c h
  have fin := fin_ok h
  simp only [lexM] at hR
  rw [hc] at hR
  simp only at hR
  have hlt := hix c hc
  have hnl : ¬ ((i : Int) = s.length) := by omega
  simp only [S10_0g, S10_21L2_, S10_20, lenStr_s, opt_s, fb_eql, test_b, hnl, decide_false, Bool.false_eq_true, if_false, S10_19, S10_18, S10_17, ix_str (Int.natCast_nonneg i), Int.toNat_natCast, hc, Option.map_some, ceq, decide_eq_true_eq]
  rw [if_neg h34] at hR ⊢
  simp only [S10_16, S10_15, fb_eql, opt_s, test_b, ceq, decide_eq_true_eq]
  rw [if_neg h92] at hR ⊢
  simp only [S10_14, S10_13, opt_s, opt_n, opt2_s, opt2_n, optH_s, test_b, eqK_s, eqH_s, fb_add, fb_sub, fb_mul, fb_eql, fb_neq, fb_lss, fb_leq, fb_gtr, fb_geq, fb_eqls, fb_neqs, not_b, pick_b, convI_i, lenStr_s, lenS_isl, lenS_sl, lenS_nil, extract_tup, decide_eq_true_eq, if_true, if_false, Bool.false_eq_true, decide_false, decide_true, Option.map_some, Option.map_none, ceq, clt1, clt2, cle1, cle2]
  by_cases h32 : c.toNat < 32
  · rw [if_pos (.inl h32)] at hR
    rw [if_pos h32]
    cases hR
    exact fin 12 i
  rw [if_neg h32]
  by_cases h126 : 126 < c.toNat
  · rw [if_pos (.inr h126)] at hR
    rw [if_pos h126]
    cases hR
    exact fin 12 i
  rw [if_neg (by omega)] at hR
  rw [if_neg h126, push_byte w6 (by omega) c _ rfl, hw]
  simp only [S10_12]
  exact ih 2 _ fr _ acc R hR (by omega) (by omega) (by omega) (by simp; omega) v5 _ o5 _ _ (w5.keep (fun id e e2 => hne id e e2) _) OwnS.appended (fun id e e2 => by cases e2; subst e; have := w5.lt; omega)


theorem split_2 {call : CallF} (C : LexCall call) {s : List UInt8} (hs : s.length ≤ 8192) {k : Nat} (ih : ∀ lab i fr text acc R, lexM s k lab i fr text acc = some R → SplitAt call s k lab i fr text acc R)
    {i fr : Nat} {text : List UInt8} {acc : List Tok} {R : LexR} (hR : lexM s (k + 1) 2 i fr text acc = some R) : SplitAt call s (k + 1) 2 i fr text acc R := by
  intro hi hfr hac htx v5 v6 o5 o6 h w5 w6 hne
  have hw : fastWrap .i64 ((i : Int) + 1) = ((i + 1 : Nat) : Int) := by rw [wrap64 (by omega) (by omega)]; rfl
  have hix : ∀ c, s[i]? = some c → i < s.length := fun c h => ltSize s hs i c h
  have fin := fin_ok h
  have hR0 := hR
  simp only [lexM] at hR
  cases hc : s[i]? with
  | none =>
    rw [hc] at hR
    cases hR
    have : i = s.length := by have := List.getElem?_eq_none_iff.1 hc; omega
    subst this
    simp only [S10_0g, S10_21L2_, S10_20, opt_s, opt_n, opt2_s, opt2_n, optH_s, test_b, eqK_s, eqH_s, fb_add, fb_sub, fb_mul, fb_eql, fb_neq, fb_lss, fb_leq, fb_gtr, fb_geq, fb_eqls, fb_neqs, not_b, pick_b, convI_i, lenStr_s, lenS_isl, lenS_sl, lenS_nil, extract_tup, decide_eq_true_eq, if_true, if_false, Bool.false_eq_true, decide_false, decide_true, Option.map_some, Option.map_none, ceq, clt1, clt2, cle1, cle2]
    exact fin 10 fr
  | some c =>
    by_cases h34 : c.toNat = 34
    · exact split_2q C hs ih hc h34 hR0 hi hfr hac htx v5 v6 o5 o6 h w5 w6 hne
    by_cases h92 : c.toNat = 92
    · exact split_2e C hs ih hc h34 h92 hR0 hi hfr hac htx v5 v6 o5 o6 h w5 w6 hne
    · exact split_2o C hs ih hc h34 h92 hR0 hi hfr hac htx v5 v6 o5 o6 h w5 w6 hne

theorem split_3 {call : CallF} (C : LexCall call) {s : List UInt8} (hs : s.length ≤ 8192) {k : Nat} (ih : ∀ lab i fr text acc R, lexM s k lab i fr text acc = some R → SplitAt call s k lab i fr text acc R)
    {i fr : Nat} {text : List UInt8} {acc : List Tok} {R : LexR} (hR : lexM s (k + 1) 3 i fr text acc = some R) : SplitAt call s (k + 1) 3 i fr text acc R := by
  intro hi hfr hac htx v5 v6 o5 o6 h w5 w6 hne
  have hw : fastWrap .i64 ((i : Int) + 1) = ((i + 1 : Nat) : Int) := by rw [wrap64 (by omega) (by omega)]; rfl
  have hix : ∀ c, s[i]? = some c → i < s.length := fun c h => ltSize s hs i c h
  have fin := fin_ok h
  simp only [lexM] at hR
  have done : lexM s k 0 i fr text (acc ++ [⟨3, fr, (s.drop fr).take (i - fr)⟩]) = some R → ∃ v h' o, S10_22 call (S10_0g call k) (.lit (.string ⟨⟨s⟩⟩)) v5 v6 (.lit (.int .i64 i)) (.lit (.int .i64 fr)) h = some (.tup [v, .lit (.int .i64 R.err), .lit (.int .i64 R.pos)], h') ∧ OwnS h' v 3 (R.toks.map tokAV) o := by
    intro hR
    simp only [S10_22]
    rw [cut_str (Int.natCast_nonneg _) (by omega) (by omega), opt_s, Int.toNat_natCast, Int.toNat_natCast, push_tok w5 (by omega) 3 fr _ 3 rfl]
    exact ih 0 _ fr text _ R hR hi hfr (by simp; omega) (by omega) _ v6 _ o6 _ OwnS.appended (w6.keep (fun id e => (fun e2 => hne _ e2 e)) _) (fun id e e2 => by cases e; subst e2; have := w6.lt; omega)
  cases hc : s[i]? with
  | none =>
    rw [hc] at hR
    have : i = s.length := by have := List.getElem?_eq_none_iff.1 hc; omega
    subst this
    simp only [S10_0g, S10_30L3_, S10_29, S10_28, opt_s, opt_n, opt2_s, opt2_n, optH_s, test_b, eqK_s, eqH_s, fb_add, fb_sub, fb_mul, fb_eql, fb_neq, fb_lss, fb_leq, fb_gtr, fb_geq, fb_eqls, fb_neqs, not_b, pick_b, convI_i, lenStr_s, lenS_isl, lenS_sl, lenS_nil, extract_tup, decide_eq_true_eq, if_true, if_false, Bool.false_eq_true, decide_false, decide_true, Option.map_some, Option.map_none, ceq, clt1, clt2, cle1, cle2, Int.lt_irrefl]
    exact done hR
  | some c =>
    rw [hc] at hR
    simp only at hR
    have hlt := hix c hc
    have hnl : ((i : Int) < s.length) := by omega
    obtain ⟨n, hn, hn2⟩ := C.sp c h
    simp only [S10_0g, S10_30L3_, S10_29, S10_28, S10_27, S10_26, S10_25, opt_s, opt_n, opt2_s, opt2_n, optH_s, test_b, eqK_s, eqH_s, fb_add, fb_sub, fb_mul, fb_eql, fb_neq, fb_lss, fb_leq, fb_gtr, fb_geq, fb_eqls, fb_neqs, not_b, pick_b, convI_i, lenStr_s, lenS_isl, lenS_sl, lenS_nil, extract_tup, decide_eq_true_eq, if_true, if_false, Bool.false_eq_true, decide_false, decide_true, Option.map_some, Option.map_none, ceq, clt1, clt2, cle1, cle2, hnl, ix_str (Int.natCast_nonneg i), Int.toNat_natCast, hc, hn]
    by_cases hsp : special c = true
    · rw [if_pos hsp] at hR
      rw [if_pos (hn2.2 hsp)]
      exact done hR
    rw [if_neg hsp] at hR
    rw [if_neg (fun e => hsp (hn2.1 e))]
    simp only [S10_24, S10_23, opt_s, opt_n, opt2_s, opt2_n, optH_s, test_b, eqK_s, eqH_s, fb_add, fb_sub, fb_mul, fb_eql, fb_neq, fb_lss, fb_leq, fb_gtr, fb_geq, fb_eqls, fb_neqs, not_b, pick_b, convI_i, lenStr_s, lenS_isl, lenS_sl, lenS_nil, extract_tup, decide_eq_true_eq, if_true, if_false, Bool.false_eq_true, decide_false, decide_true, Option.map_some, Option.map_none, ceq, clt1, clt2, cle1, cle2]
    by_cases h33 : c.toNat < 33
    · rw [if_pos (.inl h33)] at hR
      rw [if_pos h33]
      cases hR
      exact fin 12 i
    rw [if_neg h33]
    by_cases h126 : 126 < c.toNat
    · rw [if_pos (.inr h126)] at hR
      rw [if_pos h126]
      cases hR
      exact fin 12 i
    rw [if_neg (by omega)] at hR
    rw [if_neg h126, hw]
    exact ih 3 _ fr _ acc R hR (by omega) (by omega) (by omega) (by omega) v5 v6 o5 o6 h w5 w6 hne

theorem split_ok {call : CallF} (C : LexCall call) {s : List UInt8} (hs : s.length ≤ 8192) :
    ∀ (k lab i fr : Nat) (text : List UInt8) (acc : List Tok) (R : LexR), lexM s k lab i fr text acc = some R → SplitAt call s k lab i fr text acc R
  | 0, lab, i, fr, text, acc, R, hR => by simp [lexM] at hR
  | k + 1, 0, i, fr, text, acc, R, hR => split_0 C hs (split_ok C hs k) hR
  | k + 1, 1, i, fr, text, acc, R, hR => split_1 C hs (split_ok C hs k) hR
  | k + 1, 2, i, fr, text, acc, R, hR => split_2 C hs (split_ok C hs k) hR
  | k + 1, 3, i, fr, text, acc, R, hR => split_3 C hs (split_ok C hs k) hR
  | k + 1, lab + 4, i, fr, text, acc, R, hR => by simp [lexM] at hR

/-- Where a state stands: what is left of the text, and how it counts. -/
def lexLeft (s : List UInt8) (lab i fr : Nat) : Nat :=
  match lab with
  | 0 => 4 * (s.length - i) + 2
  | 2 => 4 * (s.length - i) + 1
  | _ => if i = fr then 4 * (s.length - i) + 1 else 4 * (s.length - i) + 4

theorem lexM_total (s : List UInt8) : ∀ (k lab i fr : Nat) (text : List UInt8) (acc : List Tok), lexLeft s lab i fr < k → lab < 4 → i ≤ s.length → fr ≤ i →
    (lab = 1 → i = fr → ∃ c, s[i]? = some c ∧ c.toNat = 59) → (lab = 3 → i = fr → ∃ c, s[i]? = some c ∧ special c = false) → ∃ R, lexM s k lab i fr text acc = some R := by
  intro k
  induction k with
  | zero => intro lab i fr text acc h; omega
  | succ k ih =>
    intro lab i fr text acc hl hlab hi hfr h1 h3
    have hix : ∀ c, s[i]? = some c → i < s.length := fun c h => (List.getElem?_eq_some_iff.1 h).1
    match lab, hlab with
    | 0, _ =>
      simp only [lexM]
      cases hc : s[i]? with
      | none => exact ⟨_, rfl⟩
      | some c =>
        have := hix c hc
        simp only [lexLeft] at hl
        simp only
        split
        · exact ih 0 _ _ _ _ (by simp only [lexLeft]; omega) (by omega) (by omega) (by omega) (by omega) (by omega)
        split
        · exact ih 1 _ _ _ _ (by simp only [lexLeft, if_pos]; omega) (by omega) (by omega) (by omega) (fun _ _ => ⟨c, hc, by assumption⟩) (by omega)
        split
        · exact ih 0 _ _ _ _ (by simp only [lexLeft]; omega) (by omega) (by omega) (by omega) (by omega) (by omega)
        split
        · exact ih 0 _ _ _ _ (by simp only [lexLeft]; omega) (by omega) (by omega) (by omega) (by omega) (by omega)
        split
        · exact ih 2 _ _ _ _ (by simp only [lexLeft]; omega) (by omega) (by omega) (by omega) (by omega) (by omega)
        · rename_i a1 a2 a3 a4 a5
          exact ih 3 _ _ _ _ (by simp only [lexLeft, if_pos]; omega) (by omega) (by omega) (by omega) (by omega) (fun _ _ => ⟨c, hc, by simp [special, a1, a2, a3, a4, a5]⟩)
    | 1, _ =>
      simp only [lexM]
      simp only [lexLeft] at hl
      cases hc : s[i]? with
      | none =>
        have hne : i ≠ fr := fun e => by obtain ⟨c, h2, _⟩ := h1 rfl e; rw [hc] at h2; cases h2
        rw [if_neg hne] at hl
        exact ih 0 _ _ _ _ (by simp only [lexLeft]; omega) (by omega) (by omega) (by omega) (by omega) (by omega)
      | some c =>
        have := hix c hc
        simp only
        split
        · rename_i h10
          have hne : i ≠ fr := fun e => by obtain ⟨c', h2, h5⟩ := h1 rfl e; rw [hc] at h2; cases h2; omega
          rw [if_neg hne] at hl
          exact ih 0 _ _ _ _ (by simp only [lexLeft]; omega) (by omega) (by omega) (by omega) (by omega) (by omega)
        · exact ih 1 _ _ _ _ (by simp only [lexLeft]; split at hl <;> split <;> omega) (by omega) (by omega) (by omega) (by omega) (by omega)
    | 2, _ =>
      simp only [lexM]
      simp only [lexLeft] at hl
      cases hc : s[i]? with
      | none => exact ⟨_, rfl⟩
      | some c =>
        have := hix c hc
        have er := escF_range (s.drop (i + 1))
        rw [List.length_drop] at er
        simp only
        split
        · split
          · exact ⟨_, rfl⟩
          · exact ih 0 _ _ _ _ (by simp only [lexLeft]; omega) (by omega) (by omega) (by omega) (by omega) (by omega)
        split
        · split
          · exact ⟨_, rfl⟩
          · exact ih 2 _ _ _ _ (by simp only [lexLeft]; omega) (by omega) (by omega) (by omega) (by omega) (by omega)
        split
        · exact ⟨_, rfl⟩
        · exact ih 2 _ _ _ _ (by simp only [lexLeft]; omega) (by omega) (by omega) (by omega) (by omega) (by omega)
    | 3, _ =>
      simp only [lexM]
      simp only [lexLeft] at hl
      cases hc : s[i]? with
      | none =>
        have hne : i ≠ fr := fun e => by obtain ⟨c, h2, _⟩ := h3 rfl e; rw [hc] at h2; cases h2
        rw [if_neg hne] at hl
        exact ih 0 _ _ _ _ (by simp only [lexLeft]; omega) (by omega) (by omega) (by omega) (by omega) (by omega)
      | some c =>
        have := hix c hc
        simp only
        split
        · rename_i hsp
          have hne : i ≠ fr := fun e => by obtain ⟨c', h2, h5⟩ := h3 rfl e; rw [hc] at h2; cases h2; rw [hsp] at h5; cases h5
          rw [if_neg hne] at hl
          exact ih 0 _ _ _ _ (by simp only [lexLeft]; omega) (by omega) (by omega) (by omega) (by omega) (by omega)
        split
        · exact ⟨_, rfl⟩
        · exact ih 3 _ _ _ _ (by simp only [lexLeft]; split at hl <;> split <;> omega) (by omega) (by omega) (by omega) (by omega) (by omega)
    | lab + 4, h => omega

/-- What Split answers. -/
noncomputable def splitF (s : List UInt8) : LexR := if 8192 < s.length then ⟨[], 3, 0⟩ else (lexM s (rounds + 1) 0 0 0 [] []).getD ⟨[], 0, 0⟩

theorem splitF_some {s : List UInt8} (h : s.length ≤ 8192) : lexM s (rounds + 1) 0 0 0 [] [] = some (splitF s) := by
  obtain ⟨R, hR⟩ := lexM_total s (rounds + 1) 0 0 0 [] [] (by simp only [lexLeft, rounds]; omega) (by omega) (by omega) (by omega) (by omega) (by omega)
  unfold splitF
  rw [if_neg (by omega), hR]; rfl

theorem F10_enter (call : CallF) (t : AV) (h : Heap) : S10_40 call t h = S10_0g call (rounds + 1) 0 t (.lit (.slice none 0 0)) (.lit (.slice none 0 0)) (.lit (.int .i64 (0 : Nat))) (.lit (.int .i64 (0 : Nat))) h := by kernel_rfl

theorem F10_ok {call : CallF} (C : LexCall call) (s : List UInt8) (h : Heap) : ∃ v h' o, F10 call (.lit (.string ⟨⟨s⟩⟩)) h = some (.tup [v, .lit (.int .i64 (splitF s).err), .lit (.int .i64 (splitF s).pos)], h') ∧ OwnS h' v 3 ((splitF s).toks.map tokAV) o := by
  simp only [F10, S10_41, opt_s, opt_n, opt2_s, opt2_n, optH_s, test_b, eqK_s, eqH_s, fb_add, fb_sub, fb_mul, fb_eql, fb_neq, fb_lss, fb_leq, fb_gtr, fb_geq, fb_eqls, fb_neqs, not_b, pick_b, convI_i, lenStr_s, lenS_isl, lenS_sl, lenS_nil, extract_tup, decide_eq_true_eq, if_true, if_false, Bool.false_eq_true, decide_false, decide_true, Option.map_some, Option.map_none, ceq, clt1, clt2, cle1, cle2]
  by_cases hs : 8192 < s.length
  · rw [if_pos hs]
    have : splitF s = ⟨[], 3, 0⟩ := if_pos hs
    rw [this]
    exact fin_ok h 3 0
  · rw [if_neg hs, F10_enter]
    exact split_ok C (by omega) _ 0 0 0 [] [] _ (splitF_some (by omega)) (by omega) (by omega) (by simp [rounds]) (by simp [rounds]) _ _ none none h ⟨rfl, rfl⟩ ⟨rfl, rfl⟩ (by simp)

end Go.Proofs.Ytcajleckiegffaa
