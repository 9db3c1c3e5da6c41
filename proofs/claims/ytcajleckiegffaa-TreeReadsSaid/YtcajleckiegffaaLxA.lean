import Derived.Test.YtcajleckiegffaaGLex
import Derived.Test.YtcajleckiegffaaAmX
import Derived.Test.YtcajleckiegffaaRows
import Derived.WalkKit
import Derived.ProofKit
import Derived.OpenShut
import Derived.ChangeMaps5
set_option linter.unusedSectionVars false
namespace Go.Proofs.Ytcajleckiegffaa
set_option linter.unusedSimpArgs false
set_option linter.unusedVariables false
open Go.Am
set_option maxRecDepth 100000

def hexD (c : UInt8) : Int := if 48 ≤ c.toNat ∧ c.toNat ≤ 57 then c.toNat - 48 else if 97 ≤ c.toNat ∧ c.toNat ≤ 102 then c.toNat - 87 else -1

def escF : List UInt8 → Int × Int
  | [] => (0, 0)
  | c :: r => if c.toNat = 34 ∨ c.toNat = 92 then (c.toNat, 1) else if c.toNat = 110 then (10, 1) else if c.toNat = 120 then
      match r with
      | a :: b :: _ => if 0 ≤ hexD a ∧ 0 ≤ hexD b then (hexD a * 16 + hexD b, 3) else (0, 0)
      | _ => (0, 0)
    else (0, 0)

theorem shlor_all : ((List.range 16).all fun x => (List.range 16).all fun y => match binX Try.prog .none .shl 3 (.lit (.int .i64 x)) (.lit (.int .u64 4)) with
    | some v => match binX Try.prog .none .or 3 v (.lit (.int .i64 y)) with
      | some (.lit (.int .i64 z)) => z == 16 * x + y
      | _ => false
    | _ => false) = true := by kernel_rfl

theorem shlor (x y : Int) (h0 : 0 ≤ x) (h1 : x < 16) (h2 : 0 ≤ y) (h3 : y < 16) (k : AV → Res) :
    (opt (binX Try.prog .none .shl 3 (.lit (.int .i64 x)) (.lit (.int .u64 4))) fun v => opt (binX Try.prog .none .or 3 v (.lit (.int .i64 y))) k) = k (.lit (.int .i64 (x * 16 + y))) := by
  obtain ⟨a, rfl⟩ := Int.eq_ofNat_of_zero_le h0
  obtain ⟨b, rfl⟩ := Int.eq_ofNat_of_zero_le h2
  have := List.all_eq_true.1 shlor_all a (List.mem_range.2 (by omega))
  have := List.all_eq_true.1 this b (List.mem_range.2 (by omega))
  split at this
  · rename_i v hv
    rw [hv]
    simp only [opt_s]
    split at this
    · rename_i z hz
      rw [hz]
      have := eq_of_beq this
      rw [this]
      simp only [opt_s]
      congr 3
      omega
    · cases this
  · cases this

theorem hexD_lt (c : UInt8) : hexD c < 16 ∧ -1 ≤ hexD c := by unfold hexD; split <;> (try split) <;> omega

theorem esc_ok (call : CallF) (hc : ∀ (c : UInt8) h, call 21 [.lit (.string ⟨⟨[48, 49, 50, 51, 52, 53, 54, 55, 56, 57, 97, 98, 99, 100, 101, 102]⟩⟩), .lit (.int .u8 c.toNat)] h = some (.lit (.int .i64 (hexD c)), h)) (l : List UInt8) (h : Heap) :
    F20 call (.lit (.string ⟨⟨l⟩⟩)) h = some (.tup [.lit (.int .u8 (escF l).1), .lit (.int .i64 (escF l).2)], h) := by
  have hb := hexD_lt
  cases l with
  | nil => simp [F20, S20_12, escF]
  | cons c r =>
    by_cases h1 : c.toNat = 34
    · simp [F20, S20_12, S20_11, S20_10, S20_9, ix_str, escF, h1]
    by_cases h2 : c.toNat = 92
    · simp [F20, S20_12, S20_11, S20_10, S20_9, ix_str, escF, h2]
    by_cases h3 : c.toNat = 110
    · simp [F20, S20_12, S20_11, S20_10, S20_9, S20_8, S20_7, ix_str, escF, h3]
    by_cases h4 : c.toNat = 120
    · match r with
      | [] => simp [F20, S20_12, S20_11, S20_10, S20_9, S20_8, S20_7, S20_6, S20_5, S20_4, S20_3, ix_str, escF, h4]
      | [a] => simp [F20, S20_12, S20_11, S20_10, S20_9, S20_8, S20_7, S20_6, S20_5, S20_4, S20_3, ix_str, escF, h4]
      | a :: b :: r' =>
        have hl : (2 : Int) < r'.length + 1 + 1 + 1 := by omega
        simp [F20, S20_12, S20_11, S20_10, S20_9, S20_8, S20_7, S20_6, S20_5, S20_4, S20_3, S20_2, S20_1, S20_0, ix_str, hc, escF, h4, hl]
        by_cases ha : 0 ≤ hexD a
        · by_cases hb' : 0 ≤ hexD b
          · simp only [ha, hb', if_true, and_self]
            rw [shlor _ _ ha (hb a).1 hb' (hb b).1]
            have := hb a; have := hb b
            simp [wrap8 (n := hexD a * 16 + hexD b) (by omega) (by omega)]
          · simp [ha, hb']
        · simp [ha]
    · simp [F20, S20_12, S20_11, S20_10, S20_9, S20_8, S20_7, S20_6, S20_5, ix_str, escF, ceq, h1, h2, h3, h4]
end Go.Proofs.Ytcajleckiegffaa

namespace Go.Proofs.Ytcajleckiegffaa
set_option linter.unusedSimpArgs false
set_option linter.unusedVariables false
open Go.Am
set_option maxRecDepth 100000

theorem escF_range (l : List UInt8) : 0 ≤ (escF l).1 ∧ (escF l).1 < 256 ∧ 0 ≤ (escF l).2 ∧ (escF l).2 ≤ 3 ∧ ((escF l).2 ≤ l.length) := by
  have hb := hexD_lt
  match l with
  | [] => simp [escF]
  | c :: r =>
    have hc := c.toNat_lt
    by_cases h1 : c.toNat = 34 ∨ c.toNat = 92
    · simp only [escF, if_pos h1, List.length_cons]; omega
    by_cases h2 : c.toNat = 110
    · simp only [escF, if_neg h1, if_pos h2, List.length_cons]; omega
    by_cases h3 : c.toNat = 120
    · match r with
      | [] => simp only [escF, if_neg h1, if_neg h2, if_pos h3, List.length_cons]; omega
      | [a] => simp only [escF, if_neg h1, if_neg h2, if_pos h3, List.length_cons]; omega
      | a :: b :: r' =>
        have := hb a; have := hb b
        by_cases h4 : 0 ≤ hexD a ∧ 0 ≤ hexD b
        · simp only [escF, if_neg h1, if_neg h2, if_pos h3, if_pos h4, List.length_cons]; omega
        · simp only [escF, if_neg h1, if_neg h2, if_pos h3, if_neg h4, List.length_cons]; omega
    · simp only [escF, if_neg h1, if_neg h2, if_neg h3, List.length_cons]; omega
def escB (l : List UInt8) : UInt8 := UInt8.ofNat (escF l).1.toNat
theorem escB_eq (l : List UInt8) : ((escB l).toNat : Int) = (escF l).1 := by
  have := escF_range l
  unfold escB
  rw [UInt8.toNat_ofNat_of_lt' (by simp [UInt8.size]; omega)]
  omega

structure Tok where
  kind : Nat
  place : Nat
  text : List UInt8

def tokAV (t : Tok) : AV := .agg [.lit (.int .i64 t.kind), .lit (.int .i64 t.place), .lit (.string ⟨⟨t.text⟩⟩)]
def byteAV (c : UInt8) : AV := .lit (.int .u8 c.toNat)

structure LexR where
  toks : List Tok
  err : Nat
  pos : Nat

def spc (c : UInt8) : Bool := c.toNat = 9 || c.toNat = 10 || c.toNat = 13 || c.toNat = 32
def special (c : UInt8) : Bool := spc c || c.toNat = 59 || c.toNat = 40 || c.toNat = 41 || c.toNat = 34

/-- Split's states. -/
def lexM (s : List UInt8) : Nat → Nat → Nat → Nat → List UInt8 → List Tok → Option LexR
  | 0, _, _, _, _, _ => none
  | k + 1, 0, i, _, text, acc => match s[i]? with
    | none => some ⟨acc, 0, 0⟩
    | some c => if spc c then lexM s k 0 (i + 1) i text acc
      else if c.toNat = 59 then lexM s k 1 i i text acc
      else if c.toNat = 40 then lexM s k 0 (i + 1) i text (acc ++ [⟨1, i, []⟩])
      else if c.toNat = 41 then lexM s k 0 (i + 1) i text (acc ++ [⟨2, i, []⟩])
      else if c.toNat = 34 then lexM s k 2 (i + 1) i [] acc
      else lexM s k 3 i i text acc
  | k + 1, 1, i, fr, text, acc => match s[i]? with
    | none => lexM s k 0 i fr text acc
    | some c => if c.toNat = 10 then lexM s k 0 i fr text acc else lexM s k 1 (i + 1) fr text acc
  | k + 1, 2, i, fr, text, acc => match s[i]? with
    | none => some ⟨[], 10, fr⟩
    | some c => if c.toNat = 34 then (if 200 < text.length then some ⟨[], 3, fr⟩ else lexM s k 0 (i + 1) fr text (acc ++ [⟨4, fr, text⟩]))
      else if c.toNat = 92 then (if (escF (s.drop (i + 1))).2 = 0 then some ⟨[], 12, i⟩ else lexM s k 2 (i + (1 + (escF (s.drop (i + 1))).2.toNat)) fr (text ++ [escB (s.drop (i + 1))]) acc)
      else if c.toNat < 32 ∨ 126 < c.toNat then some ⟨[], 12, i⟩
      else lexM s k 2 (i + 1) fr (text ++ [c]) acc
  | k + 1, 3, i, fr, text, acc => match s[i]? with
    | none => lexM s k 0 i fr text (acc ++ [⟨3, fr, (s.drop fr).take (i - fr)⟩])
    | some c => if special c then lexM s k 0 i fr text (acc ++ [⟨3, fr, (s.drop fr).take (i - fr)⟩])
      else if c.toNat < 33 ∨ 126 < c.toNat then some ⟨[], 12, i⟩
      else lexM s k 3 (i + 1) fr text acc
  | _ + 1, _, _, _, _, _ => none

def idxSp (c : UInt8) : Int := if special c then 1 else -1

structure LexCall (call : CallF) : Prop where
  hex : ∀ (c : UInt8) h, call 21 [.lit (.string ⟨⟨[48, 49, 50, 51, 52, 53, 54, 55, 56, 57, 97, 98, 99, 100, 101, 102]⟩⟩), .lit (.int .u8 c.toNat)] h = some (.lit (.int .i64 (hexD c)), h)
  sp : ∀ (c : UInt8) h, ∃ n : Int, call 21 [.lit (.string ⟨⟨[9, 10, 13, 32, 59, 40, 41, 34]⟩⟩), .lit (.int .u8 c.toNat)] h = some (.lit (.int .i64 n), h) ∧ (0 ≤ n ↔ special c = true)
  esc : ∀ l h, call 20 [.lit (.string ⟨⟨l⟩⟩)] h = some (.tup [.lit (.int .u8 (escF l).1), .lit (.int .i64 (escF l).2)], h)

theorem bytes_map (l : List UInt8) : bytesOf (l.map byteAV) = some l := by
  induction l with
  | nil => rfl
  | cons c l ih =>
    simp only [List.map_cons, byteAV, bytesOf]
    rw [show bytesOf (l.map byteAV) = some l from ih]
    simp

theorem own_b2s {h : Heap} {v : AV} {l : List UInt8} {o : Option Nat} (w : OwnS h v 1 (l.map byteAV) o) : b2sX v h = some (.lit (.string ⟨⟨l⟩⟩)) := by
  cases o with
  | none =>
    obtain ⟨rfl, he⟩ := w
    have : l = [] := by simpa using he
    subst this; rfl
  | some id =>
    obtain ⟨rfl, hid⟩ := w
    simp only [b2sX, elemsOf, hid]
    rw [if_pos ⟨trivial, by simp⟩]
    rw [List.drop_zero, List.take_of_length_le (by simp)]
    show Option.map _ (bytesOf (l.map byteAV)) = _
    rw [bytes_map]; rfl

theorem ltSize (s : List UInt8) (hs : s.length ≤ 8192) (i : Nat) (c : UInt8) (h : s[i]? = some c) : i < s.length := (List.getElem?_eq_some_iff.1 h).1

theorem push_tok {h : Heap} {v5 : AV} {acc : List Tok} {o5 : Option Nat} (w5 : OwnS h v5 3 (acc.map tokAV) o5) (hac : acc.length ≤ 1000000000001) (kd p : Nat) (t : List UInt8) (kdI : Int) (hk : kdI = kd) (k : AV → Heap → Res) :
    (opt (buildX [(.lit (.int .i64 0)), (.lit (.int .i64 0)), (.lit (.string ⟨⟨[]⟩⟩))] [(0, 1), (1, 1), (2, 1)] [(0, (.lit (.int .i64 kdI))), (1, (.lit (.int .i64 p))), (2, (.lit (.string ⟨⟨t⟩⟩)))]) fun x =>
      opt2 (bsliceX 3 (.agg [(.lit (.int .i64 0)), (.lit (.int .i64 0)), (.lit (.string ⟨⟨[]⟩⟩))]) 1 [(0, x)] h) fun y h1 => opt2 (appendX 3 32 v5 y h1) k) =
    k (.sl h.length 0 ((acc ++ [(⟨kd, p, t⟩ : Tok)]).map tokAV).length false) (kill h o5 ++ [.arr ⟨3, true, false, (acc ++ [(⟨kd, p, t⟩ : Tok)]).map tokAV⟩]) := by
  subst hk
  have hb : buildX [(.lit (.int .i64 0)), (.lit (.int .i64 0)), (.lit (.string ⟨⟨[]⟩⟩))] [(0, 1), (1, 1), (2, 1)] [(0, (.lit (.int .i64 kd))), (1, (.lit (.int .i64 p))), (2, (.lit (.string ⟨⟨t⟩⟩)))] = some (tokAV ⟨kd, p, t⟩) := rfl
  have hsl : bsliceX 3 (.agg [(.lit (.int .i64 0)), (.lit (.int .i64 0)), (.lit (.string ⟨⟨[]⟩⟩))]) 1 [(0, tokAV ⟨kd, p, t⟩)] h = some (.isl 3 true [tokAV ⟨kd, p, t⟩], h) := bslice_one rfl rfl rfl
  have ha := w5.append (bytes := 32) (f := true) (ys := [tokAV ⟨kd, p, t⟩]) (by simp) (by simp; omega)
  rw [hb, opt_s, hsl, opt2_s, ha, opt2_s]
  simp

theorem push_byte {h : Heap} {v : AV} {l : List UInt8} {o : Option Nat} (w : OwnS h v 1 (l.map byteAV) o) (hl : l.length ≤ 1000000000001) (c : UInt8) (n : Int) (hn : n = c.toNat) (k : AV → Heap → Res) :
    (opt2 (bsliceX 1 (.lit (.int .u8 0)) 1 [(0, .lit (.int .u8 n))] h) fun y h1 => opt2 (appendX 1 1 v y h1) k) =
    k (.sl h.length 0 ((l ++ [c]).map byteAV).length false) (kill h o ++ [.arr ⟨1, true, false, (l ++ [c]).map byteAV⟩]) := by
  subst hn
  have hsl : bsliceX 1 (.lit (.int .u8 0)) 1 [(0, .lit (.int .u8 c.toNat))] h = some (.isl 1 true [byteAV c], h) := bslice_one rfl rfl rfl
  have ha := w.append (bytes := 1) (f := true) (ys := [byteAV c]) (by simp) (by simp; omega)
  rw [hsl, opt2_s, ha, opt2_s]
  simp

def SplitAt (call : CallF) (s : List UInt8) (k lab i fr : Nat) (text : List UInt8) (acc : List Tok) (R : LexR) : Prop :=
  i ≤ s.length → fr ≤ i → acc.length + k ≤ 1000000000001 → text.length + k ≤ 1000000000001 →
      ∀ (v5 v6 : AV) (o5 o6 : Option Nat) (h : Heap), OwnS h v5 3 (acc.map tokAV) o5 → OwnS h v6 1 (text.map byteAV) o6 → (∀ id, o5 = some id → o6 ≠ some id) →
      ∃ v h' o, S10_0g call k lab (.lit (.string ⟨⟨s⟩⟩)) v5 v6 (.lit (.int .i64 i)) (.lit (.int .i64 fr)) h = some (.tup [v, .lit (.int .i64 R.err), .lit (.int .i64 R.pos)], h') ∧ OwnS h' v 3 (R.toks.map tokAV) o

theorem fin_ok (h : Heap) (e p : Nat) : ∃ v h' o, (some (AV.tup [.lit (.slice none 0 0), .lit (.int .i64 e), .lit (.int .i64 p)], h) : Res) = some (.tup [v, .lit (.int .i64 (⟨[], e, p⟩ : LexR).err), .lit (.int .i64 (⟨[], e, p⟩ : LexR).pos)], h') ∧ OwnS h' v 3 ((⟨[], e, p⟩ : LexR).toks.map tokAV) o :=
  ⟨_, h, none, rfl, rfl, rfl⟩

theorem split_0 {call : CallF} (C : LexCall call) {s : List UInt8} (hs : s.length ≤ 8192) {k : Nat} (ih : ∀ lab i fr text acc R, lexM s k lab i fr text acc = some R → SplitAt call s k lab i fr text acc R)
    {i fr : Nat} {text : List UInt8} {acc : List Tok} {R : LexR} (hR : lexM s (k + 1) 0 i fr text acc = some R) : SplitAt call s (k + 1) 0 i fr text acc R := by
  intro hi hfr hac htx v5 v6 o5 o6 h w5 w6 hne
  have hw : fastWrap .i64 ((i : Int) + 1) = ((i + 1 : Nat) : Int) := by rw [wrap64 (by omega) (by omega)]; rfl
  have hix : ∀ c, s[i]? = some c → i < s.length := fun c h => ltSize s hs i c h
  have fin := fin_ok h
  simp only [lexM] at hR
  cases hc : s[i]? with
  | none =>
    rw [hc] at hR
    cases hR
    have : i = s.length := by have := List.getElem?_eq_none_iff.1 hc; omega
    subst this
    refine ⟨v5, h, o5, ?_, w5⟩
    simp only [S10_0g, S10_7L0_, S10_6, opt_s, opt_n, opt2_s, opt2_n, optH_s, test_b, eqK_s, eqH_s, fb_add, fb_sub, fb_mul, fb_eql, fb_neq, fb_lss, fb_leq, fb_gtr, fb_geq, fb_eqls, fb_neqs, not_b, pick_b, convI_i, lenStr_s, lenS_isl, lenS_sl, lenS_nil, extract_tup, decide_eq_true_eq, if_true, if_false, Bool.false_eq_true, decide_false, decide_true, Option.map_some, Option.map_none, ceq, clt1, clt2, cle1, cle2]
    rfl
  | some c =>
    rw [hc] at hR
    simp only at hR
    have hlt := hix c hc
    have hnl : ¬ ((i : Int) = s.length) := by omega
    simp only [S10_0g, S10_7L0_, S10_6, S10_5, S10_4, S10_3, opt_s, opt_n, opt2_s, opt2_n, optH_s, test_b, eqK_s, eqH_s, fb_add, fb_sub, fb_mul, fb_eql, fb_neq, fb_lss, fb_leq, fb_gtr, fb_geq, fb_eqls, fb_neqs, not_b, pick_b, convI_i, lenStr_s, lenS_isl, lenS_sl, lenS_nil, extract_tup, decide_eq_true_eq, if_true, if_false, Bool.false_eq_true, decide_false, decide_true, Option.map_some, Option.map_none, ceq, clt1, clt2, cle1, cle2, hnl, ix_str (Int.natCast_nonneg i), Int.toNat_natCast, hc]
    have rest : spc c = false → ∃ v h' o, S10_2 call (S10_0g call k) (.lit (.string ⟨⟨s⟩⟩)) v5 v6 (.lit (.int .i64 i)) (.lit (.int .i64 i)) (.lit (.int .u8 c.toNat)) (.lit (.bool false)) h = some (.tup [v, .lit (.int .i64 R.err), .lit (.int .i64 R.pos)], h') ∧ OwnS h' v 3 (R.toks.map tokAV) o := by
      intro hsp
      rw [if_neg (by simp [hsp])] at hR
      simp only [S10_2, opt_s, opt_n, opt2_s, opt2_n, optH_s, test_b, eqK_s, eqH_s, fb_add, fb_sub, fb_mul, fb_eql, fb_neq, fb_lss, fb_leq, fb_gtr, fb_geq, fb_eqls, fb_neqs, not_b, pick_b, convI_i, lenStr_s, lenS_isl, lenS_sl, lenS_nil, extract_tup, decide_eq_true_eq, if_true, if_false, Bool.false_eq_true, decide_false, decide_true, Option.map_some, Option.map_none, ceq, clt1, clt2, cle1, cle2]
      by_cases h59 : c.toNat = 59
      · rw [if_pos h59] at hR ⊢
        exact ih 1 _ i text acc R hR (by omega) (by omega) (by omega) (by omega) v5 v6 o5 o6 h w5 w6 hne
      rw [if_neg h59] at hR ⊢
      by_cases h40 : c.toNat = 40
      · rw [if_pos h40] at hR ⊢
        rw [push_tok w5 (by omega) 1 i [] 1 rfl, hw]
        exact ih 0 _ i text _ R hR (by omega) (by omega) (by simp; omega) (by omega) _ v6 _ o6 _ OwnS.appended (w6.keep (fun id e => (fun e2 => hne _ e2 e)) _) (fun id e e2 => by cases e; subst e2; have := w6.lt; omega)
      rw [if_neg h40] at hR ⊢
      by_cases h41 : c.toNat = 41
      · rw [if_pos h41] at hR ⊢
        rw [push_tok w5 (by omega) 2 i [] 2 rfl, hw]
        exact ih 0 _ i text _ R hR (by omega) (by omega) (by simp; omega) (by omega) _ v6 _ o6 _ OwnS.appended (w6.keep (fun id e => (fun e2 => hne _ e2 e)) _) (fun id e e2 => by cases e; subst e2; have := w6.lt; omega)
      rw [if_neg h41] at hR ⊢
      by_cases h34 : c.toNat = 34
      · rw [if_pos h34] at hR ⊢
        rw [hw]
        exact ih 2 _ i [] acc R hR (by omega) (by omega) (by omega) (by simp; omega) v5 _ o5 none h w5 ⟨rfl, rfl⟩ (fun id e e2 => by cases e2)
      rw [if_neg h34] at hR ⊢
      exact ih 3 _ i text acc R hR (by omega) (by omega) (by omega) (by omega) v5 v6 o5 o6 h w5 w6 hne
    have yes : spc c = true → ∃ v h' o, S10_2 call (S10_0g call k) (.lit (.string ⟨⟨s⟩⟩)) v5 v6 (.lit (.int .i64 i)) (.lit (.int .i64 i)) (.lit (.int .u8 c.toNat)) (.lit (.bool true)) h = some (.tup [v, .lit (.int .i64 R.err), .lit (.int .i64 R.pos)], h') ∧ OwnS h' v 3 (R.toks.map tokAV) o := by
      intro hsp
      rw [if_pos hsp] at hR
      simp only [S10_2, opt_s, opt_n, opt2_s, opt2_n, optH_s, test_b, eqK_s, eqH_s, fb_add, fb_sub, fb_mul, fb_eql, fb_neq, fb_lss, fb_leq, fb_gtr, fb_geq, fb_eqls, fb_neqs, not_b, pick_b, convI_i, lenStr_s, lenS_isl, lenS_sl, lenS_nil, extract_tup, decide_eq_true_eq, if_true, if_false, Bool.false_eq_true, decide_false, decide_true, Option.map_some, Option.map_none, ceq, clt1, clt2, cle1, cle2, hw]
      exact ih 0 _ i text acc R hR (by omega) (by omega) (by omega) (by omega) v5 v6 o5 o6 h w5 w6 hne
    by_cases h9 : c.toNat = 9
    · rw [if_pos h9]; exact yes (by simp [spc, h9])
    rw [if_neg h9]
    by_cases h10 : c.toNat = 10
    · rw [if_pos h10]; exact yes (by simp [spc, h10])
    rw [if_neg h10]
    by_cases h13 : c.toNat = 13
    · rw [if_pos h13]; exact yes (by simp [spc, h13])
    rw [if_neg h13]
    by_cases h32 : c.toNat = 32
    · simp only [h32, decide_true]; exact h32 ▸ yes (by simp [spc, h32])
    simp only [h32, decide_false]
    exact rest (by simp [spc, h9, h10, h13, h32])

theorem split_1 {call : CallF} (C : LexCall call) {s : List UInt8} (hs : s.length ≤ 8192) {k : Nat} (ih : ∀ lab i fr text acc R, lexM s k lab i fr text acc = some R → SplitAt call s k lab i fr text acc R)
    {i fr : Nat} {text : List UInt8} {acc : List Tok} {R : LexR} (hR : lexM s (k + 1) 1 i fr text acc = some R) : SplitAt call s (k + 1) 1 i fr text acc R := by
  intro hi hfr hac htx v5 v6 o5 o6 h w5 w6 hne
  have hw : fastWrap .i64 ((i : Int) + 1) = ((i + 1 : Nat) : Int) := by rw [wrap64 (by omega) (by omega)]; rfl
  have hix : ∀ c, s[i]? = some c → i < s.length := fun c h => ltSize s hs i c h
  have fin := fin_ok h
  simp only [lexM] at hR
  cases hc : s[i]? with
  | none =>
    rw [hc] at hR
    have : i = s.length := by have := List.getElem?_eq_none_iff.1 hc; omega
    subst this
    have := ih 0 _ fr text acc R hR (Nat.le_refl _) hfr (by omega) (by omega) v5 v6 o5 o6 h w5 w6 hne
    simp only [S10_0g, S10_11L1_, S10_10, S10_9, S10_8, opt_s, opt_n, opt2_s, opt2_n, optH_s, test_b, eqK_s, eqH_s, fb_add, fb_sub, fb_mul, fb_eql, fb_neq, fb_lss, fb_leq, fb_gtr, fb_geq, fb_eqls, fb_neqs, not_b, pick_b, convI_i, lenStr_s, lenS_isl, lenS_sl, lenS_nil, extract_tup, decide_eq_true_eq, if_true, if_false, Bool.false_eq_true, decide_false, decide_true, Option.map_some, Option.map_none, ceq, clt1, clt2, cle1, cle2, Int.lt_irrefl]
    exact this
  | some c =>
    rw [hc] at hR
    simp only at hR
    have hlt := hix c hc
    have hnl : ((i : Int) < s.length) := by omega
    simp only [S10_0g, S10_11L1_, S10_10, S10_9, S10_8, opt_s, opt_n, opt2_s, opt2_n, optH_s, test_b, eqK_s, eqH_s, fb_add, fb_sub, fb_mul, fb_eql, fb_neq, fb_lss, fb_leq, fb_gtr, fb_geq, fb_eqls, fb_neqs, not_b, pick_b, convI_i, lenStr_s, lenS_isl, lenS_sl, lenS_nil, extract_tup, decide_eq_true_eq, if_true, if_false, Bool.false_eq_true, decide_false, decide_true, Option.map_some, Option.map_none, ceq, clt1, clt2, cle1, cle2, hnl, ix_str (Int.natCast_nonneg i), Int.toNat_natCast, hc]
    by_cases h10 : c.toNat = 10
    · rw [if_pos h10] at hR
      rw [if_neg (by simpa [ceq] using h10)]
      exact ih 0 _ fr text acc R hR hi hfr (by omega) (by omega) v5 v6 o5 o6 h w5 w6 hne
    · rw [if_neg h10] at hR
      rw [if_pos (by simpa [ceq] using h10), hw]
      exact ih 1 _ fr text acc R hR (by omega) (by omega) (by omega) (by omega) v5 v6 o5 o6 h w5 w6 hne

theorem split_2q {call : CallF} (C : LexCall call) {s : List UInt8} (hs : s.length ≤ 8192) {k : Nat} (ih : ∀ lab i fr text acc R, lexM s k lab i fr text acc = some R → SplitAt call s k lab i fr text acc R)
    {i fr : Nat} {text : List UInt8} {acc : List Tok} {R : LexR} {c : UInt8} (hc : s[i]? = some c) (h34 : c.toNat = 34) (hR : lexM s (k + 1) 2 i fr text acc = some R) : SplitAt call s (k + 1) 2 i fr text acc R := by
  intro hi hfr hac htx v5 v6 o5 o6 h w5 w6 hne
  have hw : fastWrap .i64 ((i : Int) + 1) = ((i + 1 : Nat) : Int) := by rw [wrap64 (by omega) (by omega)]; rfl
  have hix : ∀ c, s[i]? = some c → i < s.length := fun c h => ltSize s hs i c h
  have fin := fin_ok h
  simp only [lexM] at hR
  rw [hc] at hR
  simp only at hR
  have hlt := hix c hc
  have hnl : ¬ ((i : Int) = s.length) := by omega
  simp only [S10_0g, S10_21L2_, S10_20, lenStr_s, opt_s, fb_eql, test_b, hnl, decide_false, Bool.false_eq_true, if_false, S10_19, S10_18, S10_17, ix_str (Int.natCast_nonneg i), Int.toNat_natCast, hc, Option.map_some, ceq, decide_eq_true_eq]
  rw [if_pos h34] at hR ⊢
  rw [w6.len]
  simp only [opt_s, opt_n, opt2_s, opt2_n, optH_s, test_b, eqK_s, eqH_s, fb_add, fb_sub, fb_mul, fb_eql, fb_neq, fb_lss, fb_leq, fb_gtr, fb_geq, fb_eqls, fb_neqs, not_b, pick_b, convI_i, lenStr_s, lenS_isl, lenS_sl, lenS_nil, extract_tup, decide_eq_true_eq, if_true, if_false, Bool.false_eq_true, decide_false, decide_true, Option.map_some, Option.map_none, ceq, clt1, clt2, cle1, cle2, List.length_map]
  by_cases h200 : 200 < text.length
  · rw [if_pos h200] at hR ⊢
    cases hR
    exact fin 3 fr
  · rw [if_neg h200] at hR ⊢
    rw [own_b2s w6, opt_s, push_tok w5 (by omega) 4 fr text 4 rfl, hw]
    clear h200
    exact ih 0 _ fr text _ R hR (by omega) (by omega) (by simp; omega) (by omega) _ v6 _ o6 _ OwnS.appended (w6.keep (fun id e => (fun e2 => hne _ e2 e)) _) (fun id e e2 => by cases e; subst e2; have := w6.lt; omega)

theorem split_2e {call : CallF} (C : LexCall call) {s : List UInt8} (hs : s.length ≤ 8192) {k : Nat} (ih : ∀ lab i fr text acc R, lexM s k lab i fr text acc = some R → SplitAt call s k lab i fr text acc R)
    {i fr : Nat} {text : List UInt8} {acc : List Tok} {R : LexR} {c : UInt8} (hc : s[i]? = some c) (h34 : ¬ c.toNat = 34) (h92 : c.toNat = 92) (hR : lexM s (k + 1) 2 i fr text acc = some R) : SplitAt call s (k + 1) 2 i fr text acc R := by
  intro hi hfr hac htx v5 v6 o5 o6 h w5 w6 hne
  have hw : fastWrap .i64 ((i : Int) + 1) = ((i + 1 : Nat) : Int) := by rw [wrap64 (by omega) (by omega)]; rfl
  have hix : ∀ c, s[i]? = some c → i < s.length := fun c h => ltSize s hs i c h
  have fin := fin_ok h
  simp only [lexM] at hR
  rw [hc] at hR
  simp only at hR
  have hlt := hix c hc
  have hnl : ¬ ((i : Int) = s.length) := by omega
  simp only [S10_0g, S10_21L2_, S10_20, lenStr_s, opt_s, fb_eql, test_b, hnl, decide_false, Bool.false_eq_true, if_false, S10_19, S10_18, S10_17, ix_str (Int.natCast_nonneg i), Int.toNat_natCast, hc, Option.map_some, ceq, decide_eq_true_eq]
  rw [if_neg h34] at hR ⊢
  simp only [S10_16, S10_15, fb_eql, opt_s, test_b, ceq, decide_eq_true_eq]
  rw [if_pos h92] at hR ⊢
  rw [fb_add, opt_s, hw, cut_from (Int.natCast_nonneg _) (by omega), opt_s, Int.toNat_natCast, C.esc]
  have er := escF_range (s.drop (i + 1))
  rw [List.length_drop] at er
  simp only [opt_s, opt_n, opt2_s, opt2_n, optH_s, test_b, eqK_s, eqH_s, fb_add, fb_sub, fb_mul, fb_eql, fb_neq, fb_lss, fb_leq, fb_gtr, fb_geq, fb_eqls, fb_neqs, not_b, pick_b, convI_i, lenStr_s, lenS_isl, lenS_sl, lenS_nil, extract_tup, decide_eq_true_eq, if_true, if_false, Bool.false_eq_true, decide_false, decide_true, Option.map_some, Option.map_none, ceq, clt1, clt2, cle1, cle2, List.getElem?_cons_zero, List.getElem?_cons_succ]
  by_cases h0 : (escF (s.drop (i + 1))).2 = 0
  · rw [if_pos h0] at hR ⊢
    cases hR
    exact fin 12 i
  · rw [if_neg h0] at hR ⊢
    rw [push_byte w6 (by omega) (escB (s.drop (i + 1))) _ (escB_eq _).symm]
    rw [wrap64 (n := 1 + (escF (s.drop (i + 1))).2) (by omega) (by omega)]
    rw [show fastWrap .i64 ((i : Int) + (1 + (escF (s.drop (i + 1))).2)) = ((i + (1 + (escF (s.drop (i + 1))).2.toNat) : Nat) : Int) by rw [wrap64 (by omega) (by omega)]; omega]
    simp only [S10_12]
    exact ih 2 _ fr _ acc R hR (by omega) (by omega) (by omega) (by simp; omega) v5 _ o5 _ _ (w5.keep (fun id e e2 => hne id e e2) _) OwnS.appended (fun id e e2 => by cases e2; subst e; have := w5.lt; omega)

theorem split_2o {call : CallF} (C : LexCall call) {s : List UInt8} (hs : s.length ≤ 8192) {k : Nat} (ih : ∀ lab i fr text acc R, lexM s k lab i fr text acc = some R → SplitAt call s k lab i fr text acc R)
    {i fr : Nat} {text : List UInt8} {acc : List Tok} {R : LexR} {c : UInt8} (hc : s[i]? = some c) (h34 : ¬ c.toNat = 34) (h92 : ¬ c.toNat = 92) (hR : lexM s (k + 1) 2 i fr text acc = some R) : SplitAt call s (k + 1) 2 i fr text acc R := by
  intro hi hfr hac htx v5 v6 o5 o6 h w5 w6 hne
  have hw : fastWrap .i64 ((i : Int) + 1) = ((i + 1 : Nat) : Int) := by rw [wrap64 (by omega) (by omega)]; rfl
  have hix : ∀ c, s[i]? = some c → i < s.length := fun c h => ltSize s hs i c h
  have fin := fin_ok h
  simp only [lexM] at hR
  rw [hc] at hR
  simp only at hR
  have hlt := hix c hc
  have hnl : ¬ ((i : Int) = s.length) := by omega
  simp only [S10_0g, S10_21L2_, S10_20, lenStr_s, opt_s, fb_eql, test_b, hnl, decide_false, Bool.false_eq_true, if_false, S10_19, S10_18, S10_17, ix_str (Int.natCast_nonneg i), Int.toNat_natCast, hc, Option.map_some, ceq, decide_eq_true_eq]
  rw [if_neg h34] at hR ⊢
  simp only [S10_16, S10_15, fb_eql, opt_s, test_b, ceq, decide_eq_true_eq]
  rw [if_neg h92] at hR ⊢
  simp only [S10_14, S10_13, opt_s, opt_n, opt2_s, opt2_n, optH_s, test_b, eqK_s, eqH_s, fb_add, fb_sub, fb_mul, fb_eql, fb_neq, fb_lss, fb_leq, fb_gtr, fb_geq, fb_eqls, fb_neqs, not_b, pick_b, convI_i, lenStr_s, lenS_isl, lenS_sl, lenS_nil, extract_tup, decide_eq_true_eq, if_true, if_false, Bool.false_eq_true, decide_false, decide_true, Option.map_some, Option.map_none, ceq, clt1, clt2, cle1, cle2]
  by_cases h32 : c.toNat < 32
  · rw [if_pos (.inl h32)] at hR
    rw [if_pos h32]
    cases hR
    exact fin 12 i
  rw [if_neg h32]
  by_cases h126 : 126 < c.toNat
  · rw [if_pos (.inr h126)] at hR
    rw [if_pos h126]
    cases hR
    exact fin 12 i
  rw [if_neg (by omega)] at hR
  rw [if_neg h126, push_byte w6 (by omega) c _ rfl, hw]
  simp only [S10_12]
  exact ih 2 _ fr _ acc R hR (by omega) (by omega) (by omega) (by simp; omega) v5 _ o5 _ _ (w5.keep (fun id e e2 => hne id e e2) _) OwnS.appended (fun id e e2 => by cases e2; subst e; have := w5.lt; omega)


theorem split_2 {call : CallF} (C : LexCall call) {s : List UInt8} (hs : s.length ≤ 8192) {k : Nat} (ih : ∀ lab i fr text acc R, lexM s k lab i fr text acc = some R → SplitAt call s k lab i fr text acc R)
    {i fr : Nat} {text : List UInt8} {acc : List Tok} {R : LexR} (hR : lexM s (k + 1) 2 i fr text acc = some R) : SplitAt call s (k + 1) 2 i fr text acc R := by
  intro hi hfr hac htx v5 v6 o5 o6 h w5 w6 hne
  have hw : fastWrap .i64 ((i : Int) + 1) = ((i + 1 : Nat) : Int) := by rw [wrap64 (by omega) (by omega)]; rfl
  have hix : ∀ c, s[i]? = some c → i < s.length := fun c h => ltSize s hs i c h
  have fin := fin_ok h
  have hR0 := hR
  simp only [lexM] at hR
  cases hc : s[i]? with
  | none =>
    rw [hc] at hR
    cases hR
    have : i = s.length := by have := List.getElem?_eq_none_iff.1 hc; omega
    subst this
    simp only [S10_0g, S10_21L2_, S10_20, opt_s, opt_n, opt2_s, opt2_n, optH_s, test_b, eqK_s, eqH_s, fb_add, fb_sub, fb_mul, fb_eql, fb_neq, fb_lss, fb_leq, fb_gtr, fb_geq, fb_eqls, fb_neqs, not_b, pick_b, convI_i, lenStr_s, lenS_isl, lenS_sl, lenS_nil, extract_tup, decide_eq_true_eq, if_true, if_false, Bool.false_eq_true, decide_false, decide_true, Option.map_some, Option.map_none, ceq, clt1, clt2, cle1, cle2]
    exact fin 10 fr
  | some c =>
    by_cases h34 : c.toNat = 34
    · exact split_2q C hs ih hc h34 hR0 hi hfr hac htx v5 v6 o5 o6 h w5 w6 hne
    by_cases h92 : c.toNat = 92
    · exact split_2e C hs ih hc h34 h92 hR0 hi hfr hac htx v5 v6 o5 o6 h w5 w6 hne
    · exact split_2o C hs ih hc h34 h92 hR0 hi hfr hac htx v5 v6 o5 o6 h w5 w6 hne

theorem split_3 {call : CallF} (C : LexCall call) {s : List UInt8} (hs : s.length ≤ 8192) {k : Nat} (ih : ∀ lab i fr text acc R, lexM s k lab i fr text acc = some R → SplitAt call s k lab i fr text acc R)
    {i fr : Nat} {text : List UInt8} {acc : List Tok} {R : LexR} (hR : lexM s (k + 1) 3 i fr text acc = some R) : SplitAt call s (k + 1) 3 i fr text acc R := by
  intro hi hfr hac htx v5 v6 o5 o6 h w5 w6 hne
  have hw : fastWrap .i64 ((i : Int) + 1) = ((i + 1 : Nat) : Int) := by rw [wrap64 (by omega) (by omega)]; rfl
  have hix : ∀ c, s[i]? = some c → i < s.length := fun c h => ltSize s hs i c h
  have fin := fin_ok h
  simp only [lexM] at hR
  have done : lexM s k 0 i fr text (acc ++ [⟨3, fr, (s.drop fr).take (i - fr)⟩]) = some R → ∃ v h' o, S10_22 call (S10_0g call k) (.lit (.string ⟨⟨s⟩⟩)) v5 v6 (.lit (.int .i64 i)) (.lit (.int .i64 fr)) h = some (.tup [v, .lit (.int .i64 R.err), .lit (.int .i64 R.pos)], h') ∧ OwnS h' v 3 (R.toks.map tokAV) o := by
    intro hR
    simp only [S10_22]
    rw [cut_str (Int.natCast_nonneg _) (by omega) (by omega), opt_s, Int.toNat_natCast, Int.toNat_natCast, push_tok w5 (by omega) 3 fr _ 3 rfl]
    exact ih 0 _ fr text _ R hR hi hfr (by simp; omega) (by omega) _ v6 _ o6 _ OwnS.appended (w6.keep (fun id e => (fun e2 => hne _ e2 e)) _) (fun id e e2 => by cases e; subst e2; have := w6.lt; omega)
  cases hc : s[i]? with
  | none =>
    rw [hc] at hR
    have : i = s.length := by have := List.getElem?_eq_none_iff.1 hc; omega
    subst this
    simp only [S10_0g, S10_30L3_, S10_29, S10_28, opt_s, opt_n, opt2_s, opt2_n, optH_s, test_b, eqK_s, eqH_s, fb_add, fb_sub, fb_mul, fb_eql, fb_neq, fb_lss, fb_leq, fb_gtr, fb_geq, fb_eqls, fb_neqs, not_b, pick_b, convI_i, lenStr_s, lenS_isl, lenS_sl, lenS_nil, extract_tup, decide_eq_true_eq, if_true, if_false, Bool.false_eq_true, decide_false, decide_true, Option.map_some, Option.map_none, ceq, clt1, clt2, cle1, cle2, Int.lt_irrefl]
    exact done hR
  | some c =>
    rw [hc] at hR
    simp only at hR
    have hlt := hix c hc
    have hnl : ((i : Int) < s.length) := by omega
    obtain ⟨n, hn, hn2⟩ := C.sp c h
    simp only [S10_0g, S10_30L3_, S10_29, S10_28, S10_27, S10_26, S10_25, opt_s, opt_n, opt2_s, opt2_n, optH_s, test_b, eqK_s, eqH_s, fb_add, fb_sub, fb_mul, fb_eql, fb_neq, fb_lss, fb_leq, fb_gtr, fb_geq, fb_eqls, fb_neqs, not_b, pick_b, convI_i, lenStr_s, lenS_isl, lenS_sl, lenS_nil, extract_tup, decide_eq_true_eq, if_true, if_false, Bool.false_eq_true, decide_false, decide_true, Option.map_some, Option.map_none, ceq, clt1, clt2, cle1, cle2, hnl, ix_str (Int.natCast_nonneg i), Int.toNat_natCast, hc, hn]
    by_cases hsp : special c = true
    · rw [if_pos hsp] at hR
      rw [if_pos (hn2.2 hsp)]
      exact done hR
    rw [if_neg hsp] at hR
    rw [if_neg (fun e => hsp (hn2.1 e))]
    simp only [S10_24, S10_23, opt_s, opt_n, opt2_s, opt2_n, optH_s, test_b, eqK_s, eqH_s, fb_add, fb_sub, fb_mul, fb_eql, fb_neq, fb_lss, fb_leq, fb_gtr, fb_geq, fb_eqls, fb_neqs, not_b, pick_b, convI_i, lenStr_s, lenS_isl, lenS_sl, lenS_nil, extract_tup, decide_eq_true_eq, if_true, if_false, Bool.false_eq_true, decide_false, decide_true, Option.map_some, Option.map_none, ceq, clt1, clt2, cle1, cle2]
    by_cases h33 : c.toNat < 33
    · rw [if_pos (.inl h33)] at hR
      rw [if_pos h33]
      cases hR
      exact fin 12 i
    rw [if_neg h33]
    by_cases h126 : 126 < c.toNat
    · rw [if_pos (.inr h126)] at hR
      rw [if_pos h126]
      cases hR
      exact fin 12 i
    rw [if_neg (by omega)] at hR
    rw [if_neg h126, hw]
    exact ih 3 _ fr _ acc R hR (by omega) (by omega) (by omega) (by omega) v5 v6 o5 o6 h w5 w6 hne

theorem split_ok {call : CallF} (C : LexCall call) {s : List UInt8} (hs : s.length ≤ 8192) :
    ∀ (k lab i fr : Nat) (text : List UInt8) (acc : List Tok) (R : LexR), lexM s k lab i fr text acc = some R → SplitAt call s k lab i fr text acc R
  | 0, lab, i, fr, text, acc, R, hR => by simp [lexM] at hR
  | k + 1, 0, i, fr, text, acc, R, hR => split_0 C hs (split_ok C hs k) hR
  | k + 1, 1, i, fr, text, acc, R, hR => split_1 C hs (split_ok C hs k) hR
  | k + 1, 2, i, fr, text, acc, R, hR => split_2 C hs (split_ok C hs k) hR
  | k + 1, 3, i, fr, text, acc, R, hR => split_3 C hs (split_ok C hs k) hR
  | k + 1, lab + 4, i, fr, text, acc, R, hR => by simp [lexM] at hR

/-- Where a state stands: what is left of the text, and how it counts. -/
def lexLeft (s : List UInt8) (lab i fr : Nat) : Nat :=
  match lab with
  | 0 => 4 * (s.length - i) + 2
  | 2 => 4 * (s.length - i) + 1
  | _ => if i = fr then 4 * (s.length - i) + 1 else 4 * (s.length - i) + 4

theorem lexM_total (s : List UInt8) : ∀ (k lab i fr : Nat) (text : List UInt8) (acc : List Tok), lexLeft s lab i fr < k → lab < 4 → i ≤ s.length → fr ≤ i →
    (lab = 1 → i = fr → ∃ c, s[i]? = some c ∧ c.toNat = 59) → (lab = 3 → i = fr → ∃ c, s[i]? = some c ∧ special c = false) → ∃ R, lexM s k lab i fr text acc = some R := by
  intro k
  induction k with
  | zero => intro lab i fr text acc h; omega
  | succ k ih =>
    intro lab i fr text acc hl hlab hi hfr h1 h3
    have hix : ∀ c, s[i]? = some c → i < s.length := fun c h => (List.getElem?_eq_some_iff.1 h).1
    match lab, hlab with
    | 0, _ =>
      simp only [lexM]
      cases hc : s[i]? with
      | none => exact ⟨_, rfl⟩
      | some c =>
        have := hix c hc
        simp only [lexLeft] at hl
        simp only
        split
        · exact ih 0 _ _ _ _ (by simp only [lexLeft]; omega) (by omega) (by omega) (by omega) (by omega) (by omega)
        split
        · exact ih 1 _ _ _ _ (by simp only [lexLeft, if_pos]; omega) (by omega) (by omega) (by omega) (fun _ _ => ⟨c, hc, by assumption⟩) (by omega)
        split
        · exact ih 0 _ _ _ _ (by simp only [lexLeft]; omega) (by omega) (by omega) (by omega) (by omega) (by omega)
        split
        · exact ih 0 _ _ _ _ (by simp only [lexLeft]; omega) (by omega) (by omega) (by omega) (by omega) (by omega)
        split
        · exact ih 2 _ _ _ _ (by simp only [lexLeft]; omega) (by omega) (by omega) (by omega) (by omega) (by omega)
        · rename_i a1 a2 a3 a4 a5
          exact ih 3 _ _ _ _ (by simp only [lexLeft, if_pos]; omega) (by omega) (by omega) (by omega) (by omega) (fun _ _ => ⟨c, hc, by simp [special, a1, a2, a3, a4, a5]⟩)
    | 1, _ =>
      simp only [lexM]
      simp only [lexLeft] at hl
      cases hc : s[i]? with
      | none =>
        have hne : i ≠ fr := fun e => by obtain ⟨c, h2, _⟩ := h1 rfl e; rw [hc] at h2; cases h2
        rw [if_neg hne] at hl
        exact ih 0 _ _ _ _ (by simp only [lexLeft]; omega) (by omega) (by omega) (by omega) (by omega) (by omega)
      | some c =>
        have := hix c hc
        simp only
        split
        · rename_i h10
          have hne : i ≠ fr := fun e => by obtain ⟨c', h2, h5⟩ := h1 rfl e; rw [hc] at h2; cases h2; omega
          rw [if_neg hne] at hl
          exact ih 0 _ _ _ _ (by simp only [lexLeft]; omega) (by omega) (by omega) (by omega) (by omega) (by omega)
        · exact ih 1 _ _ _ _ (by simp only [lexLeft]; split at hl <;> split <;> omega) (by omega) (by omega) (by omega) (by omega) (by omega)
    | 2, _ =>
      simp only [lexM]
      simp only [lexLeft] at hl
      cases hc : s[i]? with
      | none => exact ⟨_, rfl⟩
      | some c =>
        have := hix c hc
        have er := escF_range (s.drop (i + 1))
        rw [List.length_drop] at er
        simp only
        split
        · split
          · exact ⟨_, rfl⟩
          · exact ih 0 _ _ _ _ (by simp only [lexLeft]; omega) (by omega) (by omega) (by omega) (by omega) (by omega)
        split
        · split
          · exact ⟨_, rfl⟩
          · exact ih 2 _ _ _ _ (by simp only [lexLeft]; omega) (by omega) (by omega) (by omega) (by omega) (by omega)
        split
        · exact ⟨_, rfl⟩
        · exact ih 2 _ _ _ _ (by simp only [lexLeft]; omega) (by omega) (by omega) (by omega) (by omega) (by omega)
    | 3, _ =>
      simp only [lexM]
      simp only [lexLeft] at hl
      cases hc : s[i]? with
      | none =>
        have hne : i ≠ fr := fun e => by obtain ⟨c, h2, _⟩ := h3 rfl e; rw [hc] at h2; cases h2
        rw [if_neg hne] at hl
        exact ih 0 _ _ _ _ (by simp only [lexLeft]; omega) (by omega) (by omega) (by omega) (by omega) (by omega)
      | some c =>
        have := hix c hc
        simp only
        split
        · rename_i hsp
          have hne : i ≠ fr := fun e => by obtain ⟨c', h2, h5⟩ := h3 rfl e; rw [hc] at h2; cases h2; rw [hsp] at h5; cases h5
          rw [if_neg hne] at hl
          exact ih 0 _ _ _ _ (by simp only [lexLeft]; omega) (by omega) (by omega) (by omega) (by omega) (by omega)
        split
        · exact ⟨_, rfl⟩
        · exact ih 3 _ _ _ _ (by simp only [lexLeft]; split at hl <;> split <;> omega) (by omega) (by omega) (by omega) (by omega) (by omega)
    | lab + 4, h => omega

/-- What Split answers. -/
noncomputable def splitF (s : List UInt8) : LexR := if 8192 < s.length then ⟨[], 3, 0⟩ else (lexM s (rounds + 1) 0 0 0 [] []).getD ⟨[], 0, 0⟩

theorem splitF_some {s : List UInt8} (h : s.length ≤ 8192) : lexM s (rounds + 1) 0 0 0 [] [] = some (splitF s) := by
  obtain ⟨R, hR⟩ := lexM_total s (rounds + 1) 0 0 0 [] [] (by simp only [lexLeft, rounds]; omega) (by omega) (by omega) (by omega) (by omega) (by omega)
  unfold splitF
  rw [if_neg (by omega), hR]; rfl

theorem F10_enter (call : CallF) (t : AV) (h : Heap) : S10_40 call t h = S10_0g call (rounds + 1) 0 t (.lit (.slice none 0 0)) (.lit (.slice none 0 0)) (.lit (.int .i64 (0 : Nat))) (.lit (.int .i64 (0 : Nat))) h := by kernel_rfl

theorem F10_ok {call : CallF} (C : LexCall call) (s : List UInt8) (h : Heap) : ∃ v h' o, F10 call (.lit (.string ⟨⟨s⟩⟩)) h = some (.tup [v, .lit (.int .i64 (splitF s).err), .lit (.int .i64 (splitF s).pos)], h') ∧ OwnS h' v 3 ((splitF s).toks.map tokAV) o := by
  simp only [F10, S10_41, opt_s, opt_n, opt2_s, opt2_n, optH_s, test_b, eqK_s, eqH_s, fb_add, fb_sub, fb_mul, fb_eql, fb_neq, fb_lss, fb_leq, fb_gtr, fb_geq, fb_eqls, fb_neqs, not_b, pick_b, convI_i, lenStr_s, lenS_isl, lenS_sl, lenS_nil, extract_tup, decide_eq_true_eq, if_true, if_false, Bool.false_eq_true, decide_false, decide_true, Option.map_some, Option.map_none, ceq, clt1, clt2, cle1, cle2]
  by_cases hs : 8192 < s.length
  · rw [if_pos hs]
    have : splitF s = ⟨[], 3, 0⟩ := if_pos hs
    rw [this]
    exact fin_ok h 3 0
  · rw [if_neg hs, F10_enter]
    exact split_ok C (by omega) _ 0 0 0 [] [] _ (splitF_some (by omega)) (by omega) (by omega) (by simp [rounds]) (by simp [rounds]) _ _ none none h ⟨rfl, rfl⟩ ⟨rfl, rfl⟩ (by simp)

end Go.Proofs.Ytcajleckiegffaa

namespace Go.Proofs.Ytcajleckiegffaa
set_option linter.unusedSimpArgs false
set_option linter.unusedVariables false
open Go.Am
set_option maxRecDepth 100000

/-! ### The plain law -/

/-- Where a token ends, if it stands behind a place and says what is there. -/
def tokEnd (s : List UInt8) (at_ : Nat) (t : Tok) : Option Nat :=
  if at_ ≤ t.place ∧ t.place < s.length then
    match t.kind with
    | 1 => if s[t.place]? = some 40 then some (t.place + 1) else none
    | 2 => if s[t.place]? = some 41 then some (t.place + 1) else none
    | 3 => if t.text ≠ [] ∧ t.place + t.text.length ≤ s.length ∧ (s.drop t.place).take t.text.length = t.text then some (t.place + t.text.length) else none
    | 4 => if s[t.place]? = some 34 then some (t.place + t.text.length + 2) else none
    | _ => none
  else none

def chain (s : List UInt8) : Nat → List Tok → Option Nat
  | a, [] => some a
  | a, t :: l => (tokEnd s a t).bind fun b => chain s b l

theorem chain_snoc (s : List UInt8) (t : Tok) : ∀ (l : List Tok) (a b c : Nat), chain s a l = some b → tokEnd s b t = some c → chain s a (l ++ [t]) = some c
  | [], a, b, c, h, h2 => by cases h; simp [chain, h2]
  | x :: l, a, b, c, h, h2 => by
    simp only [chain, List.cons_append] at h ⊢
    cases hx : tokEnd s a x with
    | none => rw [hx] at h; cases h
    | some d =>
      rw [hx] at h
      exact chain_snoc s t l d b c h h2

theorem tokEnd_le {s : List UInt8} {a b c : Nat} (h : a ≤ b) {t : Tok} (ht : tokEnd s b t = some c) : tokEnd s a t = some c := by
  unfold tokEnd at ht ⊢
  split at ht
  · rename_i h1
    rw [if_pos ⟨by omega, h1.2⟩]
    exact ht
  · cases ht

theorem lexM_chain (s : List UInt8) : ∀ (k lab i fr : Nat) (text : List UInt8) (acc : List Tok) (R : LexR) (e : Nat), lexM s k lab i fr text acc = some R → i ≤ s.length → chain s 0 acc = some e →
    (lab = 0 → e ≤ i) → (lab = 1 → e ≤ i) → (lab = 2 → e ≤ fr ∧ s[fr]? = some 34 ∧ fr + 1 + text.length ≤ i) → (lab = 3 → e ≤ fr ∧ fr ≤ i ∧ (i = fr → ∃ c, s[i]? = some c ∧ special c = false)) →
    (R.err = 0 ∧ ∃ e', chain s 0 R.toks = some e' ∧ e' ≤ s.length) ∨ (R.err ≠ 0 ∧ R.toks = []) := by
  intro k
  induction k with
  | zero => intro lab i fr text acc R e h; simp [lexM] at h
  | succ k ih =>
    intro lab i fr text acc R e hR hi he p0 p1 p2 p3
    have hix : ∀ c, s[i]? = some c → i < s.length := fun c h => (List.getElem?_eq_some_iff.1 h).1
    match lab with
    | 0 =>
      have p0 := p0 rfl
      simp only [lexM] at hR
      cases hc : s[i]? with
      | none => rw [hc] at hR; cases hR; exact .inl ⟨rfl, e, he, by omega⟩
      | some c =>
        have hlt := hix c hc
        rw [hc] at hR
        simp only at hR
        split at hR
        · exact ih 0 _ _ _ _ R e hR (by omega) he (by omega) (by omega) (by omega) (by omega)
        split at hR
        · exact ih 1 _ _ _ _ R e hR (by omega) he (by omega) (by omega) (by omega) (by omega)
        split at hR
        · rename_i h40
          refine ih 0 _ _ _ _ R (i + 1) hR (by omega) (chain_snoc s _ acc 0 e _ he ?_) (by omega) (by omega) (by omega) (by omega)
          have : c = 40 := UInt8.toNat_inj.1 h40
          subst this
          simp only [tokEnd]
          rw [if_pos ⟨p0, hlt⟩, if_pos hc]
        split at hR
        · rename_i h41
          refine ih 0 _ _ _ _ R (i + 1) hR (by omega) (chain_snoc s _ acc 0 e _ he ?_) (by omega) (by omega) (by omega) (by omega)
          have : c = 41 := UInt8.toNat_inj.1 h41
          subst this
          simp only [tokEnd]
          rw [if_pos ⟨p0, hlt⟩, if_pos hc]
        split at hR
        · rename_i h34
          have : c = 34 := UInt8.toNat_inj.1 h34
          exact ih 2 _ _ _ _ R e hR (by omega) he (by omega) (by omega) (fun _ => ⟨p0, by rw [hc, this], by simp⟩) (by omega)
        · rename_i a1 a2 a3 a4 a5
          exact ih 3 _ _ _ _ R e hR (by omega) he (by omega) (by omega) (by omega) (fun _ => ⟨p0, by omega, fun _ => ⟨c, hc, by simp [special, a1, a2, a3, a4, a5]⟩⟩)
    | 1 =>
      have p1 := p1 rfl
      simp only [lexM] at hR
      cases hc : s[i]? with
      | none => rw [hc] at hR; exact ih 0 _ _ _ _ R e hR hi he (by omega) (by omega) (by omega) (by omega)
      | some c =>
        have hlt := hix c hc
        rw [hc] at hR
        simp only at hR
        split at hR
        · exact ih 0 _ _ _ _ R e hR hi he (by omega) (by omega) (by omega) (by omega)
        · exact ih 1 _ _ _ _ R e hR (by omega) he (by omega) (by omega) (by omega) (by omega)
    | 2 =>
      obtain ⟨q1, q2, q3⟩ := p2 rfl
      simp only [lexM] at hR
      cases hc : s[i]? with
      | none => rw [hc] at hR; cases hR; exact .inr ⟨by simp, rfl⟩
      | some c =>
        have hlt := hix c hc
        have er := escF_range (s.drop (i + 1))
        rw [List.length_drop] at er
        rw [hc] at hR
        simp only at hR
        split at hR
        · split at hR
          · cases hR; exact .inr ⟨by simp, rfl⟩
          · refine ih 0 _ _ _ _ R (fr + text.length + 2) hR (by omega) (chain_snoc s _ acc 0 e _ he ?_) (by omega) (by omega) (by omega) (by omega)
            simp only [tokEnd]
            rw [if_pos ⟨by omega, by omega⟩, if_pos q2]
        split at hR
        · split at hR
          · cases hR; exact .inr ⟨by simp, rfl⟩
          · exact ih 2 _ _ _ _ R e hR (by omega) he (by omega) (by omega) (fun _ => ⟨q1, q2, by simp; omega⟩) (by omega)
        split at hR
        · cases hR; exact .inr ⟨by simp, rfl⟩
        · exact ih 2 _ _ _ _ R e hR (by omega) he (by omega) (by omega) (fun _ => ⟨q1, q2, by simp; omega⟩) (by omega)
    | 3 =>
      obtain ⟨q1, q2, q3⟩ := p3 rfl
      have don : i ≠ fr → lexM s k 0 i fr text (acc ++ [⟨3, fr, (s.drop fr).take (i - fr)⟩]) = some R → (R.err = 0 ∧ ∃ e', chain s 0 R.toks = some e' ∧ e' ≤ s.length) ∨ (R.err ≠ 0 ∧ R.toks = []) := by
        intro hne hR
        have hl : ((s.drop fr).take (i - fr)).length = i - fr := by rw [List.length_take, List.length_drop]; omega
        refine ih 0 _ _ _ _ R i hR hi (chain_snoc s _ acc 0 e _ he ?_) (by omega) (by omega) (by omega) (by omega)
        simp only [tokEnd]
        rw [if_pos ⟨by omega, by omega⟩, hl, if_pos ⟨fun h0 => by rw [h0] at hl; simp at hl; omega, by omega, rfl⟩]
        congr 1
        omega
      simp only [lexM] at hR
      cases hc : s[i]? with
      | none =>
        rw [hc] at hR
        exact don (fun h => by obtain ⟨c, h1, _⟩ := q3 h; rw [hc] at h1; cases h1) hR
      | some c =>
        have hlt := hix c hc
        rw [hc] at hR
        simp only at hR
        split at hR
        · rename_i hsp
          exact don (fun h => by obtain ⟨c', h1, h2⟩ := q3 h; rw [hc] at h1; cases h1; rw [hsp] at h2; cases h2) hR
        split at hR
        · cases hR; exact .inr ⟨by simp, rfl⟩
        · exact ih 3 _ _ _ _ R e hR (by omega) he (by omega) (by omega) (by omega) (fun _ => ⟨q1, by omega, fun h => by omega⟩)
    | lab + 4 => simp [lexM] at hR

theorem splitF_chain (s : List UInt8) : ((splitF s).err = 0 ∧ ∃ e', chain s 0 (splitF s).toks = some e' ∧ e' ≤ s.length) ∨ ((splitF s).err ≠ 0 ∧ (splitF s).toks = []) := by
  by_cases h : 8192 < s.length
  · have : splitF s = ⟨[], 3, 0⟩ := if_pos h
    rw [this]; exact .inr ⟨by simp, rfl⟩
  · exact lexM_chain s _ 0 0 0 [] [] _ 0 (splitF_some (by omega)) (by omega) rfl (by omega) (by omega) (by omega) (by omega)

end Go.Proofs.Ytcajleckiegffaa

namespace Go.Proofs.Ytcajleckiegffaa
set_option linter.unusedSimpArgs false
set_option linter.unusedVariables false
open Go.Am
set_option maxRecDepth 100000

/-! ### The walk of LexPlaces -/

/-- A slice as it is handed to another function. -/
def SliceV (v : AV) (sz : Nat) (es : List AV) : Prop := (v = .lit (.slice none 0 0) ∧ es = []) ∨ ∃ f, v = .isl sz f es

theorem SliceV.len {v : AV} {sz : Nat} {es : List AV} (w : SliceV v sz es) : lenS v = some (.lit (.int .i64 es.length)) := by
  rcases w with ⟨rfl, rfl⟩ | ⟨f, rfl⟩ <;> rfl

theorem SliceV.ix {v : AV} {sz : Nat} {es : List AV} (w : SliceV v sz es) {n : Nat} {e : AV} (he : es[n]? = some e) (k : IntKind) (h : Heap) : indexAddrS sz v (.lit (.int k (n : Int))) h = some (.iptr e 0) := by
  rcases w with ⟨rfl, rfl⟩ | ⟨f, rfl⟩
  · simp at he
  · rw [ixa_isl (Int.natCast_nonneg _), Int.toNat_natCast, he]; rfl

theorem SliceV.of {h : Heap} {v : AV} {sz : Nat} {es : List AV} {o : Option Nat} (w : OwnS h v sz es o) (hf : es.all free1 = true) : ∃ u ids, snap1 h v = some (u, ids) ∧ SliceV u sz es := by
  obtain ⟨ids, hi⟩ := w.snap hf
  refine ⟨_, ids, hi, ?_⟩
  cases o with
  | none => exact .inl ⟨rfl, w.2⟩
  | some id => exact .inr ⟨false, rfl⟩

def boxTok (t : Tok) : AObj := .arr ⟨3, false, false, [tokAV t]⟩

theorem tok_load (t : Tok) (h : Heap) : loadX (some 3) (.iptr (tokAV t) 0) h = some (tokAV t) := load_iptrA (n := 3) h rfl
theorem tok_box (t : Tok) (h : Heap) (k : AV → Heap → Res) :
    (opt2 (box (.agg [(.lit (.int .i64 0)), (.lit (.int .i64 0)), (.lit (.string ⟨⟨[]⟩⟩))]) h) fun p h1 => optH (storeX 3 p (tokAV t) h1) fun h2 => k p h2) = k (.ptr h.length 0 0) (h ++ [boxTok t]) := by
  have e1 := box_agg (cs := [(.lit (.int .i64 0)), (.lit (.int .i64 0)), (.lit (.string ⟨⟨[]⟩⟩))]) h (by simp) rfl
  have e2 := store_box (n := 3) (cs := [(.lit (.int .i64 0)), (.lit (.int .i64 0)), (.lit (.string ⟨⟨[]⟩⟩))]) (ds := [.lit (.int .i64 t.kind), .lit (.int .i64 t.place), .lit (.string ⟨⟨t.text⟩⟩)]) h rfl rfl (by decide) rfl
  rw [e1, opt2_s]
  show optH (storeX 3 (.ptr h.length 0 0) (tokAV t) (h ++ [.arr ⟨3, false, false, _⟩])) _ = _
  unfold tokAV
  rw [e2]
  rfl
theorem tok_kind (t : Tok) (h : Heap) : loadX none (.ptr h.length 0 0) (h ++ [boxTok t]) = some (.lit (.int .i64 t.kind)) := load_box h 3 0 false false _
theorem tok_place (t : Tok) (h : Heap) : loadX none (.ptr h.length 0 (0 + 1)) (h ++ [boxTok t]) = some (.lit (.int .i64 t.place)) := load_box h 3 1 false false _
theorem tok_text (t : Tok) (h : Heap) : loadX none (.ptr h.length 0 (0 + 2)) (h ++ [boxTok t]) = some (.lit (.string ⟨⟨t.text⟩⟩)) := load_box h 3 2 false false _
theorem tok_kind' (t : Tok) (h : Heap) : loadX none (.ptr h.length 0 (0 + 0)) (h ++ [boxTok t]) = some (.lit (.int .i64 t.kind)) := load_box h 3 0 false false _

structure SplitCall (call : CallF) : Prop where
  split : ∀ (s : List UInt8) h, ∃ v, call 10 [.lit (.string ⟨⟨s⟩⟩)] h = some (.tup [v, .lit (.int .i64 (splitF s).err), .lit (.int .i64 (splitF s).pos)], h) ∧ SliceV v 3 ((splitF s).toks.map tokAV)
  known : ∀ h, call 11 [] h = some (.lit (.bool true), h)

theorem str_ix (l : List UInt8) (k : IntKind) (n : Nat) : fastIndex (.lit (.string ⟨⟨l⟩⟩)) (.lit (.int k (n : Int))) = (l[n]?).map fun b => .lit (.int .u8 b.toNat) := by
  rw [ix_str (Int.natCast_nonneg _), Int.toNat_natCast]

theorem chain_le {s : List UInt8} : ∀ {l : List Tok} {a e : Nat}, chain s a l = some e → a ≤ e
  | [], a, e, h => by cases h; exact Nat.le_refl _
  | t :: l, a, e, h => by
    simp only [chain] at h
    cases ht : tokEnd s a t with
    | none => rw [ht] at h; cases h
    | some b =>
      rw [ht] at h
      have h1 := chain_le (l := l) (a := b) h
      unfold tokEnd at ht
      split at ht
      case isFalse => cases ht
      rename_i hp
      split at ht
      · split at ht <;> cases ht; omega
      · split at ht <;> cases ht; omega
      · split at ht <;> cases ht; omega
      · split at ht <;> cases ht; omega
      · cases ht

theorem places_loop {call : CallF} (C : SplitCall call) {s : List UInt8} (hs : s.length ≤ 8192) {toks : List Tok} {v : AV} (hv : SliceV v 3 (toks.map tokAV)) {e : Nat} (he : e ≤ s.length) (ht : toks.length ≤ 100000000000) :
    ∀ (k j a : Nat) (h : Heap), chain s a (toks.drop j) = some e → j ≤ toks.length → toks.length - j < k → ∃ h', S3_1l call k (.lit (.string ⟨⟨s⟩⟩)) v (.lit (.int .i64 a)) (.lit (.int .i64 j)) h = some (.lit (.bool true), h') := by
  intro k
  induction k with
  | zero => intro j a h _ _ hk; omega
  | succ k ih =>
    intro j a h hc hj hk
    show ∃ h', S3_14b call (S3_1l call k) _ _ _ _ h = _
    simp only [S3_14b, hv.len, opt_s, fb_lss, test_b, List.length_map, decide_eq_true_eq]
    by_cases hlt : j < toks.length
    · rw [if_pos (by omega)]
      obtain ⟨t, htj⟩ : ∃ t, toks[j]? = some t := ⟨toks[j], List.getElem?_eq_getElem hlt⟩
      have hd : toks.drop j = t :: toks.drop (j + 1) := by
        rw [List.drop_eq_getElem_cons hlt]
        rw [List.getElem?_eq_getElem hlt] at htj
        cases htj; rfl
      rw [hd] at hc
      simp only [chain] at hc
      cases hte : tokEnd s a t with
      | none => rw [hte] at hc; cases hc
      | some b =>
        rw [hte] at hc
        have hc : chain s b (toks.drop (j + 1)) = some e := hc
        have next : ∀ (n : Int) h, n = b → ∃ h', S3_2 call (S3_1l call k) (.lit (.string ⟨⟨s⟩⟩)) v (.lit (.int .i64 n)) (.lit (.int .i64 j)) h = some (.lit (.bool true), h') := by
          intro n h hn
          subst hn
          simp only [S3_2, fb_add, opt_s]
          rw [wrap64 (by omega) (by omega)]
          exact ih (j + 1) b h hc (by omega) (by omega)
        simp only [S3_13]
        rw [hv.ix (e := tokAV t) (by simp [htj]), opt_s, tok_load, opt_s, tok_box]
        unfold tokEnd at hte
        split at hte
        case isFalse => cases hte
        rename_i hp
        simp only [S3_12, fa_ptr, opt_s, tok_kind', tok_place, tok_text, lenStr_s, fb_lss, fb_geq, test_b, decide_eq_true_eq]
        rw [if_neg (by omega), if_neg (by omega)]
        simp only [S3_11, fa_ptr, opt_s, tok_kind', tok_place, tok_text, S3_10, fb_eql, S3_9, test_b, ceq, decide_eq_true_eq]
        split at hte
        · rename_i h1
          rw [h1, if_pos (by simp)]
          split at hte
          case isFalse => cases hte
          rename_i h2
          cases hte
          simp only [fa_ptr, opt_s, tok_kind', tok_place, tok_text, str_ix, h2, Option.map_some, fb_neq, test_b, fb_add]
          rw [if_neg (by simp)]
          exact next _ _ (by rw [wrap64 (by omega) (by omega)]; rfl)
        · rename_i h1
          rw [h1, if_neg (by simp)]
          simp only [S3_8, fb_eql, opt_s, S3_7, test_b, ceq, decide_eq_true_eq]
          rw [if_pos (by simp)]
          split at hte
          case isFalse => cases hte
          rename_i h2
          cases hte
          simp only [fa_ptr, opt_s, tok_kind', tok_place, tok_text, str_ix, h2, Option.map_some, fb_neq, test_b, fb_add]
          rw [if_neg (by simp)]
          exact next _ _ (by rw [wrap64 (by omega) (by omega)]; rfl)
        · rename_i h1
          rw [h1, if_neg (by simp)]
          simp only [S3_8, fb_eql, opt_s, S3_7, test_b, ceq, decide_eq_true_eq]
          rw [if_neg (by simp)]
          simp only [S3_6, fb_eql, opt_s, S3_5, test_b, ceq, decide_eq_true_eq]
          rw [if_pos (by simp)]
          split at hte
          case isFalse => cases hte
          rename_i h2
          obtain ⟨h2, h3, h4⟩ := h2
          cases hte
          have hne : ¬ (t.text.length = 0) := fun h => h2 (List.length_eq_zero_iff.1 h)
          simp only [S3_4, fa_ptr, opt_s, tok_kind', tok_place, tok_text, eqH_s, lenStr_s, fb_eql, test_b, ceq, decide_eq_true_eq, fb_add]
          rw [if_neg hne, wrap64 (by omega) (by omega), cut_str (by omega) (by omega) (by omega), opt_s]
          have e1 : ((s.drop (t.place : Int).toNat).take (((t.place : Int) + t.text.length).toNat - (t.place : Int).toNat)) = t.text := by
            rw [Int.toNat_natCast, show ((t.place : Int) + t.text.length).toNat = t.place + t.text.length by omega, Nat.add_sub_cancel_left]; exact h4
          rw [e1]
          simp only [fb_neqs, opt_s, test_b, ne_eq, not_true_eq_false, decide_false, Bool.false_eq_true, if_false, S3_3, fa_ptr, tok_kind', tok_place, tok_text, lenStr_s, fb_add]
          exact next _ _ (by rw [wrap64 (by omega) (by omega)]; rfl)
        · rename_i h1
          rw [h1, if_neg (by simp)]
          simp only [S3_8, fb_eql, opt_s, S3_7, test_b, ceq, decide_eq_true_eq]
          rw [if_neg (by simp)]
          simp only [S3_6, fb_eql, opt_s, S3_5, test_b, ceq, decide_eq_true_eq]
          rw [if_neg (by decide), if_pos (by simp)]
          split at hte
          case isFalse => cases hte
          rename_i h2
          cases hte
          simp only [fa_ptr, opt_s, tok_kind', tok_place, tok_text, str_ix, h2, Option.map_some, fb_neq, test_b, fb_add, lenStr_s]
          rw [if_neg (by simp)]
          have hle := chain_le hc
          rw [wrap64 (n := (t.place : Int) + t.text.length) (by omega) (by omega)]
          exact next _ _ (by rw [wrap64 (by omega) (by omega)]; rfl)
        · cases hte
    · rw [if_neg (by omega)]
      have : toks.drop j = [] := List.drop_eq_nil_of_le (by omega)
      rw [this] at hc
      cases hc
      simp only [S3_0, lenStr_s, opt_s, fb_leq, test_b, decide_eq_true_eq]
      rw [if_pos (by omega), C.known]
      exact ⟨_, rfl⟩
theorem chain_len {s : List UInt8} : ∀ {l : List Tok} {a e : Nat}, chain s a l = some e → l.length + a ≤ e
  | [], a, e, h => by cases h; simp
  | t :: l, a, e, h => by
    simp only [chain] at h
    cases ht : tokEnd s a t with
    | none => rw [ht] at h; cases h
    | some b =>
      rw [ht] at h
      have h1 := chain_len (l := l) (a := b) h
      unfold tokEnd at ht
      split at ht
      case isFalse => cases ht
      rename_i hp
      simp only [List.length_cons]
      split at ht
      · split at ht <;> cases ht; omega
      · split at ht <;> cases ht; omega
      · split at ht
        · rename_i h2
          cases ht
          have : t.text.length ≠ 0 := fun h => h2.1 (List.length_eq_zero_iff.1 h)
          omega
        · cases ht
      · split at ht <;> cases ht; omega
      · cases ht

theorem splitF_small (s : List UInt8) (he : (splitF s).err = 0) : s.length ≤ 8192 := by
  by_cases h : 8192 < s.length
  · have : splitF s = ⟨[], 3, 0⟩ := if_pos h
    rw [this] at he; simp at he
  · omega

theorem F3_ok {call : CallF} (C : SplitCall call) (s : List UInt8) (h : Heap) : ∃ h', F3 call (.lit (.string ⟨⟨s⟩⟩)) h = some (.lit (.bool true), h') := by
  obtain ⟨v, h1, h2⟩ := C.split s h
  have hch := splitF_chain s
  have hsm := splitF_small s
  generalize splitF s = R at h1 h2 hch hsm
  simp only [F3, S3_19, h1, opt2_s, extract_tup, List.getElem?_cons_zero, List.getElem?_cons_succ, opt_s, S3_18, fb_neq, test_b, decide_eq_true_eq]
  rcases hch with ⟨he, e, hc, hle⟩ | ⟨he, ht⟩
  · rw [if_neg (by rw [he]; simp)]
    have hs := hsm he
    have := chain_len hc
    have := places_loop C hs h2 hle (by omega) rounds 0 0 h (by simpa using hc) (by omega) (by simp only [rounds]; omega)
    simp only [S3_17, S3_16, S3_15]
    exact this
  · rw [if_pos (by omega)]
    simp only [h2.len, opt_s, fb_eql, test_b, decide_eq_true_eq, List.length_map]
    rw [if_pos (by rw [ht]; rfl), C.known]
    exact ⟨_, rfl⟩

end Go.Proofs.Ytcajleckiegffaa

namespace Go.Proofs.Ytcajleckiegffaa
set_option linter.unusedSimpArgs false
set_option linter.unusedVariables false
open Go.Am
set_option maxRecDepth 100000

/-! ### chapter 3's runs, by the machine itself -/

noncomputable def kenv : Env where
  P := Try.prog
  prim := fun _ => none
  how := fun _ => .alone
  reg := regA Try.prog
  gl := gl

theorem kenv_ok : EnvOk kenv where
  names := namesOk
  reg := fun _ h => regA_ok namesOk mixedOrders h
  prim := fun f p h => by cases h
  low := lowOk

theorem known_ran : isR (acall kenv 100 11 [] []) (.lit (.bool true)) = true := by kernel_rfl

noncomputable def knownP : List AV → Option AV := tableP [([], .lit (.bool true))]

theorem known_prim : PrimOk Try.prog gl 11 knownP := table_ok kenv_ok (n := 100) (f := 11) fun x hx => by
  rcases List.mem_singleton.1 hx with rfl
  exact isR_spec known_ran

/-! ### The table of functions -/

noncomputable def senv : SEnv where
  P := Try.prog
  prim := tabP [(11, knownP)]
  fns := tabF [(3, .alone, N3), (4, .alone, N4), (10, .alone, N10), (20, .alone, N20), (21, .alone, N21), (28, .alone, N28)]
  gl := gl

theorem senv_ok : SEnvOk senv where
  prim := tabP_ok ⟨known_prim, trivial⟩
  fns := tabF_ok ⟨N3_ok, N4_ok, N10_ok, N20_ok, N21_ok, N28_ok, trivial⟩

def hexC : AV := .lit (.string ⟨⟨[48, 49, 50, 51, 52, 53, 54, 55, 56, 57, 97, 98, 99, 100, 101, 102]⟩⟩)
def spC : AV := .lit (.string ⟨⟨[9, 10, 13, 32, 59, 40, 41, 34]⟩⟩)
def hexN (n : Nat) : Int := if 48 ≤ n ∧ n ≤ 57 then n - 48 else if 97 ≤ n ∧ n ≤ 102 then n - 87 else -1
def spN (n : Nat) : Bool := n = 9 || n = 10 || n = 13 || n = 32 || n = 59 || n = 40 || n = 41 || n = 34

theorem hex_all : ((List.range 256).all fun n => match litCall Try.prog [hexC, .lit (.int .u8 n)] 34 with
    | some (.lit (.int .i64 z)) => z == hexN n
    | _ => false) = true := by kernel_rfl
theorem sp_all : ((List.range 256).all fun n => match litCall Try.prog [spC, .lit (.int .u8 n)] 34 with
    | some (.lit (.int .i64 z)) => decide (0 ≤ z) == spN n
    | _ => false) = true := by kernel_rfl

theorem hex_lit (c : UInt8) : litCall Try.prog [hexC, .lit (.int .u8 c.toNat)] 34 = some (.lit (.int .i64 (hexD c))) := by
  have := List.all_eq_true.1 hex_all c.toNat (List.mem_range.2 c.toNat_lt)
  split at this
  · rename_i z hz
    rw [hz, eq_of_beq this]; rfl
  · cases this

theorem sp_lit (c : UInt8) : ∃ n, litCall Try.prog [spC, .lit (.int .u8 c.toNat)] 34 = some (.lit (.int .i64 n)) ∧ (0 ≤ n ↔ special c = true) := by
  have := List.all_eq_true.1 sp_all c.toNat (List.mem_range.2 c.toNat_lt)
  split at this
  · rename_i z hz
    refine ⟨z, hz, ?_⟩
    have e := eq_of_beq this
    have : special c = spN c.toNat := by simp [special, spc, spN]
    rw [this, ← e]; simp
  · cases this

theorem call28 (n : Nat) (x y r : AV) (h : Heap) (hx : snaps h [x, y] = some ([x, y], [])) (hl : litCall Try.prog [x, y] 34 = some r) (hr : ∃ ids, snapR [] r = some (r, ids)) : scall senv (n + 1) 28 [x, y] h = some (r, h) :=
  alone_call (E := senv) (f := 28) (F := N28) rfl rfl hx (r0 := r) (hc := []) (by simp only [N28, F28, hl, opt_s]) hr

theorem call21 (n : Nat) (x y r : AV) (h : Heap) (hx : ∀ h, snaps h [x, y] = some ([x, y], [])) (hl : litCall Try.prog [x, y] 34 = some r) (hr : ∃ ids, snapR [] r = some (r, ids)) : scall senv (n + 2) 21 [x, y] h = some (r, h) :=
  alone_call (E := senv) (f := 21) (F := N21) rfl rfl (hx h) (r0 := r) (hc := []) (by simp only [N21, F21, call28 n x y r [] (hx _) hl hr, opt2_s]) hr

theorem lexCall (n : Nat) : LexCall (scall senv (n + 3)) where
  hex := fun c h => call21 (n + 1) hexC _ _ h (fun _ => rfl) (hex_lit c) ⟨[], rfl⟩
  sp := fun c h => by
    obtain ⟨z, h1, h2⟩ := sp_lit c
    exact ⟨z, call21 (n + 1) spC _ _ h (fun _ => rfl) h1 ⟨[], rfl⟩, h2⟩
  esc := fun l h => alone_call (E := senv) (f := 20) (F := N20) rfl rfl rfl (hc := []) (esc_ok _ (fun c h => call21 n hexC _ _ h (fun _ => rfl) (hex_lit c) ⟨[], rfl⟩) l []) ⟨[], rfl⟩

theorem tok_free (l : List Tok) : (l.map tokAV).all free1 = true := by
  rw [List.all_eq_true]
  intro x hx
  obtain ⟨t, _, rfl⟩ := List.mem_map.1 hx
  rfl

theorem splitCall (n : Nat) : SplitCall (scall senv (n + 4)) where
  split := fun s h => by
    obtain ⟨v, hc, o, h1, h2⟩ := F10_ok (lexCall n) s []
    obtain ⟨u, ids, h3, h4⟩ := SliceV.of h2 (tok_free _)
    refine ⟨u, alone_call (E := senv) (f := 10) (F := N10) rfl rfl rfl h1 ⟨ids, ?_⟩, h4⟩
    simp only [snapR, snaps, h3, snap1_lit, List.append_nil, Option.map_some]
  known := fun h => prim_call (E := senv) (f := 11) (p := knownP) rfl rfl rfl

theorem places_ran (s : ByteArray) : scall senv 6 3 [.lit (.string s)] [] = some (.lit (.bool true), []) := by
  obtain ⟨⟨l⟩⟩ := s
  obtain ⟨h', h1⟩ := F3_ok (splitCall 1) l []
  exact alone_call (E := senv) (f := 3) (F := N3) rfl rfl rfl h1 ⟨[], rfl⟩
end Go.Proofs.Ytcajleckiegffaa

namespace Go.Proofs.Ytcajleckiegffaa
set_option linter.unusedSimpArgs false
set_option linter.unusedVariables false
open Go.Am
set_option maxRecDepth 100000

/-! ### The plain law of LexRemarks -/

theorem lexM_mono (s : List UInt8) : ∀ (k lab i fr : Nat) (text : List UInt8) (acc : List Tok) (R : LexR), lexM s k lab i fr text acc = some R → lexM s (k + 1) lab i fr text acc = some R := by
  intro k
  induction k with
  | zero => intro lab i fr text acc R h; simp [lexM] at h
  | succ k ih =>
    intro lab i fr text acc R h
    match lab with
    | 0 =>
      rw [lexM] at h ⊢
      cases hc : s[i]? with
      | none => rw [hc] at h; exact h
      | some c =>
        rw [hc] at h
        simp only at h ⊢
        repeat' (split at h <;> split <;> first | contradiction | skip)
        all_goals exact ih _ _ _ _ _ _ h
    | 1 =>
      rw [lexM] at h ⊢
      cases hc : s[i]? with
      | none => rw [hc] at h; exact ih _ _ _ _ _ _ h
      | some c =>
        rw [hc] at h
        simp only at h ⊢
        split at h <;> split <;> first | contradiction | exact ih _ _ _ _ _ _ h
    | 2 =>
      rw [lexM] at h ⊢
      cases hc : s[i]? with
      | none => rw [hc] at h; exact h
      | some c =>
        rw [hc] at h
        simp only at h ⊢
        by_cases h1 : c.toNat = 34
        · rw [if_pos h1] at h ⊢
          by_cases h2 : 200 < text.length
          · rw [if_pos h2] at h ⊢; exact h
          · rw [if_neg h2] at h ⊢; exact ih _ _ _ _ _ _ h
        rw [if_neg h1] at h ⊢
        by_cases h2 : c.toNat = 92
        · rw [if_pos h2] at h ⊢
          by_cases h3 : (escF (s.drop (i + 1))).2 = 0
          · rw [if_pos h3] at h ⊢; exact h
          · rw [if_neg h3] at h ⊢; exact ih _ _ _ _ _ _ h
        rw [if_neg h2] at h ⊢
        by_cases h3 : c.toNat < 32 ∨ 126 < c.toNat
        · rw [if_pos h3] at h ⊢; exact h
        · rw [if_neg h3] at h ⊢; exact ih _ _ _ _ _ _ h
    | 3 =>
      rw [lexM] at h ⊢
      cases hc : s[i]? with
      | none => rw [hc] at h; exact ih _ _ _ _ _ _ h
      | some c =>
        rw [hc] at h
        simp only at h ⊢
        by_cases h1 : special c = true
        · rw [if_pos h1] at h ⊢; exact ih _ _ _ _ _ _ h
        rw [if_neg h1] at h ⊢
        by_cases h2 : c.toNat < 33 ∨ 126 < c.toNat
        · rw [if_pos h2] at h ⊢; exact h
        · rw [if_neg h2] at h ⊢; exact ih _ _ _ _ _ _ h
    | lab + 4 => simp [lexM] at h

theorem lexM_more {s : List UInt8} {k m lab i fr : Nat} {text : List UInt8} {acc : List Tok} {R : LexR} (h : lexM s k lab i fr text acc = some R) (hm : k ≤ m) : lexM s m lab i fr text acc = some R := by
  obtain ⟨d, rfl⟩ := Nat.exists_eq_add_of_le hm
  induction d with
  | zero => exact h
  | succ d ih => exact lexM_mono s _ _ _ _ _ _ _ (ih (by omega))

theorem splitF_of {s : List UInt8} (hs : s.length ≤ 8192) {k : Nat} {R : LexR} (hk : k ≤ rounds + 1) (h : lexM s k 0 0 0 [] [] = some R) : splitF s = R := by
  have h1 := lexM_more h hk
  rw [splitF_some hs] at h1
  exact Option.some.inj h1

def shTok (b : Nat) (t : Tok) : Tok := ⟨t.kind, t.place + b, t.text⟩

theorem escF_append (l t : List UInt8) (h : (escF l).2 ≠ 0) : escF (l ++ t) = escF l := by
  match l with
  | [] => simp [escF] at h
  | c :: r =>
    by_cases h1 : c.toNat = 34 ∨ c.toNat = 92
    · simp only [List.cons_append, escF, if_pos h1]
    by_cases h2 : c.toNat = 110
    · simp only [List.cons_append, escF, if_neg h1, if_pos h2]
    by_cases h3 : c.toNat = 120
    · match r with
      | [] => simp only [escF, if_neg h1, if_neg h2, if_pos h3] at h; exact absurd rfl h
      | [a] => simp only [escF, if_neg h1, if_neg h2, if_pos h3] at h; exact absurd rfl h
      | a :: b :: r' => simp only [List.cons_append, escF, if_neg h1, if_neg h2, if_pos h3]
    · simp only [escF, if_neg h1, if_neg h2, if_neg h3] at h; exact absurd rfl h

theorem remark_run (s : List UInt8) : ∀ (d m i fr : Nat) (text : List UInt8) (acc : List Tok), s.length - i ≤ d → d + 2 ≤ m → (∀ (j : Nat) (c : UInt8), i ≤ j → s[j]? = some c → c.toNat ≠ 10) → lexM s m 1 i fr text acc = some ⟨acc, 0, 0⟩ := by
  intro d
  induction d with
  | zero =>
    intro m i fr text acc hd hm hn
    obtain ⟨m, rfl⟩ : ∃ q, m = q + 2 := ⟨m - 2, by omega⟩
    have hc : s[i]? = none := List.getElem?_eq_none_iff.2 (by omega)
    simp only [lexM, hc]
  | succ d ih =>
    intro m i fr text acc hd hm hn
    obtain ⟨m, rfl⟩ : ∃ q, m = q + 2 := ⟨m - 2, by omega⟩
    cases hc : s[i]? with
    | none => simp only [lexM, hc]
    | some c =>
      rw [lexM, hc]
      simp only
      rw [if_neg (hn i c (Nat.le_refl _) hc)]
      exact ih (m + 1) (i + 1) fr text acc (by omega) (by omega) (fun j c hj h => hn j c (by omega) h)

theorem lex_sim (a s t : List UInt8) (ht : ∀ c ∈ t, c.toNat ≠ 10) : ∀ (k lab i fr : Nat) (text : List UInt8) (acc : List Tok) (R : LexR), lexM s k lab i fr text acc = some R → R.err = 0 → i ≤ s.length → fr ≤ i →
    lexM (a ++ s ++ [10, 59] ++ t) (k + t.length + 6) lab (i + a.length) (fr + a.length) text (acc.map (shTok a.length)) = some ⟨R.toks.map (shTok a.length), 0, 0⟩ := by
  have hin : ∀ (i : Nat) (c : UInt8), s[i]? = some c → (a ++ s ++ [10, 59] ++ t)[i + a.length]? = some c := by
    intro i c h
    have hl := (List.getElem?_eq_some_iff.1 h).1
    rw [List.append_assoc, List.append_assoc, List.getElem?_append_right (by omega), Nat.add_sub_cancel, List.getElem?_append_left hl, h]
  have hend : (a ++ s ++ [10, 59] ++ t)[s.length + a.length]? = some 10 := by
    rw [List.append_assoc, List.append_assoc, List.getElem?_append_right (by omega), Nat.add_sub_cancel, List.getElem?_append_right (Nat.le_refl _), Nat.sub_self]; rfl
  have hend2 : (a ++ s ++ [10, 59] ++ t)[s.length + a.length + 1]? = some 59 := by
    rw [List.append_assoc, List.append_assoc, List.getElem?_append_right (by omega), show s.length + a.length + 1 - a.length = s.length + 1 by omega, List.getElem?_append_right (by omega), show s.length + 1 - s.length = 1 by omega]; rfl
  have hrest : ∀ (j : Nat) (c : UInt8), s.length + a.length + 1 ≤ j → (a ++ s ++ [10, 59] ++ t)[j]? = some c → c.toNat ≠ 10 := by
    intro j c hj h
    by_cases h1 : j = s.length + a.length + 1
    · subst h1; rw [hend2] at h; cases h; decide
    · rw [List.getElem?_append_right (by simp; omega)] at h
      exact ht c (List.mem_of_getElem? h)
  have hdone : ∀ (m fr : Nat) (text : List UInt8) (acc : List Tok), t.length + 6 ≤ m → lexM (a ++ s ++ [10, 59] ++ t) m 0 (s.length + a.length) fr text acc = some ⟨acc, 0, 0⟩ := by
    intro m fr text acc hm
    obtain ⟨m, rfl⟩ : ∃ q, m = q + 2 := ⟨m - 2, by omega⟩
    rw [lexM, hend]
    simp only
    rw [if_pos (by decide), lexM, hend2]
    simp only
    rw [if_neg (by decide), if_pos (by decide)]
    exact remark_run _ (t.length + 1) m _ _ _ _ (by simp; omega) (by omega) hrest
  have hesc : ∀ i, (escF (s.drop i)).2 ≠ 0 → i ≤ s.length → escF ((a ++ s ++ [10, 59] ++ t).drop (i + a.length)) = escF (s.drop i) := by
    intro i h hi
    have : (a ++ s ++ [10, 59] ++ t).drop (i + a.length) = s.drop i ++ ([10, 59] ++ t) := by
      rw [List.append_assoc, List.append_assoc, List.drop_append, List.drop_eq_nil_of_le (by omega), List.nil_append, Nat.add_sub_cancel, List.drop_append_of_le_length hi]
    rw [this, escF_append _ _ h]
  have hatom : ∀ i fr, i ≤ s.length → fr ≤ i → ((a ++ s ++ [10, 59] ++ t).drop (fr + a.length)).take (i + a.length - (fr + a.length)) = (s.drop fr).take (i - fr) := by
    intro i fr hi hf
    have : (a ++ s ++ [10, 59] ++ t).drop (fr + a.length) = s.drop fr ++ ([10, 59] ++ t) := by
      rw [List.append_assoc, List.append_assoc, List.drop_append, List.drop_eq_nil_of_le (by omega), List.nil_append, Nat.add_sub_cancel, List.drop_append_of_le_length (by omega)]
    rw [this, show i + a.length - (fr + a.length) = i - fr by omega, List.take_append_of_le_length (by rw [List.length_drop]; omega)]
  intro k
  induction k with
  | zero => intro lab i fr text acc R h; simp [lexM] at h
  | succ k ih =>
    intro lab i fr text acc R h he hi hf
    have hix : ∀ c, s[i]? = some c → i < s.length := fun c h => (List.getElem?_eq_some_iff.1 h).1
    rw [show k + 1 + t.length + 6 = (k + t.length + 6) + 1 by omega]
    match lab with
    | 0 =>
      rw [lexM] at h
      cases hc : s[i]? with
      | none =>
        rw [hc] at h
        cases h
        have : i = s.length := by have := List.getElem?_eq_none_iff.1 hc; omega
        subst this
        exact hdone _ _ _ _ (by omega)
      | some c =>
        have hlt := hix c hc
        rw [hc] at h
        rw [lexM, hin i c hc]
        simp only at h ⊢
        have e1 : i + a.length + 1 = i + 1 + a.length := by omega
        rw [e1]
        by_cases h1 : spc c = true
        · rw [if_pos h1] at h ⊢
          exact ih _ _ _ _ _ _ h he (by omega) (by omega)
        rw [if_neg h1] at h ⊢
        by_cases h2 : c.toNat = 59
        · rw [if_pos h2] at h ⊢
          exact ih _ _ _ _ _ _ h he (by omega) (by omega)
        rw [if_neg h2] at h ⊢
        by_cases h3 : c.toNat = 40
        · rw [if_pos h3] at h ⊢
          have := ih _ _ _ _ _ _ h he (by omega) (by omega)
          rw [List.map_append] at this
          exact this
        rw [if_neg h3] at h ⊢
        by_cases h4 : c.toNat = 41
        · rw [if_pos h4] at h ⊢
          have := ih _ _ _ _ _ _ h he (by omega) (by omega)
          rw [List.map_append] at this
          exact this
        rw [if_neg h4] at h ⊢
        by_cases h5 : c.toNat = 34
        · rw [if_pos h5] at h ⊢
          exact ih _ _ _ _ _ _ h he (by omega) (by omega)
        · rw [if_neg h5] at h ⊢
          exact ih _ _ _ _ _ _ h he (by omega) (by omega)
    | 1 =>
      rw [lexM] at h
      cases hc : s[i]? with
      | none =>
        rw [hc] at h
        have : i = s.length := by have := List.getElem?_eq_none_iff.1 hc; omega
        subst this
        rw [lexM, hend]
        simp only
        rw [if_pos (by decide)]
        exact ih _ _ _ _ _ _ h he (by omega) (by omega)
      | some c =>
        have hlt := hix c hc
        rw [hc] at h
        rw [lexM, hin i c hc]
        simp only at h ⊢
        by_cases h1 : c.toNat = 10
        · rw [if_pos h1] at h ⊢
          exact ih _ _ _ _ _ _ h he (by omega) (by omega)
        · rw [if_neg h1] at h ⊢
          have e1 : i + a.length + 1 = i + 1 + a.length := by omega
          rw [e1]
          exact ih _ _ _ _ _ _ h he (by omega) (by omega)
    | 2 =>
      rw [lexM] at h
      cases hc : s[i]? with
      | none => rw [hc] at h; cases h; simp at he
      | some c =>
        have hlt := hix c hc
        rw [hc] at h
        rw [lexM, hin i c hc]
        simp only at h ⊢
        have e1 : i + a.length + 1 = i + 1 + a.length := by omega
        rw [e1]
        by_cases h1 : c.toNat = 34
        · rw [if_pos h1] at h ⊢
          by_cases h2 : 200 < text.length
          · rw [if_pos h2] at h; cases h; simp at he
          · rw [if_neg h2] at h ⊢
            have := ih _ _ _ _ _ _ h he (by omega) (by omega)
            rw [List.map_append] at this
            exact this
        rw [if_neg h1] at h ⊢
        by_cases h2 : c.toNat = 92
        · rw [if_pos h2] at h ⊢
          by_cases h3 : (escF (s.drop (i + 1))).2 = 0
          · rw [if_pos h3] at h; cases h; simp at he
          · rw [if_neg h3] at h
            have er := escF_range (s.drop (i + 1))
            rw [List.length_drop] at er
            rw [hesc (i + 1) h3 (by omega), if_neg h3]
            have eb : escB ((a ++ s ++ [10, 59] ++ t).drop (i + 1 + a.length)) = escB (s.drop (i + 1)) := by unfold escB; rw [hesc (i + 1) h3 (by omega)]
            rw [eb, show i + a.length + (1 + (escF (s.drop (i + 1))).2.toNat) = i + (1 + (escF (s.drop (i + 1))).2.toNat) + a.length by omega]
            exact ih _ _ _ _ _ _ h he (by omega) (by omega)
        rw [if_neg h2] at h ⊢
        by_cases h3 : c.toNat < 32 ∨ 126 < c.toNat
        · rw [if_pos h3] at h; cases h; simp at he
        · rw [if_neg h3] at h ⊢
          exact ih _ _ _ _ _ _ h he (by omega) (by omega)
    | 3 =>
      rw [lexM] at h
      cases hc : s[i]? with
      | none =>
        rw [hc] at h
        have : i = s.length := by have := List.getElem?_eq_none_iff.1 hc; omega
        subst this
        rw [lexM, hend]
        simp only
        rw [if_pos (by decide), hatom _ _ (by omega) hf]
        have := ih _ _ _ _ _ _ h he (by omega) (by omega)
        rw [List.map_append] at this
        exact this
      | some c =>
        have hlt := hix c hc
        rw [hc] at h
        rw [lexM, hin i c hc]
        simp only at h ⊢
        by_cases h1 : special c = true
        · rw [if_pos h1] at h ⊢
          rw [hatom _ _ (by omega) hf]
          have := ih _ _ _ _ _ _ h he (by omega) (by omega)
          rw [List.map_append] at this
          exact this
        rw [if_neg h1] at h ⊢
        by_cases h2 : c.toNat < 33 ∨ 126 < c.toNat
        · rw [if_pos h2] at h; cases h; simp at he
        · rw [if_neg h2] at h ⊢
          have e1 : i + a.length + 1 = i + 1 + a.length := by omega
          rw [e1]
          exact ih _ _ _ _ _ _ h he (by omega) (by omega)
    | lab + 4 => simp [lexM] at h

theorem blanks_run (a r : List UInt8) (ha : ∀ c ∈ a, spc c = true) : ∀ (k i : Nat) (fr : Nat) (R : LexR), i ≤ a.length → (∀ fr, lexM (a ++ r) k 0 a.length fr [] [] = some R) → lexM (a ++ r) (k + (a.length - i)) 0 i fr [] [] = some R := by
  intro k i fr R hi h
  obtain ⟨d, hd⟩ : ∃ d, d = a.length - i := ⟨_, rfl⟩
  rw [← hd]
  induction d generalizing i fr with
  | zero =>
    have : i = a.length := by omega
    subst this
    exact h fr
  | succ d ih =>
    have hlt : i < a.length := by omega
    rw [show k + (d + 1) = (k + d) + 1 by omega, lexM, List.getElem?_append_left hlt, List.getElem?_eq_getElem hlt]
    simp only
    rw [if_pos (ha _ (List.getElem_mem hlt))]
    exact ih (i + 1) i (by omega) (by omega)

/-- A remark behind, blanks ahead: the tokens stand so much further. -/
theorem remarks_law (a s t : List UInt8) (ha : ∀ c ∈ a, spc c = true) (ht : ∀ c ∈ t, c.toNat ≠ 10) (he : (splitF s).err = 0) (hl : (a ++ s ++ [10, 59] ++ t).length ≤ 8192) :
    splitF (a ++ s ++ [10, 59] ++ t) = ⟨(splitF s).toks.map (shTok a.length), 0, 0⟩ := by
  have hs := splitF_small s he
  obtain ⟨R, hR⟩ := lexM_total s (4 * s.length + 3) 0 0 0 [] [] (by simp only [lexLeft]; omega) (by omega) (by omega) (by omega) (by omega) (by omega)
  have e : splitF s = R := splitF_of hs (by simp only [rounds]; omega) hR
  rw [e] at he ⊢
  have h1 : ∀ fr, lexM (a ++ (s ++ [10, 59] ++ t)) (4 * s.length + 3 + t.length + 6) 0 a.length fr [] [] = some ⟨R.toks.map (shTok a.length), 0, 0⟩ := by
    have := lex_sim a s t ht _ 0 0 0 [] [] R hR he (by omega) (by omega)
    simp only [Nat.zero_add, List.map_nil] at this
    intro fr
    rw [show a ++ (s ++ [10, 59] ++ t) = a ++ s ++ [10, 59] ++ t by simp]
    rw [show 4 * s.length + 3 + t.length + 6 = (4 * s.length + 3 + t.length + 5) + 1 by omega] at this ⊢
    rw [lexM] at this ⊢
    exact this
  have h2 := blanks_run a (s ++ [10, 59] ++ t) ha _ 0 0 _ (by omega) h1
  rw [show a ++ (s ++ [10, 59] ++ t) = a ++ s ++ [10, 59] ++ t by simp] at h2
  simp only [List.length_append, List.length_cons, List.length_nil] at hl
  exact splitF_of (by simp; omega) (by simp only [rounds]; omega) h2

end Go.Proofs.Ytcajleckiegffaa
