import Derived.Test.YtcajleckiegffaaTr3
namespace Go.Proofs.Ytcajleckiegffaa
set_option linter.unusedSimpArgs false
set_option linter.unusedVariables false
open Go.Am
set_option maxRecDepth 100000

theorem load_at {H : Heap} {b n off : Nat} {r sh : Bool} {cs : List AV} (hb : H[b]? = some (.arr ⟨n, r, sh, [.agg cs]⟩)) : loadX none (.ptr b 0 off) H = cs[off]? := by
  unfold loadX
  simp only [hb, List.getElem?_cons_zero, cellsOf, readX]

theorem loadA_at {H : Heap} {b n m : Nat} {r sh : Bool} {cs : List AV} (hb : H[b]? = some (.arr ⟨n, r, sh, [.agg cs]⟩)) (hm : m = cs.length) : loadX (some m) (.ptr b 0 0) H = some (.agg cs) := by
  unfold loadX
  simp only [hb, List.getElem?_cons_zero]
  exact readX_all hm

theorem store_at {H : Heap} {b n : Nat} {cs ds : List AV} (hb : H[b]? = some (.arr ⟨n, false, false, [.agg cs]⟩)) (hn : n = cs.length) (hl : ds.length = cs.length) (h1 : n ≠ 1) (h2 : ds.all okCell = true) :
    storeX n (.ptr b 0 0) (.agg ds) H = some (H.set b (.arr ⟨n, false, false, [.agg ds]⟩)) := by
  have key : (if n = (cellsOf (.agg ds)).length ∧ 0 + (cellsOf (.agg ds)).length ≤ (cellsOf (.agg cs)).length ∧ (cellsOf (.agg ds)).all okCell = true then
      some (H.set b (.arr { (⟨n, false, false, [.agg cs]⟩ : Arr) with elems := [AV.agg cs].set 0 (reElem (overwrite (cellsOf (.agg cs)) 0 (cellsOf (.agg ds)))) })) else none) = some (H.set b (.arr ⟨n, false, false, [.agg ds]⟩)) := by
    rw [if_pos ⟨by simp only [cellsOf]; omega, by simp only [cellsOf]; omega, h2⟩]
    simp only [cellsOf]
    rw [overwrite_all hl, reElem_agg (by omega)]
    rfl
  unfold storeX
  simp only [hb, Bool.false_eq_true, false_and, if_false, List.getElem?_cons_zero]
  exact key

/-- The top of the stack taken off. -/
theorem PInv.pop {h : Heap} {b : Nat} {v8 v9 : AV} {st0 : List (Nat × List T)} {pl : Nat} {ks : List T} {whole : List T} {o8 o9 : Option Nat} {os : List (Option Nat)} {i : Nat} (p : PInv h b v8 v9 (st0 ++ [(pl, ks)]) whole o8 o9 os i) :
    ∃ a kv ids v8' os0, indexAddrS 4 v8 (.lit (.int .i64 ((st0.length : Nat) : Int))) h = some a ∧ loadX (some 4) a h = some (openCell pl kv) ∧
      (∀ H : Heap, (∀ id, Held b o8 o9 os id → H[id]? = h[id]?) → cutX 4 v8 none (some (.lit (.int .i64 ((st0.length : Nat) : Int)))) none H = some v8') ∧
      PInv h b v8' v9 st0 whole o8 o9 os0 i ∧ Done h (openCell pl kv) (.mk 1 pl [] ks) ids ∧ okCell kv = true ∧ (∀ id ∈ ids, ¬ Held b o8 o9 os0 id ∧ Held b o8 o9 os id) ∧ (∀ id, Held b o8 o9 os0 id → Held b o8 o9 os id) := by
  have hw := p.stack
  cases o8 with
  | none =>
    obtain ⟨_, h1, _⟩ := hw
    simp at h1
  | some id8 =>
    obtain ⟨cs, junk, rfl, h2, hr⟩ := hw
    obtain ⟨cs0, os0, kv, o, rfl, rfl, hr0, es, hk, hlv⟩ := hr.inv rfl
    have hl0 := hr0.length.1
    have n1 := p.n1 id8 rfl
    have pw := p.n4
    rw [List.pairwise_append] at pw
    have sub : ∀ id, Held b (some id8) o9 os0 id → Held b (some id8) o9 (os0 ++ [o]) id := fun id hid => by
      rcases hid with e | e | e | e
      · exact .inl e
      · exact .inr (.inl e)
      · exact .inr (.inr (.inl e))
      · exact .inr (.inr (.inr (List.mem_append_left _ e)))
    have gi : (cs0 ++ [openCell pl kv] ++ junk)[cs0.length]? = some (openCell pl kv) := by simp
    have hkk : ∃ v ids, snap1 h (openCell pl kv) = some (v, ids) ∧ TreeV v (.mk 1 pl [] ks) ∧ okCell kv = true ∧ ∀ id ∈ ids, o = some id := by
      cases o with
      | none =>
        obtain ⟨rfl, rfl⟩ := hk
        have : ks = [] := by cases hlv; rfl
        subst this
        exact ⟨_, [], rfl, .mk .nil, rfl, fun id h => by cases h⟩
      | some kid =>
        obtain ⟨rfl, hkid⟩ := hk
        refine ⟨.agg [.lit (.int .i64 1), .lit (.int .i64 pl), .lit (.string ⟨⟨[]⟩⟩), .isl 4 false es], [kid], ?_, .mk (.isl hlv), rfl, fun id h => by rw [List.mem_singleton] at h; rw [h]⟩
        have hsc : snapCell h (.sl kid 0 es.length false) = some (.isl 4 false es, [kid]) := by
          simp only [snapCell, hkid]
          rw [if_pos (by simp)]
          simp [hlv.free]
        simp only [openCell, snap1, snapCells, hsc, snapCell_free (v := .lit _) rfl, Option.map_some, List.nil_append, List.append_nil]
    obtain ⟨v, ids, s1, s2, s3, s4⟩ := hkk
    refine ⟨.ptr id8 cs0.length 0, kv, ids, .sl id8 0 cs0.length false, os0, ?_, ?_, ?_, ?_, ?_, s3, ?_, sub⟩
    · rw [← hl0]
      unfold indexAddrS intLit
      simp only [h2, Int.natCast_nonneg, if_true, Int.toNat_natCast]
      rw [if_pos ⟨trivial, by simp, by simp⟩, Nat.zero_add]
    · unfold loadX
      simp only [h2, gi]
      exact readX_all rfl
    · intro H hH
      have hH8 := hH id8 (.inr (.inl rfl))
      rw [← hl0]
      unfold cutX
      simp only [hH8, h2, bound, intLit, Int.natCast_nonneg, if_true, Int.toNat_natCast, Option.isSome_none, Bool.false_eq_true, false_and, if_false]
      rw [if_pos ⟨Nat.zero_le _, by simp, Nat.le_refl _⟩]
      simp
    · refine ⟨p.box, ⟨cs0, [openCell pl kv] ++ junk, rfl, by rw [h2]; simp, hr0⟩, p.wh, ?_, ?_, ?_, pw.1, ?_, ?_, p.s3⟩
      · intro id e
        exact ⟨(p.n1 id e).1, (p.n1 id e).2.1, fun e2 => (p.n1 id e).2.2 (List.mem_append_left _ e2)⟩
      · intro id e
        exact ⟨(p.n2 id e).1, fun e2 => (p.n2 id e).2 (List.mem_append_left _ e2)⟩
      · exact fun e => p.n3 (List.mem_append_left _ e)
      · have := p.s1; simp at this; omega
      · exact fun x hx => p.s2 x (List.mem_append_left _ hx)
    · refine ⟨⟨v, s1, s2⟩, rfl, ?_, rfl⟩
      simp [openCell, cellsOf, okCell, cellOk] at s3 ⊢
      exact s3
    · intro id hid
      have ho := s4 id hid
      subst ho
      refine ⟨fun hh => ?_, .inr (.inr (.inr (by simp)))⟩
      rcases hh with e | e | e | e
      · exact p.n3 (by rw [← e]; simp)
      · cases e; exact n1.2.2 (by simp)
      · exact (p.n2 id e).2 (by simp)
      · exact pw.2.2 _ e (some id) (by simp) id rfl rfl

end Go.Proofs.Ytcajleckiegffaa
