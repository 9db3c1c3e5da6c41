import Derived.Test.YtcajleckiegffaaTr5
namespace Go.Proofs.Ytcajleckiegffaa
set_option linter.unusedSimpArgs false
set_option linter.unusedVariables false
open Go.Am
set_option maxRecDepth 100000

/-- What tree.Parse answers. -/
noncomputable def parseF (s : List UInt8) : ParseR :=
  if (splitF s).err ≠ 0 then ⟨noTree, (splitF s).err, (splitF s).pos⟩ else if (splitF s).toks.length = 0 then ⟨noTree, 12, s.length⟩ else parseM s.length (splitF s).toks [] []

theorem splitF_len (s : List UInt8) : (splitF s).toks.length ≤ 8192 := by
  rcases splitF_chain s with ⟨he, e, hc, hle⟩ | ⟨_, ht⟩
  · have := chain_len hc
    have := splitF_small s he
    omega
  · rw [ht]; simp

theorem F12_ok {call : CallF} (C : SplitCall call) (s : List UInt8) (h : Heap) :
    ∃ v h', F12 call (.lit (.string ⟨⟨s⟩⟩)) h = some (.tup [v, .lit (.int .i64 (parseF s).err), .lit (.int .i64 (parseF s).pos)], h') ∧ TreeV v (parseF s).tree := by
  obtain ⟨u, h1, h2⟩ := C.split s (h ++ [.arr ⟨4, false, false, [zeroT4]⟩])
  have hl := splitF_len s
  unfold parseF
  generalize splitF s = R at h1 h2 hl
  have hb := box_agg (cs := [.lit (.int .i64 0), .lit (.int .i64 0), .lit (.string ⟨⟨[]⟩⟩), .lit (.slice none 0 0)]) h (by simp) rfl
  have gb : (h ++ [AObj.arr ⟨4, false, false, [zeroT4]⟩])[h.length]? = some (.arr ⟨4, false, false, [zeroT4]⟩) := get_last _ _
  have e0 : buildX [.lit (.int .i64 0), .lit (.int .i64 0), .lit (.string ⟨⟨[]⟩⟩), .lit (.slice none 0 0)] [(0, 1), (1, 1), (2, 1), (3, 1)] [] = some zeroT4 := rfl
  have e2 : storeX 4 (.ptr h.length 0 0) zeroT4 (h ++ [.arr ⟨4, false, false, [zeroT4]⟩]) = some ((h ++ [AObj.arr ⟨4, false, false, [zeroT4]⟩]).set h.length (.arr ⟨4, false, false, [zeroT4]⟩)) := store_at gb rfl rfl (by decide) rfl
  have e4 : loadX (some 4) (.ptr h.length 0 0) ((h ++ [AObj.arr ⟨4, false, false, [zeroT4]⟩]).set h.length (.arr ⟨4, false, false, [zeroT4]⟩)) = some zeroT4 := loadA_at (cs := [_, _, _, _]) (List.getElem?_set_self (by simp)) rfl
  simp only [F12]
  rw [hb, opt2_s]
  show ∃ v h', S12_17 call _ _ (h ++ [.arr ⟨4, false, false, [zeroT4]⟩]) = _ ∧ _
  simp only [S12_17, h1, opt2_s, extract_tup, List.getElem?_cons_zero, List.getElem?_cons_succ, opt_s, S12_16, fb_neq, test_b, decide_eq_true_eq]
  by_cases he : R.err = 0
  case neg =>
    rw [if_pos (by omega), if_pos he, e0, opt_s, e2, optH_s, e4, opt_s]
    exact ⟨_, _, rfl, zeroV⟩
  rw [if_neg (by omega), if_neg (by simp [he])]
  simp only [S12_15, h2.len, opt_s, fb_eql, test_b, decide_eq_true_eq, List.length_map]
  by_cases ht : R.toks.length = 0
  · rw [if_pos (by omega), if_pos ht, e0, opt_s, lenStr_s, opt_s, e2, optH_s, e4, opt_s]
    exact ⟨_, _, rfl, zeroV⟩
  rw [if_neg (by omega), if_neg ht]
  simp only [S12_14, S12_13, S12_12, h2.len, opt_s, S12_11, List.length_map]
  have p0 : PInv (h ++ [.arr ⟨4, false, false, [zeroT4]⟩]) h.length (.lit (.slice none 0 0)) (.lit (.slice none 0 0)) [] [] none none [] 0 :=
    ⟨gb, ⟨rfl, rfl, rfl⟩, ⟨[], ⟨rfl, rfl⟩, .nil⟩, (fun id e => by cases e), (fun id e => by cases e), (by simp), .nil, (by simp), (by simp), (by simp)⟩
  have := parse_loop (call := call) (s := s) h2 (by omega) (by omega) rounds 0 [] [] _ _ _ _ _ _ p0 (by omega) (fun _ _ => rfl) (by simp only [rounds]; omega)
  rw [List.drop_zero] at this
  exact this

structure ParseCall (call : CallF) : Prop where
  parse : ∀ (s : List UInt8) h, ∃ v, call 12 [.lit (.string ⟨⟨s⟩⟩)] h = some (.tup [v, .lit (.int .i64 (parseF s).err), .lit (.int .i64 (parseF s).pos)], h) ∧ TreeV v (parseF s).tree

end Go.Proofs.Ytcajleckiegffaa
