import Derived.Test.YtcajleckiegffaaTr2
namespace Go.Proofs.Ytcajleckiegffaa
set_option linter.unusedSimpArgs false
set_option linter.unusedVariables false
open Go.Am
set_option maxRecDepth 100000

theorem bslice_mark {sz : Nat} {z t v : AV} {ids : List Nat} {h : Heap} (h1 : (cellsOf t).length = sz) (h2 : (cellsOf t).all okCell = true) (hf : snap1 h (reElem (cellsOf t)) = some (v, ids)) :
    bsliceX sz z 1 [(0, t)] h = some (.isl sz true [v], Am.mark ids h) := by
  unfold bsliceX
  have : setElems sz (List.replicate 1 (reElem (cellsOf z))) [(0, t)] = some [reElem (cellsOf t)] := by
    simp [setElems, h1, h2, List.replicate]
  rw [this]
  simp only [snaps, hf, List.append_nil]

theorem load_done {h : Heap} {B : Nat} {c : AV} (hl : (cellsOf c).length = 4) (hre : reElem (cellsOf c) = c) (hB : h[B]? = some (.arr ⟨4, false, false, [c]⟩)) : loadX (some 4) (.ptr B 0 0) h = some c := by
  unfold loadX
  simp only [hB, List.getElem?_cons_zero]
  have : readX (some 4) (cellsOf c) 0 = some (.agg (cellsOf c)) := readX_all hl.symm
  rw [this, ← reElem_agg (by rw [hl]; decide), hre]

/-- A whole tree where none is open. -/
theorem PInv.addWhole {h : Heap} {b : Nat} {v8 v9 : AV} {whole : List T} {o8 o9 : Option Nat} {os : List (Option Nat)} {i : Nat} (p : PInv h b v8 v9 [] whole o8 o9 os i) (hi : i ≤ 1000000)
    {c : AV} {t : T} {ids : List Nat} (d : Done h c t ids) (hids : ∀ id ∈ ids, ¬ Held b o8 o9 os id ∧ id < h.length) {B : Nat} (hB : h[B]? = some (.arr ⟨4, false, false, [c]⟩))
    (call : CallF) (r1 : AV → AV → AV → AV → AV → AV → AV → Heap → Res) (t0 t2 t31 t32 : AV) (j : Nat) (hj : j ≤ 1000000) :
    ∃ h' v9' o9', S12_2 call r1 t0 t2 v8 v9 (.ptr B 0 0) t31 t32 (.lit (.int .i64 j)) h = r1 t0 t2 v8 v9' t31 t32 (.lit (.int .i64 (j + 1 : Nat))) h' ∧ PInv h' b v8 v9' [] (whole ++ [t]) o8 o9' os (i + 1) := by
  obtain ⟨v, hsn, htv⟩ := d.ex
  obtain ⟨ws, w1, w2⟩ := p.wh
  have hwl : ws.length ≤ i := by rw [w2.length]; exact p.s3
  have hlen := p.stack.len
  have hz := bslice_mark (sz := 4) (z := zeroT4) (t := c) (v := v) (ids := ids) (h := h) d.len d.ok (by rw [d.re]; exact hsn)
  have hm : ∀ id, Held b o8 o9 os id → (Am.mark ids h)[id]? = h[id]? := fun id hid => mark_get (fun e => (hids id e).1 hid) h
  have pm := p.mono (Nat.le_refl _) hm
  have w1m : OwnS (Am.mark ids h) v9 4 ws o9 := OwnS.mono w1 fun id e => hm id (.inr (.inr (.inl e)))
  have ha := w1m.append (bytes := 56) (f := true) (ys := [v]) (by simp) (by simp; omega)
  have hos : os = [] := by
    have w := p.stack
    cases o8 with
    | none => exact w.2.2
    | some id =>
      obtain ⟨cs, junk, _, _, hr⟩ := w
      exact List.length_eq_zero_iff.1 hr.length.2
  subst hos
  unfold zeroT4 at hz
  simp only [S12_2, hlen, List.length_nil, opt_s, fb_eql, test_b, decide_eq_true_eq]
  rw [if_pos (by simp), load_done d.len d.re hB, opt_s, hz, opt2_s, ha, opt2_s, fb_add, opt_s, wrap64 (by omega) (by omega)]
  refine ⟨_, _, some (Am.mark ids h).length, rfl, ?_⟩
  have fr : ∀ (y : List AObj) id, Held b o8 o9 [] id → o9 ≠ some id → (kill (Am.mark ids h) o9 ++ y)[id]? = h[id]? := fun y id hid hne => by
    rw [kill_get hne (pm.lt hid), hm id hid]
  refine ⟨?_, ?_, ?_, ?_, ?_, by simp, .nil, by simp, by simp, ?_⟩
  · rw [fr _ b (.inl rfl) (fun e => (p.n2 b e).1 rfl)]; exact p.box
  · exact p.stack.mono fun id hid => by
      rcases hid with e | e
      · exact fr _ id (.inr (.inl e)) (p.n1 id e).2.1
      · cases e
  · exact ⟨ws ++ [v], by simpa using OwnS.appended (h := Am.mark ids h) (o := o9) (sz := 4) (es := ws ++ [v]), w2.append (.cons htv .nil)⟩
  · intro id e
    refine ⟨(p.n1 id e).1, fun e2 => ?_, by simp⟩
    have := pm.lt (.inr (.inl e) : Held b o8 o9 [] id)
    cases e2
    omega
  · intro id e
    cases e
    refine ⟨fun e2 => ?_, by simp⟩
    have := pm.lt (.inl rfl : Held b o8 o9 [] b)
    omega
  · have := p.s3; simp; omega

end Go.Proofs.Ytcajleckiegffaa
