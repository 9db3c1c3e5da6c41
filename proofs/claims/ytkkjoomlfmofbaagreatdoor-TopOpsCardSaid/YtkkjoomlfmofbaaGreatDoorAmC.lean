import Derived.Test.YtkkjoomlfmofbaaGreatDoorAmB
import Derived.Below
set_option linter.unusedSimpArgs false
set_option linter.unusedVariables false
set_option linter.unusedSectionVars false
/-! Operations: make, conversions, copy; all of them together. -/
namespace Go.Am

variable {P : Program} {g : Gh} {h : Heap} {w : World}

theorem makeSlice_run [Nu] (r : R g h w) {t : TypeId} {l c y : AV} {vl vc : Value} {h' : Heap} (hl : V g h w l vl) (hc : V g h w c vc) (hm : makeSlice P t l c h = some (y, h')) :
    ∃ u w' g', (Instr.makeSlice t vl vc).run P w = .ok u w' ∧ V g' h' w' y u ∧ Post g h w g' h' w' ∧ R g' h' w' := by
  unfold makeSlice at hm
  split at hm
  · rename_i n c' eT hn hc' he
    have ht := elemT_inv he
    obtain ⟨k1, rfl⟩ := intLit_inv hl hn
    obtain ⟨k2, rfl⟩ := intLit_inv hc hc'
    split at hm
    · rename_i i hi
      split at hm
      · cases hm
      · rename_i h0
        have e47 : (2 : Nat) ^ 47 = 140737488355328 := by decide
        have h0' : 0 < i.size ∧ n ≤ c' ∧ c' * (i.bytes + 1) ≤ 140737488355328 := by omega
        have hcb : c' * i.bytes + c' ≤ 140737488355328 := by have := h0'.2.2; rw [Nat.mul_add, Nat.mul_one] at this; exact this
        cases hz : i.zero with
        | none => rw [hz] at hm; cases hm
        | some z =>
          rw [hz] at hm
          simp only [Option.map_some] at hm
          split at hm
          · cases hm
          · rename_i hzz
            have hzl : (cellsOf (ofVal z)).length = i.size := Classical.byContradiction fun q => hzz (.inl q)
            have hzok : (cellsOf (ofVal z)).all okCell = true := by
              cases hh : (cellsOf (ofVal z)).all okCell
              · exact absurd (Or.inr hh) hzz
              · rfl
            have hzs : z.cells.size = i.size := by rw [← (CV.ofVal (g := g) (h := h) (w := w) z).1]; exact hzl
            have ti : ∀ w, (typeInfo eT).run P w = .ok i w := fun w => by simp [typeInfo, hi]
            have so : ∀ w, (sizeOf eT).run P w = .ok i.size w := fun w => by simp [sizeOf, ti]
            have zv : ∀ w, (zeroValue eT).run P w = .ok z w := fun w => by simp [zeroValue, ti, hz]
            have run : (Instr.makeSlice t (.int k1 (n : Int)) (.int k2 (c' : Int))).run P w = .ok (.slice (some ⟨w.heap.size, 0, none⟩) n c') (w.alloc (.cells ((Array.range (c' * i.size)).map fun k => z.cells[k % z.cells.size]!) eT)) := by
              have wn := wrap_i64 (n := (n : Int)) ⟨by omega, by omega⟩
              have wc := wrap_i64 (n := (c' : Int)) ⟨by omega, by omega⟩
              have hb : ¬ (281474976710656 < (i.bytes : Int) * (c' : Int)) := by
                have : (i.bytes : Int) * (c' : Int) = ((c' * i.bytes : Nat) : Int) := by rw [Int.natCast_mul, Int.mul_comm]
                rw [this]; omega
              have hnc : ¬ ((c' : Int) < (n : Int)) := by omega
              have hneg : ¬ ((c' : Int) < 0) := by omega
              have hneg2 : ¬ ((n : Int) < 0) := by omega
              by_cases hc0 : c' = 0
              · have r0 : ∀ f : Nat → Value, #[] = (Array.range 0).map f := fun f => by simp
                have hn0 : n = 0 := by omega
                subst hc0; subst hn0
                simp [Instr.makeSlice, run_underlying ht, asInt, asIntOf, ti, so, newRow, ← r0, IntKind.wrap_i64]
              · have hne : ¬ (c' * i.size = 0) := fun q => by rcases Nat.mul_eq_zero.1 q with q | q <;> omega
                have hne' : ¬ (c' = 0 ∨ i.size = 0) := by omega
                simp only [Instr.makeSlice, Sem.run_bind, run_underlying ht, Result.andThen_ok, asInt, asIntOf, Sem.run_pure, ti, wn, wc]
                simp [hb, hnc, hneg, hneg2, zv, newRow, so, hne]
            cases hc0 : Nat.beq c' 0 && ptrZero (ofVal z) with
            | true =>
              have hpz := (Bool.and_eq_true _ _ ▸ hc0).2
              have hc0 := Nat.eq_of_beq_eq_true (Bool.and_eq_true _ _ ▸ hc0).1
              have hn0 : n = 0 := by omega
              rw [hc0] at hm
              simp only [Nat.beq_refl, hpz, Bool.and_self, cond_true] at hm
              cases hm
              have hB := (Go.RowKit.Below.refl w.heap.size w).alloc (Nat.le_refl _) (.cells ((Array.range (c' * i.size)).map fun k => z.cells[k % z.cells.size]!) eT)
              obtain ⟨p1, r1⟩ := frame_ok r hB.block hB.size hB.os hB.tape hB.output g.I (fun _ _ h => h) (fun _ _ h => .inl h)
              subst hn0
              exact ⟨_, _, _, run, .deep (.isl (l := []) (fun _ _ => undef) (Nat.zero_le _) (fun _ => hc0) (fun i e he => by simp at he) (fun h => absurd rfl h) (fun i e j c he => by simp at he) (fun i e j c he => by simp at he)), p1, r1⟩
            | false =>
            rw [hc0] at hm
            simp only [cond_false] at hm
            cases hm
            have base := Rows.zeros (g := g) (h := h) (w := w) hzs hzl hzok h0'.1 h0'.2.1
            obtain ⟨p1, r1⟩ := new_row r i.size true false _ _ eT h0'.1 base.len base.okc base.size base.rel
            refine ⟨_, _, _, run, .sl (by simp [new]) h0'.2.1 (fun hf => ?_) (fun _ A hA => ?_) (fun A hA => ?_), p1, r1⟩
            · simpa using (eq_comm.1 (beq_iff_eq.1 hf))
            · unfold new at hA
              rw [getElem_snoc] at hA
              simp only [Nat.lt_irrefl, if_false, if_true, Option.some.injEq, AObj.arr.injEq] at hA
              subst hA
              simp
              exact h0'.2.1
            · unfold new at hA
              rw [getElem_snoc] at hA
              simp only [Nat.lt_irrefl, if_false, if_true, Option.some.injEq, AObj.arr.injEq] at hA
              subst hA
              rw [Gh.push_new]
              refine ⟨fun _ => by simp, fun T m hn => ?_⟩
              have : (w.alloc (.cells ((Array.range (c' * i.size)).map fun k => z.cells[k % z.cells.size]!) eT)).shape? w.heap.size = some (eT, c' * i.size) := by
                unfold World.shape?; rw [heap_alloc_at]; simp
              rw [this] at hn
              cases hn
              simp
    · cases hm
  · cases hm

/-! ### Conversions -/

theorem bytesWorld_eq (w : World) (e : TypeId) (s : ByteArray) :
    Lib.bytesWorld w e s = w.drew.alloc (.cells (Lib.bytesCells w e s) e ((Lib.bytesCells w e s).size, (Lib.bytesCells w e s).size + 1)) := by
  have hh : (Lib.bytesWorld w e s).heap = (w.drew.alloc (.cells (Lib.bytesCells w e s) e ((Lib.bytesCells w e s).size, (Lib.bytesCells w e s).size + 1))).heap := by
    apply Array.ext_getElem?
    intro j
    rcases Nat.lt_trichotomy j w.heap.size with hj | hj | hj
    · rw [Lib.bytesWorld_at_old w e s j hj, heap_alloc_lt w.drew _ (by simpa using hj)]; rfl
    · subst hj
      rw [Lib.bytesWorld_at_new]
      exact (heap_alloc_at w.drew _).symm
    · rw [Array.getElem?_eq_none (by rw [Lib.bytesWorld_size]; omega), Array.getElem?_eq_none (by simp; omega)]
  unfold Lib.bytesWorld World.freeze at hh ⊢
  simp only [Nat.one_ne_zero, if_false] at hh ⊢
  rw [hh]
  rfl

theorem bytesOf_inv [Nu] {sz : Nat} : ∀ {ys : List AV} {bs : List UInt8} {cs : List Value}, bytesOf ys = some bs → cs.length = ys.length →
    (∀ (i : Nat) (e : AV), ys[i]? = some e → ∃ u, cs[i]? = some u ∧ V g h w e u) → ∃ ns : List Int, cs = ns.map (Value.int .u8) ∧ ns.map (fun n => UInt8.ofNat n.toNat) = bs
  | [], bs, cs, hb, hl, _ => by
    simp only [bytesOf, Option.some.injEq] at hb
    subst hb
    have : cs = [] := by simpa using hl
    exact ⟨[], by simp [this], rfl⟩
  | y :: ys, bs, cs, hb, hl, hr => by
    obtain ⟨u, hu, hv⟩ := hr 0 y rfl
    cases cs with
    | nil => simp at hl
    | cons c cs =>
      simp at hu
      subst hu
      cases y with
      | lit v =>
        cases v with
        | int k n =>
          cases k <;> simp only [bytesOf] at hb <;> first | (cases hb; done) | skip
          cases hb2 : bytesOf ys with
          | none => rw [hb2] at hb; cases hb
          | some bs' =>
            rw [hb2] at hb
            cases hb
            obtain ⟨ns, h1, h2⟩ := bytesOf_inv (sz := sz) hb2 (by simpa using hl) (fun i e he => by simpa using hr (i + 1) e (by simpa using he))
            exact ⟨n :: ns, by simp [h1, hv.lit_inv], by simp [h2]⟩
        | _ => simp [bytesOf] at hb
      | _ => simp [bytesOf] at hb

theorem foldl_push : ∀ (ns : List Int) (s : ByteArray), (ns.foldl (fun r n => r.push (UInt8.ofNat n.toNat)) s).data.toList = s.data.toList ++ ns.map fun n => UInt8.ofNat n.toNat
  | [], s => by simp
  | n :: ns, s => by
    rw [List.foldl_cons, foldl_push ns]
    simp [ByteArray.push]

theorem convert_run [Nu] (r : R g h w) {s d : TypeId} {x y : AV} {v : Value} (hv : V g h w x v) (hc : convert P s d x h = some y) :
    ∃ u w' g', (Go.convert s d v).run P w = .ok u w' ∧ V g' h w' y u ∧ Post g h w g' h w' ∧ R g' h w' := by
  unfold convert at hc
  split at hc
  · rename_i e hs hd
    split at hc
    · rename_i str he
      cases hc
      have := hv.lit_inv; subst this
      obtain ⟨pd, rd⟩ := drew_ok r
      obtain ⟨pn, rn⟩ := new_imm rd (Lib.bytesCells w e str) e ((Lib.bytesCells w e str).size, (Lib.bytesCells w e str).size + 1)
      have run := Lib.run_convert_string_bytes w s d e str hs hd he
      rw [bytesWorld_eq] at run
      have hsz : str.size = str.data.toList.length := by show str.data.size = _; rw [Array.length_toList]
      have hcs : (Lib.bytesCells w e str).size = grownCap w str.size 0 e := by
        have := le_grownCap w str.size 0 e
        unfold Lib.bytesCells
        have h3 : str.data.size = str.size := rfl
        simp [h3]; omega
      refine ⟨_, _, _, run, ?_, pd.trans pn, rn⟩
      have hl : (str.data.toList.map fun b => AV.lit (.int .u8 b.toNat)).length = str.size := by rw [List.length_map, hsz]
      rw [← hl]
      have hg : ∀ (i : Nat) (x : AV), (str.data.toList.map fun b => AV.lit (.int .u8 b.toNat))[i]? = some x → ∃ b, str.data.toList[i]? = some b ∧ x = .lit (.int .u8 b.toNat) := by
        intro i x hx
        rw [List.getElem?_map] at hx
        cases hb : str.data.toList[i]? with
        | none => rw [hb] at hx; cases hx
        | some b => rw [hb] at hx; cases hx; exact ⟨b, rfl, rfl⟩
      have hcell : ∀ (i : Nat) (b : UInt8), str.data.toList[i]? = some b → (Lib.bytesCells w e str)[i]? = some (.int .u8 b.toNat) := by
        intro i b hb
        have hlt := lt_of_get hb
        unfold Lib.bytesCells
        rw [Array.getElem?_append_left (by simpa using hlt), Array.getElem?_map, ← Array.getElem?_toList, hb]; rfl
      refine .deep (.isl (fun i j => (Lib.bytesCells w e str).getD (i * 1 + j) undef) (by rw [hl]; exact le_grownCap _ _ _ _) (fun hf => by cases hf) (fun i x hx => ?_) (fun _ => ⟨w.heap.size, 0, rfl, fun i j hi hj => ?_⟩) (fun i x j c hx hcc => ?_) (fun i x j c hx hcc => ?_))
      · obtain ⟨b, _, rfl⟩ := hg i x hx; exact ⟨rfl, by omega⟩
      · rw [hl] at hi
        have hm : i * 1 + j < (Lib.bytesCells w e str).size := by have := le_grownCap w str.size 0 e; omega
        refine ⟨.inr ⟨rfl, by omega⟩, ?_⟩
        unfold World.cell?
        have := heap_alloc_at w.drew (.cells (Lib.bytesCells w e str) e ((Lib.bytesCells w e str).size, (Lib.bytesCells w e str).size + 1))
        simp only [World.size_drew] at this
        simp only [this, Nat.zero_add]
        simp only [Nat.mul_one] at hm ⊢
        simp [Array.getD, hm]
      · obtain ⟨b, _, rfl⟩ := hg i x hx
        cases j with
        | zero => simp [cellsOf] at hcc; subst hcc; rfl
        | succ j => simp [cellsOf] at hcc
      · obtain ⟨b, hb, rfl⟩ := hg i x hx
        cases j with
        | zero =>
          simp [cellsOf] at hcc; subst hcc
          have := hcell i b hb
          have e2 : (Lib.bytesCells w e str).getD (i * 1 + 0) undef = .int .u8 b.toNat := by
            rw [Nat.mul_one, Nat.add_zero, Array.getD_eq_getD_getElem?, this]; rfl
          rw [e2]
          exact .lit rfl
        | succ j => simp [cellsOf] at hcc
    · cases hc
  · rename_i e hs hd
    split at hc
    · rename_i he
      split at hc
      · cases hc
      · rename_i hns
        split at hc
        · rename_i ys hel
          cases hb : bytesOf ys with
          | none => rw [hb] at hc; cases hc
          | some bs =>
            rw [hb] at hc
            cases hc
            obtain ⟨cs, src⟩ := src_of (P := P) r hv hel
            have hrel : ∀ (i : Nat) (e : AV), ys[i]? = some e → ∃ u, cs[i]? = some u ∧ V g h w e u := by
              intro i e he'
              have hl1 := src.len i e he'
              have hone : cellsOf e = [e] → ∃ u, cs[i]? = some u ∧ V g h w e u := fun h1 => by
                have := src.rel i e 0 e he' (by rw [h1]; rfl)
                simpa using this
              cases e with
              | agg cs' =>
                match cs', hl1 with
                | [c], _ =>
                  exfalso
                  have : ∀ (l : List AV) (i : Nat), l[i]? = some (.agg [c]) → bytesOf l = none := by
                    intro l
                    induction l with
                    | nil => intro i h; simp at h
                    | cons a l ih =>
                      intro i h
                      cases i with
                      | zero => simp at h; subst h; rfl
                      | succ i =>
                        have := ih i (by simpa using h)
                        cases a with
                        | lit v =>
                          cases v with
                          | int k n => cases k <;> simp [bytesOf, this]
                          | _ => rfl
                        | _ => rfl
                  rw [this ys i he'] at hb; cases hb
              | _ => exact hone rfl
            obtain ⟨ns, n1, n2⟩ := bytesOf_inv (sz := 1) hb (by rw [src.size]; omega) hrel
            have hv2 : (∃ c, v = .slice none ys.length c ∧ ys = []) ∨ ∃ a c, v = .slice (some a) ys.length c := by
              unfold elemsOf at hel
              split at hel
              · cases hel; rw [hv.lit_inv]; exact .inl ⟨0, rfl, rfl⟩
              · rename_i str; exact absurd rfl (hns str)
              · split at hel
                · cases hel
                  have hd' := hv.isl_inv
                  cases hd' with
                  | isl u hcc hff hss haa hok hh =>
                    rename_i a cap
                    cases a with
                    | none =>
                      by_cases hy : ys = []
                      · exact .inl ⟨cap, rfl, hy⟩
                      · obtain ⟨_, _, q, _⟩ := haa hy; cases q
                    | some a => exact .inr ⟨a, cap, rfl⟩
                · cases hel
              · split at hel
                · split at hel
                  · rename_i hcc
                    cases hel
                    obtain ⟨ad, cap, rfl, _⟩ := hv.sl_inv
                    rw [view_length hcc.2]
                    exact .inr ⟨ad, cap, rfl⟩
                  · cases hel
                · cases hel
              · cases hel
            have e0 : ∀ z : ByteArray, z.data.toList = bs → z = ⟨bs.toArray⟩ := by
              intro z hz
              apply ByteArray.ext
              apply Array.ext'
              simpa using hz
            rcases hv2 with ⟨c, rfl, rfl⟩ | ⟨a, c, rfl⟩
            · have hbs : bs = [] := by simpa [bytesOf] using hb
              subst hbs
              refine ⟨.string ByteArray.empty, w, g, ?_, ?_, Post.refl _ _ _, r⟩
              · rw [run_convert_bytes_string w s d e _ _ _ hs he hd]; rfl
              · show V g h w (.lit (.string ⟨([] : List UInt8).toArray⟩)) _
                rw [← e0 ByteArray.empty rfl]; exact .deep (.lit rfl)
            · have hl := src.cells w (fun _ _ _ h => h)
              simp only [Builtin.firstCells, Nat.mul_one] at hl
              rw [n1] at hl
              refine ⟨_, w, g, by rw [run_convert_bytes_string w s d e _ _ _ hs he hd]; exact run_bytesToString w a _ c ns hl, ?_, Post.refl _ _ _, r⟩
              show V g h w (.lit (.string ⟨bs.toArray⟩)) _
              have e1 := e0 (ns.foldl (fun r n => r.push (UInt8.ofNat n.toNat)) ByteArray.empty) (by rw [foldl_push, n2]; rfl)
              rw [← e1]
              exact .deep (.lit rfl)
        · cases hc
    · cases hc
  · cases hc

/-! ### Copy -/

theorem copy_run [Nu] (r : R g h w) {dT ty : TypeId} {d x y : AV} {vd vx : Value} {h' : Heap} (hd : V g h w d vd) (hx : V g h w x vx) (hc : copyTo P dT d x h = some (y, h')) (ats : Array TypeId) (ha : ats[0]? = some dT) :
    ∃ u w' g', (Builtin.copy_ ats ty #[vd, vx]).run P w = .ok u w' ∧ V g' h' w' y u ∧ Post g h w g' h' w' ∧ R g' h' w' := by
  unfold copyTo at hc
  cases he : elemT P dT with
  | none => rw [he] at hc; cases hc
  | some eT =>
    rw [he] at hc
    have ht := elemT_inv he
    simp only [Option.bind_some] at hc
    cases hs : sizeT P eT with
    | none => rw [hs] at hc; cases hc
    | some sz =>
      rw [hs] at hc
      simp only at hc
      split at hc
      · cases hc
      · rename_i h0
        split at hc
        · rename_i ys id off len full hel
          split at hc
          · rename_i A hA
            split at hc
            · rename_i hcc
              obtain ⟨rfl, hsh, hle, hyl⟩ := hcc
              cases hc
              obtain ⟨cn, src⟩ := src_of (P := P) r hx hel
              obtain ⟨ad, cap, rfl, hid, hlc, hff, hAA⟩ := hd.sl_inv
              obtain ⟨had, _⟩ := hAA A hA
              obtain ⟨hz, ⟨T, n, hshape, hfit, hfro⟩, hlen, hok, hrel⟩ := r.arr id A hA
              have e1 := src.lenOf w
              have e2 := src.cells w (fun _ _ _ h => h)
              have hmin : Nat.min ys.length len = ys.length := Nat.min_eq_left hyl
              have hsz := src.size
              have hm : (off + ys.length) * A.sz ≤ A.elems.length * A.sz := Nat.mul_le_mul_right _ (by omega)
              have hm2 : (off + ys.length) * A.sz = off * A.sz + ys.length * A.sz := Nat.add_mul _ _ _
              have hex : ∀ j, j < cn.length → (w.cell? ⟨(g.μ id).1, (g.μ id).2 + off * A.sz + j, none⟩).isSome = true := fun j hj => cell_of_shape w hshape (by omega)
              have st := run_storeCells_cells (P := P) (g.μ id).1 ((g.μ id).2 + off * A.sz) cn 0 w (by simpa using hex) (fun j hj => hfro _ (by omega)) src.one
              have run : (Builtin.copy_ ats ty #[.slice (some ad) len cap, vx]).run P w = .ok (goInt ys.length) (w.setCells (g.μ id).1 ((g.μ id).2 + off * A.sz) cn) := by
                by_cases hcap : cap = 0
                · have hy0 : ys = [] := by
                    have : ys.length = 0 := by omega
                    exact List.eq_nil_of_length_eq_zero this
                  subst hy0
                  have : cn = [] := by simpa using hsz
                  subst this
                  simp at e1 e2
                  simp [Builtin.copy_, ha, run_underlying ht, e1, sizeT_run hs, e2, storeCells, World.setCells]
                · rw [had hcap]
                  simp only [Nat.add_zero] at st
                  simp [Builtin.copy_, ha, run_underlying ht, e1, hmin, sizeT_run hs, e2, st]
              have key := paste_row (P := P) r hA hsh src (off := off) (by omega)
              exact ⟨_, _, g, run, .deep (.lit rfl), key.1, key.2⟩
            · cases hc
          · cases hc
        · cases hc

end Go.Am
