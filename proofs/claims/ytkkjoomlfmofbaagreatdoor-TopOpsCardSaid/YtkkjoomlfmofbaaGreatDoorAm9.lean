import Derived.Test.YtkkjoomlfmofbaaGreatDoorAm8
import Derived.Lib.ConvBytes
set_option linter.unusedSimpArgs false
set_option linter.unusedVariables false
set_option linter.unusedSectionVars false
/-! Operations: append, copy, rows that are made. -/
namespace Go.Am

variable {P : Program} {g : Gh} {h : Heap} {w : World}

/-- What is read as elements: a text, or a row. -/
structure Src [Nu] (P : Program) (g : Gh) (h : Heap) (w : World) (sz : Nat) (ys : List AV) (v : Value) (cs : List Value) : Prop where
  lenOf : ∀ w', (Builtin.lenOf v).run P w' = .ok ys.length w'
  cells : ∀ w' : World, (∀ b o u, w.cell? ⟨b, o, none⟩ = some u → w'.cell? ⟨b, o, none⟩ = some u) → (Builtin.firstCells sz ys.length v).run P w' = .ok cs.toArray w'
  size : cs.length = ys.length * sz
  rel : ∀ (i : Nat) (e : AV) (j : Nat) (c : AV), ys[i]? = some e → (cellsOf e)[j]? = some c → ∃ u, cs[i * sz + j]? = some u ∧ V g h w c u
  len : ∀ (i : Nat) (e : AV), ys[i]? = some e → (cellsOf e).length = sz
  okc : ∀ (i : Nat) (e : AV) (j : Nat) (c : AV), ys[i]? = some e → (cellsOf e)[j]? = some c → okCell c = true

theorem idx_lt {i j n sz : Nat} (hi : i < n) (hj : j < sz) : i * sz + j < n * sz := by
  have : (i + 1) * sz ≤ n * sz := Nat.mul_le_mul_right _ hi
  rw [Nat.add_mul, Nat.one_mul] at this; omega

theorem src_row [Nu] {sz : Nat} {ys : List AV} {a : Option Addr} {cap : Nat} (b o : Nat) (ha : ys ≠ [] → a = some ⟨b, o, none⟩)
    (hlen : ∀ (i : Nat) (e : AV), ys[i]? = some e → (cellsOf e).length = sz)
    (hok : ∀ (i : Nat) (e : AV) (j : Nat) (c : AV), ys[i]? = some e → (cellsOf e)[j]? = some c → okCell c = true)
    (hrel : ∀ (i : Nat) (e : AV) (j : Nat) (c : AV), ys[i]? = some e → (cellsOf e)[j]? = some c → ∃ u, w.cell? ⟨b, o + i * sz + j, none⟩ = some u ∧ V g h w c u)  :
    Src P g h w sz ys (.slice a ys.length cap) ((List.range (ys.length * sz)).map fun k => (w.cell? ⟨b, o + k, none⟩).getD undef) := by
  have hcell : ∀ k, k < ys.length * sz → ∃ u, w.cell? ⟨b, o + k, none⟩ = some u := by
    intro k hk
    have hz : 0 < sz := by
      rcases Nat.eq_zero_or_pos sz with h0 | h0
      · subst h0; simp at hk
      · exact h0
    have hi : k / sz < ys.length := (Nat.div_lt_iff_lt_mul hz).2 hk
    have hj : k % sz < sz := Nat.mod_lt _ hz
    have he : ys[k / sz]? = some ys[k / sz] := List.getElem?_eq_getElem hi
    have hl := hlen _ _ he
    obtain ⟨u, hu, _⟩ := hrel (k / sz) _ (k % sz) _ he (List.getElem?_eq_getElem (by omega))
    refine ⟨u, ?_⟩
    have : o + k = o + k / sz * sz + k % sz := by have := Nat.div_add_mod k sz; rw [Nat.mul_comm] at this; omega
    rw [this]; exact hu
  refine ⟨fun w' => rfl, fun w' hw' => ?_, by simp, fun i e j c he hc => ?_, hlen, hok⟩
  · cases ys with
    | nil =>
      cases a with
      | none => simp [Builtin.firstCells]
      | some a => simp [Builtin.firstCells, loadCells, loadCellsFrom]
    | cons y ys =>
      rw [ha (by simp)]
      simp only [Builtin.firstCells]
      rw [run_loadCells (P := P) w' _ _ (fun k => (w.cell? ⟨b, o + k, none⟩).getD undef) fun k hk => ?_]
      obtain ⟨u, hu⟩ := hcell k hk
      rw [add_addr, hu]
      exact hw' _ _ _ hu
  · have hi := lt_of_get he
    have hj := lt_of_get hc
    rw [hlen i e he] at hj
    obtain ⟨u, hu, hv⟩ := hrel i e j c he hc
    refine ⟨u, ?_, hv⟩
    have := idx_lt hi hj
    rw [List.getElem?_map, List.getElem?_range this]
    simp only [Option.map_some, Option.some.injEq]
    rw [← Nat.add_assoc, hu]; rfl

theorem src_of [Nu] (r : R g h w) {sz : Nat} {x : AV} {v : Value} {ys : List AV} (hv : V g h w x v) (he : elemsOf h sz x = some ys) : ∃ cs, Src P g h w sz ys v cs := by
  unfold elemsOf at he
  split at he
  · cases he
    rw [hv.lit_inv]
    exact ⟨[], ⟨fun _ => rfl, fun _ _ => rfl, by simp, fun i e j c he => by simp at he, fun i e he => by simp at he, fun i e j c he => by simp at he⟩⟩
  · rename_i s
    split at he
    · rename_i h1
      cases he
      subst h1
      rw [hv.lit_inv]
      have hsz : s.size = s.data.toList.length := by show s.data.size = _; rw [Array.length_toList]
      refine ⟨s.data.toList.map fun b => .int .u8 b.toNat, ⟨fun w' => by rw [List.length_map, ← hsz]; rfl, fun w' _ => ?_, by rw [List.length_map, List.length_map, Nat.mul_one], fun i e j c he hc => ?_, fun i e he => ?_, fun i e j c he hc => ?_⟩⟩
      · simp only [Builtin.firstCells, List.length_map]
        rw [← hsz]
        have : s.extract 0 s.size = s := by simp
        rw [this]
        simp only [Sem.run_pure]
        congr 1
        apply Array.ext'
        simp
      · simp only [List.getElem?_map] at he
        cases hb : s.data.toList[i]? with
        | none => rw [hb] at he; cases he
        | some b =>
          rw [hb] at he
          cases he
          cases j with
          | zero =>
            simp [cellsOf] at hc; subst hc
            refine ⟨.int .u8 b.toNat, ?_, .deep (.lit rfl)⟩
            rw [Nat.mul_one, Nat.add_zero, List.getElem?_map, hb]; rfl
          | succ j => simp [cellsOf] at hc
      · simp only [List.getElem?_map] at he
        cases hb : s.data.toList[i]? with
        | none => rw [hb] at he; cases he
        | some b => rw [hb] at he; cases he; rfl
      · simp only [List.getElem?_map] at he
        cases hb : s.data.toList[i]? with
        | none => rw [hb] at he; cases he
        | some b =>
          rw [hb] at he
          cases he
          cases j with
          | zero => simp [cellsOf] at hc; subst hc; rfl
          | succ j => simp [cellsOf] at hc
    · cases he
  · rename_i z fl l
    split at he
    · rename_i hz
      cases he
      subst hz
      have hd := hv.isl_inv
      cases hd with
      | isl u hc hff hs ha hok hh =>
        rename_i a cap
        by_cases hn : ys = []
        · subst hn
          exact ⟨_, src_row 0 0 (fun hh => absurd rfl hh) (fun i e he => by simp at he) (fun i e j c he => by simp at he) (fun i e j c he => by simp at he)⟩
        · obtain ⟨b, o, e1, hcell⟩ := ha hn
          refine ⟨_, src_row b o (fun _ => e1) (fun i e he => (hs i e he).1) hok (fun i e j c he hc => ⟨_, ?_, .deep (hh i e j c he hc)⟩)⟩
          have hj := lt_of_get hc
          rw [(hs i e he).1] at hj
          exact (hcell i j (lt_of_get he) hj).2
    · cases he
  · rename_i id off len fl
    split at he
    · rename_i A hA
      split at he
      · rename_i hc
        cases he
        obtain ⟨rfl, hle⟩ := hc
        obtain ⟨ad, cap, rfl, hid, hlc, hff, hAA⟩ := hv.sl_inv
        obtain ⟨had, _⟩ := hAA A hA
        obtain ⟨hz, _, hlen, hok, hrel⟩ := r.arr id A hA
        have hvl := view_length hle
        have hget : ∀ (i : Nat) (e : AV), ((A.elems.drop off).take len)[i]? = some e → i < len ∧ A.elems[off + i]? = some e := by
          intro i e he
          rw [view_get] at he
          split at he
          · rename_i hi; exact ⟨hi, he⟩
          · cases he
        have key := src_row (P := P) (g := g) (h := h) (w := w) (sz := A.sz) (ys := (A.elems.drop off).take len) (a := some ad) (cap := cap) (g.μ id).1 ((g.μ id).2 + off * A.sz)
          (fun hn => by
            have : len ≠ 0 := by rintro rfl; simp at hn
            rw [had (by omega)])
          (fun i e he => hlen _ _ (hget i e he).2) (fun i e j c he hc => hok _ _ _ _ (hget i e he).2 hc)
          (fun i e j c he hc => by
            obtain ⟨u, hu, hvu⟩ := hrel _ _ _ _ (hget i e he).2 hc
            have ea : (g.μ id).2 + off * A.sz + i * A.sz + j = (g.μ id).2 + (off + i) * A.sz + j := by rw [Nat.add_mul]; omega
            exact ⟨u, by rw [ea]; exact hu, hvu⟩)
        rw [hvl] at key
        exact ⟨_, key⟩
      · cases he
    · cases he
  · cases he

theorem elemT_inv {t e : TypeId} (he : elemT P t = some e) : P.underlying t = some (.slice e) := by
  unfold elemT at he
  split at he
  · cases he; assumption
  · cases he

theorem srcT_inv {t : TypeId} (h : srcT P t = true) : ∃ d, P.underlying t = some d ∧ ((∃ e, d = .slice e) ∨ d = .string) := by
  unfold srcT at h
  split at h
  · rename_i e he; exact ⟨_, he, .inl ⟨e, rfl⟩⟩
  · rename_i he; exact ⟨_, he, .inr rfl⟩
  · cases h

/-- An append that makes a new row. -/
theorem append_grow_run [Nu] {sT xT ty eT : TypeId} {i : TypeInfo} {z : Value} {d : TypeDesc} (ht : P.underlying sT = some (.slice eT)) (hx : P.underlying xT = some d) (hd : (∃ e, d = .slice e) ∨ d = .string)
    (hi : P.info? eT = some i) (hz : i.zero = some z) {olds ys : List AV} {base : Option Addr} {sCap : Nat} {vx : Value} {co cn : List Value}
    (ho : Src P g h w i.size olds (.slice base olds.length sCap) co) (hn : Src P g h w i.size ys vx cn) (hg : sCap < olds.length + ys.length)
    (hroom : (olds.length + ys.length) * i.bytes ≤ 140737488355328) (hbig : olds.length + ys.length ≤ 9223372036854775807) :
    (Builtin.append_ #[sT, xT] ty #[.slice base olds.length sCap, vx]).run P w =
      .ok (.slice (some ⟨w.heap.size, 0, none⟩) (olds.length + ys.length) (grownCap w (olds.length + ys.length) sCap eT))
        (w.drew.alloc (.cells ((co ++ cn).toArray ++ Builtin.zeroCells z.cells (grownCap w (olds.length + ys.length) sCap eT - (olds.length + ys.length))) eT)) := by
  have h1 : ¬ (olds.length + ys.length ≤ sCap) := by omega
  have h63' : ¬ (9223372036854775807 < ((olds.length : Int) + (ys.length : Int))) := by omega
  have h48' : ¬ (281474976710656 < Builtin.nextslicecap (olds.length + ys.length) sCap * i.bytes) := by
    have := growslice_fits hg hroom; omega
  have e1 := ho.cells w.drew (fun b o u hu => hu)
  have e2 := hn.cells w.drew (fun b o u hu => hu)
  have e3 := hn.lenOf w
  have ti : ∀ w, (typeInfo eT).run P w = .ok i w := fun w => by simp [typeInfo, hi]
  have so : ∀ w, (sizeOf eT).run P w = .ok i.size w := fun w => by simp [sizeOf, ti]
  have zv : ∀ w, (zeroValue eT).run P w = .ok z w := fun w => by simp [zeroValue, ti, hz]
  have u1 := fun w => run_underlying ht w
  have u2 := fun w => run_underlying hx w
  rcases hd with ⟨e, rfl⟩ | rfl <;>
    (simp [Builtin.append_, u1, u2, so, e3, ti, zv, h1, h63', h48', Question.forced, newRow, grownCap, e1, e2]
     congr 2
     apply Array.ext'
     simp)

/-- An append in place. -/
theorem append_room_run [Nu] {sT xT ty eT : TypeId} {i : TypeInfo} {d : TypeDesc} (ht : P.underlying sT = some (.slice eT)) (hx : P.underlying xT = some d) (hd : (∃ e, d = .slice e) ∨ d = .string)
    (hi : P.info? eT = some i) {len sCap : Nat} {ys : List AV} {b o : Nat} {vx : Value} {cn : List Value}
    (hn : Src P g h w i.size ys vx cn) (hg : len + ys.length ≤ sCap)
    (hex : ∀ j, j < cn.length → (w.cell? ⟨b, o + len * i.size + j, none⟩).isSome = true) (hfr : ∀ j, j < cn.length → w.frozen? ⟨b, o + len * i.size + j, none⟩ = false) (h1 : ∀ v ∈ cn, v.oneCell' = true) :
    (Builtin.append_ #[sT, xT] ty #[.slice (some ⟨b, o, none⟩) len sCap, vx]).run P w =
      .ok (.slice (some ⟨b, o, none⟩) (len + ys.length) sCap) (w.setCells b (o + len * i.size) cn) := by
  have e2 := hn.cells w (fun b o u hu => hu)
  have e3 := hn.lenOf w
  have ti : ∀ w, (typeInfo eT).run P w = .ok i w := fun w => by simp [typeInfo, hi]
  have so : ∀ w, (sizeOf eT).run P w = .ok i.size w := fun w => by simp [sizeOf, ti]
  have u1 := fun w => run_underlying ht w
  have u2 := fun w => run_underlying hx w
  have st := run_storeCells_cells (P := P) b (o + len * i.size) cn 0 w (by simpa using hex) (by simpa using hfr) h1
  rcases hd with ⟨e, rfl⟩ | rfl <;>
    simp [Builtin.append_, u1, u2, so, e3, hg, e2, add_addr, st]

/-- An append of nothing. -/
theorem append_none_run [Nu] {sT xT ty eT : TypeId} {i : TypeInfo} {d : TypeDesc} (ht : P.underlying sT = some (.slice eT)) (hx : P.underlying xT = some d) (hd : (∃ e, d = .slice e) ∨ d = .string)
    (hi : P.info? eT = some i) {len sCap : Nat} {base : Option Addr} {vx : Value} {cn : List Value}
    (hn : Src P g h w i.size [] vx cn) (hg : len ≤ sCap) :
    (Builtin.append_ #[sT, xT] ty #[.slice base len sCap, vx]).run P w = .ok (.slice base len sCap) w := by
  have e2 := hn.cells w (fun b o u hu => hu)
  have hc : cn = [] := by have := hn.size; simpa using this
  subst hc
  have e3 := hn.lenOf w
  simp at e2 e3
  have ti : ∀ w, (typeInfo eT).run P w = .ok i w := fun w => by simp [typeInfo, hi]
  have so : ∀ w, (sizeOf eT).run P w = .ok i.size w := fun w => by simp [sizeOf, ti]
  have u1 := fun w => run_underlying ht w
  have u2 := fun w => run_underlying hx w
  rcases hd with ⟨e, rfl⟩ | rfl <;> cases base <;>
    simp [Builtin.append_, u1, u2, so, e3, hg, e2, storeCells]

theorem le_grownCap (w : World) (need old : Nat) (e : TypeId) : need ≤ grownCap w need old e := by
  unfold grownCap Question.cut; simp only; omega

theorem zeroCells_size (z : Array Value) (n : Nat) : (Builtin.zeroCells z n).size = n * z.size := by
  unfold Builtin.zeroCells; simp

theorem roomy_of {n b : Nat} (h : (2 * n + 1024) * (b + 1) ≤ 2 ^ 47) : n * b ≤ 140737488355328 ∧ n ≤ 9223372036854775807 := by
  have h1 : n * b ≤ (2 * n + 1024) * (b + 1) := Nat.mul_le_mul (by omega) (by omega)
  have h2 : n * 1 ≤ (2 * n + 1024) * (b + 1) := Nat.mul_le_mul (by omega) (by omega)
  have : (2 : Nat) ^ 47 = 140737488355328 := by decide
  omega

/-- The new row of an append. -/
theorem grow_post [Nu] (r : R g h w) {i : TypeInfo} {z : Value} {eT : TypeId} (h0 : 0 < i.size) (hz : z.cells.size = i.size) {olds ys : List AV} {vo vx : Value} {co cn : List Value} (shared : Bool)
    (ho : Src P g h w i.size olds vo co) (hn : Src P g h w i.size ys vx cn) (sCap : Nat) :
    ∃ g', V g' (h ++ [.arr { sz := i.size, row := true, shared, elems := olds ++ ys }])
        (w.drew.alloc (.cells ((co ++ cn).toArray ++ Builtin.zeroCells z.cells (grownCap w (olds.length + ys.length) sCap eT - (olds.length + ys.length))) eT))
        (.sl h.length 0 (olds.length + ys.length) false) (.slice (some ⟨w.heap.size, 0, none⟩) (olds.length + ys.length) (grownCap w (olds.length + ys.length) sCap eT)) ∧
      Post g h w g' (h ++ [.arr { sz := i.size, row := true, shared, elems := olds ++ ys }])
        (w.drew.alloc (.cells ((co ++ cn).toArray ++ Builtin.zeroCells z.cells (grownCap w (olds.length + ys.length) sCap eT - (olds.length + ys.length))) eT)) ∧
      R g' (h ++ [.arr { sz := i.size, row := true, shared, elems := olds ++ ys }])
        (w.drew.alloc (.cells ((co ++ cn).toArray ++ Builtin.zeroCells z.cells (grownCap w (olds.length + ys.length) sCap eT - (olds.length + ys.length))) eT)) := by
  obtain ⟨pd, rd⟩ := drew_ok r
  have hle := le_grownCap w (olds.length + ys.length) sCap eT
  have hsz : ((co ++ cn).toArray ++ Builtin.zeroCells z.cells (grownCap w (olds.length + ys.length) sCap eT - (olds.length + ys.length))).size = grownCap w (olds.length + ys.length) sCap eT * i.size := by
    rw [Array.size_append, zeroCells_size, hz]
    simp only [List.size_toArray, List.length_append, ho.size, hn.size]
    rw [← Nat.add_mul, ← Nat.add_mul]
    congr 1; omega
  have hget : ∀ (k : Nat) (e : AV), (olds ++ ys)[k]? = some e → (k < olds.length ∧ olds[k]? = some e) ∨ (olds.length ≤ k ∧ ys[k - olds.length]? = some e) := by
    intro k e he
    by_cases hk : k < olds.length
    · rw [List.getElem?_append_left hk] at he; exact .inl ⟨hk, he⟩
    · rw [List.getElem?_append_right (by omega)] at he; exact .inr ⟨by omega, he⟩
  have key := new_row rd i.size true shared (olds ++ ys) ((co ++ cn).toArray ++ Builtin.zeroCells z.cells (grownCap w (olds.length + ys.length) sCap eT - (olds.length + ys.length))) eT h0
    (fun k e he => by rcases hget k e he with ⟨_, h1⟩ | ⟨_, h1⟩; exact ho.len _ _ h1; exact hn.len _ _ h1)
    (fun k e j c he hc => by rcases hget k e he with ⟨_, h1⟩ | ⟨_, h1⟩; exact ho.okc _ _ _ _ h1 hc; exact hn.okc _ _ _ _ h1 hc)
    (by rw [hsz, List.length_append]; exact Nat.mul_le_mul_right _ hle)
    (fun k e j c he hc => by
      rcases hget k e he with ⟨hk, h1⟩ | ⟨hk, h1⟩
      · obtain ⟨u, hu, hv⟩ := ho.rel _ _ _ _ h1 hc
        refine ⟨u, ?_, hv.ext pd.ext⟩
        have hlt := lt_of_get hu
        rw [Array.getElem?_append_left (by simp; omega), List.getElem?_toArray, List.getElem?_append_left hlt]; exact hu
      · obtain ⟨u, hu, hv⟩ := hn.rel _ _ _ _ h1 hc
        refine ⟨u, ?_, hv.ext pd.ext⟩
        have hlt := lt_of_get hu
        have ea : k * i.size + j = co.length + ((k - olds.length) * i.size + j) := by
          obtain ⟨q, rfl⟩ : ∃ q, k = olds.length + q := ⟨k - olds.length, by omega⟩
          rw [Nat.add_sub_cancel_left, ho.size, Nat.add_mul]; omega
        rw [ea, Array.getElem?_append_left (by simp; omega), List.getElem?_toArray, List.getElem?_append_right (by omega), Nat.add_sub_cancel_left]; exact hu)
  obtain ⟨p1, r1⟩ := key
  refine ⟨_, .sl (by simp) hle (fun hf => by cases hf) (fun _ A hA => ?_) fun A hA => ?_, pd.trans p1, r1⟩
  · rw [getElem_snoc] at hA
    simp only [Nat.lt_irrefl, if_false, if_true, Option.some.injEq, AObj.arr.injEq] at hA
    subst hA
    show (olds ++ ys).length ≤ 0 + _
    rw [List.length_append]; omega
  rw [getElem_snoc] at hA
  simp only [Nat.lt_irrefl, if_false, if_true, Option.some.injEq, AObj.arr.injEq] at hA
  subst hA
  rw [Gh.push_new]
  refine ⟨fun _ => by simp, fun T n hn => ?_⟩
  have : (w.drew.alloc (.cells ((co ++ cn).toArray ++ Builtin.zeroCells z.cells (grownCap w (olds.length + ys.length) sCap eT - (olds.length + ys.length))) eT)).shape? w.drew.heap.size = some (eT, grownCap w (olds.length + ys.length) sCap eT * i.size) := by
    unfold World.shape?; rw [heap_alloc_at]; simp only [hsz]
  simp only [World.size_drew] at this hn
  rw [this] at hn
  cases hn
  simp

theorem Src.ext [Nu] {g' : Gh} {h' : Heap} {w' : World} (e : Ext g h w g' h' w') {sz : Nat} {ys : List AV} {v : Value} {cs : List Value} (s : Src P g h w sz ys v cs)
    (hc' : ∀ b o u, w.cell? ⟨b, o, none⟩ = some u → w'.cell? ⟨b, o, none⟩ = some u) : Src P g' h' w' sz ys v cs :=
  ⟨s.lenOf, fun w2 h2 => s.cells w2 fun b o u hu => h2 b o u (hc' b o u hu), s.size, fun i x j c hx hcc => by obtain ⟨u, hu, hv⟩ := s.rel i x j c hx hcc; exact ⟨u, hu, hv.ext e⟩, s.len, s.okc⟩

theorem Src.one [Nu] {sz : Nat} {ys : List AV} {v : Value} {cs : List Value} (s : Src P g h w sz ys v cs) : ∀ x ∈ cs, x.oneCell' = true := by
  intro x hx
  obtain ⟨k, hk⟩ := List.getElem?_of_mem hx
  have hlt := lt_of_get hk
  have hz : 0 < sz := by
    rcases Nat.eq_zero_or_pos sz with h0 | h0
    · rw [s.size, h0] at hlt; simp at hlt
    · exact h0
  have hi : k / sz < ys.length := (Nat.div_lt_iff_lt_mul hz).2 (by rw [← s.size]; exact hlt)
  have hj : k % sz < sz := Nat.mod_lt _ hz
  have he : ys[k / sz]? = some ys[k / sz] := List.getElem?_eq_getElem hi
  have hl := s.len _ _ he
  have hc : (cellsOf ys[k / sz])[k % sz]? = some (cellsOf ys[k / sz])[k % sz] := List.getElem?_eq_getElem (by omega)
  obtain ⟨u, hu, hv⟩ := s.rel _ _ _ _ he hc
  have ea : k / sz * sz + k % sz = k := by have := Nat.div_add_mod k sz; rw [Nat.mul_comm] at this; exact this
  rw [ea, hk] at hu
  cases hu
  exact hv.oneCell (s.okc _ _ _ _ he hc)

/-- A piece of a row of one's own is written anew. -/
theorem paste_row [Nu] (r : R g h w) {id : Nat} {A : Arr} (hA : h[id]? = some (.arr A)) (hsh : A.shared = false) {ys : List AV} {vx : Value} {cn : List Value} (src : Src P g h w A.sz ys vx cn) {off : Nat} (hle : off + ys.length ≤ A.elems.length) :
    Post g h w g (h.set id (.arr { A with elems := A.elems.take off ++ ys ++ A.elems.drop (off + ys.length) })) (w.setCells (g.μ id).1 ((g.μ id).2 + off * A.sz) cn) ∧
      R g (h.set id (.arr { A with elems := A.elems.take off ++ ys ++ A.elems.drop (off + ys.length) })) (w.setCells (g.μ id).1 ((g.μ id).2 + off * A.sz) cn) := by
  obtain ⟨hz, ⟨T, n, hshape, hfit, hfro⟩, hlen, hok, hrel⟩ := r.arr id A hA
  have hsz := src.size
  have hm : (off + ys.length) * A.sz ≤ A.elems.length * A.sz := Nat.mul_le_mul_right _ (by omega)
  have hm2 : (off + ys.length) * A.sz = off * A.sz + ys.length * A.sz := Nat.add_mul _ _ _
  have hex : ∀ j, j < cn.length → (w.cell? ⟨(g.μ id).1, (g.μ id).2 + off * A.sz + j, none⟩).isSome = true := fun j hj => cell_of_shape w hshape (by omega)
  have hl' : (A.elems.take off ++ ys ++ A.elems.drop (off + ys.length)).length = A.elems.length := overwrite_length (cs := A.elems) (new := ys) (off := off) (by omega)
  have hg := overwrite_get (cs := A.elems) (new := ys) (off := off) (by omega)
  unfold overwrite at hg
  exact set_row (A' := { A with elems := A.elems.take off ++ ys ++ A.elems.drop (off + ys.length) }) r hA hsh rfl hl' ((g.μ id).2 + off * A.sz) cn
    (fun i e he => by
      simp only [hg] at he
      split at he
      · exact hlen i e he
      · split at he
        · exact src.len _ e he
        · exact hlen i e he)
    (fun i e j c he hc => by
      simp only [hg] at he
      split at he
      · exact hok i e j c he hc
      · split at he
        · exact src.okc _ e j c he hc
        · exact hok i e j c he hc)
    (fun i e j c he hc => by
      have hj := lt_of_get hc
      simp only [hg] at he
      by_cases h1 : i < off
      · rw [if_pos h1] at he
        obtain ⟨u, hu, hv⟩ := hrel i e j c he hc
        rw [hlen i e he] at hj
        have : (i + 1) * A.sz ≤ off * A.sz := Nat.mul_le_mul_right _ h1
        rw [Nat.add_mul, Nat.one_mul] at this
        exact ⟨u, by rw [World.cell?_setCells_out _ _ _ _ _ (fun _ _ => .inl (by show _ < _; simp only; omega))]; exact hu, hv⟩
      · rw [if_neg h1] at he
        by_cases h2 : i < off + ys.length
        · rw [if_pos h2] at he
          obtain ⟨u, hu, hv⟩ := src.rel _ e j c he hc
          have hq := lt_of_get hu
          have hin := World.cell?_setCells_in (g.μ id).1 cn ((g.μ id).2 + off * A.sz) w hex _ hq
          rw [List.getElem?_eq_getElem hq] at hu
          cases hu
          have ea : (g.μ id).2 + i * A.sz + j = (g.μ id).2 + off * A.sz + ((i - off) * A.sz + j) := by
            obtain ⟨q, rfl⟩ : ∃ q, i = off + q := ⟨i - off, by omega⟩
            rw [Nat.add_sub_cancel_left, Nat.add_mul]; omega
          rw [ea]
          exact ⟨_, hin, hv⟩
        · rw [if_neg h2] at he
          obtain ⟨u, hu, hv⟩ := hrel i e j c he hc
          have : (off + ys.length) * A.sz ≤ i * A.sz := Nat.mul_le_mul_right _ (by omega)
          exact ⟨u, by rw [World.cell?_setCells_out _ _ _ _ _ (fun _ _ => .inr (by show _ ≤ _; simp only; omega))]; exact hu, hv⟩)

theorem append_run [Nu] (r : R g h w) {sT xT ty : TypeId} {s x y : AV} {vs vx : Value} {h' : Heap} (hs : V g h w s vs) (hx : V g h w x vx) (ha : append P sT xT s x h = some (y, h')) :
    ∃ u w' g', (Builtin.append_ #[sT, xT] ty #[vs, vx]).run P w = .ok u w' ∧ V g' h' w' y u ∧ Post g h w g' h' w' ∧ R g' h' w' := by
  unfold append at ha
  split at ha
  · rename_i eT he hsrc
    obtain ⟨d, hxd, hd⟩ := srcT_inv hsrc
    have ht := elemT_inv he
    split at ha
    · rename_i i hi
      split at ha
      · cases ha
      · rename_i h0
        have h0 : 0 < i.size := by omega
        split at ha
        · rename_i ys z hel hz
          obtain ⟨cn, hn⟩ := src_of (P := P) r hx hel
          split at ha
          · cases ha
          · rename_i hzs
            have hzs : z.cells.size = i.size := by simpa using hzs
            split at ha
            · rename_i hemp
              have hy : ys = [] := by simpa using hemp
              subst hy
              split at ha
              · cases ha
                rw [hs.lit_inv]
                exact ⟨_, w, g, append_none_run ht hxd hd hi hn (Nat.le_refl _), .deep (.lit rfl), Post.refl _ _ _, r⟩
              · cases ha
                have hd' := hs.isl_inv
                cases hd' with
                | isl u hc hff hss haa hok hh =>
                  exact ⟨_, w, g, append_none_run ht hxd hd hi hn hc, hs, Post.refl _ _ _, r⟩
              · cases ha
                obtain ⟨ad, cap, rfl, hid, hlc, hff, hAA⟩ := hs.sl_inv
                exact ⟨_, w, g, append_none_run ht hxd hd hi hn hlc, hs, Post.refl _ _ _, r⟩
              · cases ha
            · rename_i hemp
              have hpos : 0 < ys.length := by
                cases ys with
                | nil => simp at hemp
                | cons a l => simp
              simp only at ha
              split at ha
              · split at ha
                · rename_i hroom
                  cases ha
                  obtain ⟨q1, q2⟩ := roomy_of (of_decide_eq_true hroom)
                  have e0 := hs.lit_inv
                  subst e0
                  have ho : Src P g h w i.size [] (.slice none ([] : List AV).length 0) [] :=
                    ⟨fun _ => rfl, fun _ _ => by simp [Builtin.firstCells], by simp, fun i e j c he => by simp at he, fun i e he => by simp at he, fun i e j c he => by simp at he⟩
                  obtain ⟨g', k1, k2, k3⟩ := grow_post (P := P) (eT := eT) r h0 hzs false ho hn 0
                  have run := append_grow_run (ty := ty) ht hxd hd hi hz ho hn (by simpa using hpos) (by simpa using q1) (by simpa using q2)
                  simp only [List.length_nil, Nat.zero_add, List.nil_append] at k1 k2 k3 run
                  exact ⟨_, _, g', run, k1, k2, k3⟩
                · cases ha
              · rename_i z' l
                split at ha
                · rename_i hc
                  cases ha
                  obtain ⟨rfl, hroom⟩ := hc
                  obtain ⟨q1, q2⟩ := roomy_of (of_decide_eq_true hroom)
                  obtain ⟨co, ho⟩ := src_of (P := P) (sz := i.size) (ys := l) r hs (by simp [elemsOf])
                  have hd' := hs.isl_inv
                  cases hd' with
                  | isl u hc hff hss haa hok hh =>
                    rename_i a cap
                    have hcap := hff rfl
                    obtain ⟨g', k1, k2, k3⟩ := grow_post (P := P) (eT := eT) r h0 hzs false ho hn cap
                    have run := append_grow_run (ty := ty) ht hxd hd hi hz ho hn (by omega) q1 q2
                    exact ⟨_, _, g', run, k1, k2, k3⟩
                · cases ha
              · rename_i id off len full
                split at ha
                · rename_i A hA
                  split at ha
                  · rename_i hc
                    obtain ⟨hAs, rfl, hsh, hle⟩ := hc
                    cases ha
                    obtain ⟨ad, cap, rfl, hid, hlc, hff, hRR, hAA⟩ := hs.sl_all
                    obtain ⟨had, hcapb⟩ := hAA A hA
                    have hcap := hRR rfl A hA
                    rw [had (by omega)]
                    obtain ⟨hzz, ⟨T, n, hshape, hfit, hfro⟩, _⟩ := r.arr id A hA
                    have hn' := hn
                    rw [← hAs] at hn'
                    have hcnl : cn.length = ys.length * A.sz := hn'.size
                    have hm : (off + len + ys.length) * A.sz ≤ A.elems.length * A.sz := Nat.mul_le_mul_right _ hle
                    have e1 : (off + len + ys.length) * A.sz = off * A.sz + len * A.sz + ys.length * A.sz := by rw [Nat.add_mul, Nat.add_mul]
                    have e2 : (off + len) * A.sz = off * A.sz + len * A.sz := Nat.add_mul _ _ _
                    obtain ⟨k2, k3⟩ := paste_row (P := P) r hA hsh hn' (off := off + len) hle
                    have run := append_room_run (P := P) (ty := ty) (sCap := cap) (len := len) (b := (g.μ id).1) (o := (g.μ id).2 + off * A.sz) ht hxd hd hi hn (by omega)
                      (fun j hj => by rw [← hAs]; exact cell_of_shape w hshape (by omega)) (fun j hj => by rw [← hAs]; exact hfro _ (by omega)) hn.one
                    rw [← hAs] at run
                    have e3 : (g.μ id).2 + off * A.sz + len * A.sz = (g.μ id).2 + (off + len) * A.sz := by omega
                    rw [e3] at run
                    refine ⟨_, _, _, run, ?_, k2, k3⟩
                    have hs' : ∀ A', (h.set id (.arr { A with elems := A.elems.take (off + len) ++ ys ++ A.elems.drop (off + len + ys.length) }))[id]? = some (.arr A') → A'.sz = A.sz ∧ A'.elems.length = A.elems.length := fun A' hA' => by
                      rw [List.getElem?_set_self hid] at hA'
                      cases hA'
                      exact ⟨rfl, overwrite_length (cs := A.elems) (new := ys) (off := off + len) (by omega)⟩
                    refine .sl (by simpa using hid) (by omega) (fun hf => by cases hf) (fun _ A' hA' => ?_) fun A' hA' => ?_
                    · rw [(hs' A' hA').2]; omega
                    · rw [(hs' A' hA').1]
                      refine ⟨fun _ => rfl, fun T' n' hs' => ?_⟩
                      rw [shape_setCells] at hs'
                      exact hcapb T' n' hs'
                  split at ha
                  · rename_i hc
                    obtain ⟨hAs, hle, hroom⟩ := hc
                    obtain ⟨q1, q2⟩ := roomy_of (of_decide_eq_true hroom)
                    obtain ⟨co, ho⟩ := src_of (P := P) (sz := i.size) (ys := (A.elems.drop off).take len) r hs (by simp [elemsOf, hA, hAs, hle])
                    obtain ⟨ad, cap, rfl, hid, hlc, hff, hAA⟩ := hs.sl_inv
                    have hvl := view_length hle
                    rw [← hvl] at q1 q2
                    split at ha
                    · rename_i hfull
                      cases ha
                      have hcap := hff hfull
                      have ho' := ho
                      rw [show Value.slice (some ad) len cap = .slice (some ad) ((A.elems.drop off).take len).length cap by rw [hvl]] at ho'
                      obtain ⟨g', k1, k2, k3⟩ := grow_post (P := P) (eT := eT) r h0 hzs false ho' hn cap
                      have run := append_grow_run (ty := ty) ht hxd hd hi hz ho' hn (by omega) q1 q2
                      rw [hvl] at k1 k2 k3 run
                      exact ⟨_, _, g', run, k1, k2, k3⟩
                    · split at ha
                      · cases ha
                      · rename_i hsh
                        cases ha
                        have hsh : A.shared = true → off + len = A.elems.length := fun h1 => Classical.byContradiction fun h2 => hsh ⟨h1, h2⟩
                        by_cases hroom2 : len + ys.length ≤ cap
                        · obtain ⟨had, hcapb⟩ := hAA A hA
                          rw [had (by omega)]
                          obtain ⟨hzz, ⟨T, n, hshape, hfit, hfro⟩, hlen, hok, hrel⟩ := r.arr id A hA
                          have hb0 := hcapb T n hshape
                          have hn' := hn
                          rw [← hAs] at hn'
                          have hcnl : cn.length = ys.length * A.sz := hn'.size
                          have hm : (off + (len + ys.length)) * A.sz ≤ (off + cap) * A.sz := Nat.mul_le_mul_right _ (by omega)
                          have e1 : (off + (len + ys.length)) * A.sz = off * A.sz + len * A.sz + ys.length * A.sz := by rw [Nat.add_mul, Nat.add_mul]; omega
                          have e2 : (off + len) * A.sz = off * A.sz + len * A.sz := Nat.add_mul _ _ _
                          obtain ⟨k2, k3⟩ := move_row r hA off len hle hsh true ys cn hcnl (fun T' n' hs' => by
                              rw [hshape] at hs'; cases hs'
                              rw [Nat.add_assoc off]; omega) hn'.len hn'.okc hn'.rel
                          have run := append_room_run (P := P) (ty := ty) (sCap := cap) (len := len) (b := (g.μ id).1) (o := (g.μ id).2 + off * A.sz) ht hxd hd hi hn hroom2
                            (fun j hj => by rw [← hAs]; exact cell_of_shape w hshape (by omega)) (fun j hj => by rw [← hAs]; exact hfro _ (by omega)) hn.one
                          rw [← hAs] at run ⊢
                          have e3 : (g.μ id).2 + off * A.sz + len * A.sz = (g.μ id).2 + (off + len) * A.sz := by omega
                          rw [e3] at run
                          refine ⟨_, _, _, run, ?_, k2, k3⟩
                          refine .sl (by simp) hroom2 (fun hf => by cases hf) (fun _ A' hA' => ?_) fun A' hA' => ?_
                          · rw [getElem_snoc] at hA'
                            simp only [List.length_set, Nat.lt_irrefl, if_false, if_true, Option.some.injEq, AObj.arr.injEq] at hA'
                            subst hA'
                            show (_ ++ ys).length ≤ 0 + cap
                            rw [List.length_append, hvl]; omega
                          rw [getElem_snoc] at hA'
                          simp only [List.length_set, Nat.lt_irrefl, if_false, if_true, Option.some.injEq, AObj.arr.injEq] at hA'
                          subst hA'
                          rw [Gh.push_new]
                          refine ⟨fun _ => by simp, fun T' n' hs' => ?_⟩
                          rw [shape_setCells] at hs'
                          have := hcapb T' n' hs'
                          have e4 : (off + cap) * A.sz = off * A.sz + cap * A.sz := Nat.add_mul _ _ _
                          simp only [Nat.zero_add]
                          omega
                        · obtain ⟨pk, rk⟩ := kill_ok r id
                          have ho' := ho
                          rw [show Value.slice (some ad) len cap = .slice (some ad) ((A.elems.drop off).take len).length cap by rw [hvl]] at ho'
                          have ho2 := ho'.ext pk.ext (fun _ _ _ h => h)
                          have hn2 := hn.ext pk.ext (fun _ _ _ h => h)
                          obtain ⟨g', k1, k2, k3⟩ := grow_post (P := P) (eT := eT) rk h0 hzs A.shared ho2 hn2 cap
                          have run := append_grow_run (ty := ty) ht hxd hd hi hz ho' hn (by omega) q1 q2
                          rw [hvl] at k1 k2 k3 run
                          simp only [List.length_set] at k1
                          exact ⟨_, _, g', run, k1, pk.trans k2, k3⟩
                  · cases ha
                · cases ha
              · cases ha
        · cases ha
    · cases ha
  · cases ha

end Go.Am
