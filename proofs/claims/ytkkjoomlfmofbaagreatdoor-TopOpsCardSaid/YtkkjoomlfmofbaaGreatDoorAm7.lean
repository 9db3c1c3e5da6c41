import Derived.Test.YtkkjoomlfmofbaaGreatDoorAm6
import Derived.Laws.BytesString
import Derived.Laws.Slices
import Derived.Laws.Append
set_option linter.unusedSimpArgs false
set_option linter.unusedVariables false
set_option linter.unusedSectionVars false
/-! Operations: addresses, cuts, tests. -/
namespace Go.Am

variable {P : Program} {g : Gh} {h : Heap} {w : World}

theorem V.iptr_shift [Nu] {e : AV} {off : Nat} {v : Value} (hv : V g h w (.iptr e off) v) :
    ∃ b o, v = .pointer (some ⟨b, o, none⟩) ∧ ∀ k, V g h w (.iptr e (off + k)) (.pointer (some ⟨b, o + k, none⟩)) := by
  cases hv with
  | deep hd => cases hd with
    | iptr u ha hok hh =>
      rename_i b o
      exact ⟨b, o + off, rfl, fun k => by rw [Nat.add_assoc]; exact .deep (.iptr u ha hok hh)⟩

theorem V.ptr_shift [Nu] {id i off : Nat} {v : Value} (hv : V g h w (.ptr id i off) v) :
    ∃ b o, v = .pointer (some ⟨b, o, none⟩) ∧ ∀ k, V g h w (.ptr id i (off + k)) (.pointer (some ⟨b, o + k, none⟩)) := by
  obtain ⟨b, o, rfl, hid, hA, hS⟩ := hv.ptr_inv
  refine ⟨b, o, rfl, fun k => .ptr hid (fun A hh => ?_) (fun h0 y hs => ?_)⟩
  · obtain ⟨h1, h2⟩ := hA A hh
    exact ⟨h1, by omega⟩
  · obtain ⟨h1, h2⟩ := hS (by omega) y hs
    exact ⟨h1, by omega⟩

theorem fieldAddr_run [Nu] {s : TypeId} {x y : AV} {f : Nat} {v : Value} (hv : V g h w x v) (hf : fieldAddr P s x f = some y) :
    ∃ u, (Instr.fieldAt s v f).run P w = .ok u w ∧ V g h w y u := by
  unfold fieldAddr at hf
  split at hf
  · rename_i fields hs
    split at hf
    · rename_i fd hfd
      split at hf
      · cases hf
      · cases hf
      · rename_i n hn0 hn
        have hn0 : n ≠ 0 := fun e => hn0 (by rw [e])
        have run : ∀ b o, (Instr.fieldAt s (.pointer (some ⟨b, o, none⟩)) f).run P w = .ok (.pointer (some ⟨b, o + fd.offset, none⟩)) w := by
          intro b o
          simp only [Instr.fieldAt, Sem.run_bind, run_underlying hs, Result.andThen_ok, hfd, Instr.sureAddr, Sem.run_pure, fieldPlace, sizeT_run hn, if_neg hn0, add_addr]
        split at hf
        · cases hf
          obtain ⟨b, o, rfl, hk⟩ := hv.iptr_shift
          exact ⟨_, run b o, hk _⟩
        · cases hf
          obtain ⟨b, o, rfl, hk⟩ := hv.ptr_shift
          exact ⟨_, run b o, hk _⟩
        · cases hf
    · cases hf
  · cases hf

theorem field_run [Nu] {t : TypeId} {x y : AV} {f : Nat} {v : Value} (hv : V g h w x v) (hf : field P t x f = some y) :
    ∃ u, (Instr.field t v f).run P w = .ok u w ∧ V g h w y u := by
  unfold field at hf
  split at hf
  · rename_i fields cs hs
    split at hf
    · rename_i fd hfd
      obtain ⟨vs, rfl, hl, hc⟩ := hv.agg_inv
      obtain ⟨u, h1, h2⟩ := part_run (P := P) hl hc hf
      refine ⟨u, ?_, h2⟩
      simp only [Instr.field, Sem.run_bind, run_underlying hs, Result.andThen_ok, hfd, asAgg, Sem.run_pure]
      exact h1
    · cases hf
  · cases hf

theorem intLit_inv [Nu] {x : AV} {n : Nat} {v : Value} (hv : V g h w x v) (hn : intLit x = some n) : ∃ k : IntKind, v = .int k (n : Int) := by
  unfold intLit at hn
  split at hn
  · rename_i k m
    split at hn
    · cases hn
      have := hv.lit_inv
      exact ⟨k, by rw [this]; congr 1; omega⟩
    · cases hn
  · cases hn

theorem V.isl_inv [Nu] {sz : Nat} {full : Bool} {l : List AV} {v : Value} (hv : V g h w (.isl sz full l) v) : VD g.I w (.isl sz full l) v := by
  cases hv with
  | deep hd => exact hd

theorem V.sl_inv [Nu] {id off len : Nat} {full : Bool} {v : Value} (hv : V g h w (.sl id off len full) v) :
    ∃ ad cap, v = .slice (some ad) len cap ∧ id < h.length ∧ len ≤ cap ∧ (full = true → cap = len) ∧
      (∀ A, h[id]? = some (.arr A) → (cap ≠ 0 → ad = ⟨(g.μ id).1, (g.μ id).2 + off * A.sz, none⟩) ∧ ∀ T n, w.shape? (g.μ id).1 = some (T, n) → (g.μ id).2 + (off + cap) * A.sz ≤ n) := by
  cases hv with
  | deep hd => cases hd
  | sl hid hc hf hR hA => exact ⟨_, _, rfl, hid, hc, hf, hA⟩

theorem V.sl_all [Nu] {id off len : Nat} {full : Bool} {v : Value} (hv : V g h w (.sl id off len full) v) :
    ∃ ad cap, v = .slice (some ad) len cap ∧ id < h.length ∧ len ≤ cap ∧ (full = true → cap = len) ∧ (full = false → ∀ A, h[id]? = some (.arr A) → A.elems.length ≤ off + cap) ∧
      (∀ A, h[id]? = some (.arr A) → (cap ≠ 0 → ad = ⟨(g.μ id).1, (g.μ id).2 + off * A.sz, none⟩) ∧ ∀ T n, w.shape? (g.μ id).1 = some (T, n) → (g.μ id).2 + (off + cap) * A.sz ≤ n) := by
  cases hv with
  | deep hd => cases hd
  | sl hid hc hf hR hA => exact ⟨_, _, rfl, hid, hc, hf, hR, hA⟩

theorem indexAddr_run [Nu] {t : TypeId} {x ix y : AV} {v vi : Value} (hv : V g h w x v) (hi : V g h w ix vi) (hf : indexAddr P t x ix h = some y) :
    ∃ u, (Instr.indexAt t v vi).run P w = .ok u w ∧ V g h w y u := by
  unfold indexAddr at hf
  split at hf
  · rename_i n e hn ht
    obtain ⟨k, rfl⟩ := intLit_inv hi hn
    split at hf
    · rename_i z fl l
      split at hf
      · rename_i hz
        cases hl : l[n]? with
        | none => rw [hl] at hf; cases hf
        | some el =>
          rw [hl] at hf
          cases hf
          have hlt := lt_of_get hl
          have hd := hv.isl_inv
          cases hd with
          | isl u hc hff hs ha hok hh =>
            obtain ⟨b, o, rfl, hcell⟩ := ha (by rintro rfl; simp at hl)
            refine ⟨.pointer (some ⟨b, o + n * z, none⟩), ?_, ?_⟩
            · simp [Instr.indexAt, asIntOf, run_underlying ht, sizeT_run hz, hlt, add_addr]
            · have : (o + n * z) + 0 = o + n * z := rfl
              rw [← this]
              refine .deep (.iptr (u n) (fun j hj => ?_) (fun j c hc => hok _ _ _ _ hl hc) (fun j c hc => hh _ _ _ _ hl hc))
              rw [(hs n el hl).1] at hj
              exact hcell n j hlt hj
      · cases hf
    · rename_i id off len fl
      split at hf
      · rename_i A hA
        split at hf
        · rename_i hc
          cases hf
          obtain ⟨ad, cap, rfl, hid, hlc, hff, hAA⟩ := hv.sl_inv
          obtain ⟨had, _⟩ := hAA A hA
          rw [had (by omega)]
          refine ⟨.pointer (some ⟨(g.μ id).1, (g.μ id).2 + off * A.sz + n * A.sz, none⟩), ?_, .ptr hid (fun A' hA' => ?_) (fun h0 y hs => ?_)⟩
          · simp [Instr.indexAt, asIntOf, run_underlying ht, sizeT_run hc.1, hc.2.1, add_addr]
          · rw [hA] at hA'; cases hA'
            exact ⟨rfl, by rw [Nat.add_mul]; omega⟩
          · rw [hA] at hs; cases hs
        · cases hf
      · cases hf
    · cases hf
  · rename_i n len e hn ht
    obtain ⟨k, rfl⟩ := intLit_inv hi hn
    split at hf
    · rename_i z hz
      split at hf
      · rename_i hlt
        have run : ∀ b o, (Instr.indexAt t (.pointer (some ⟨b, o, none⟩)) (.int k (n : Int))).run P w = .ok (.pointer (some ⟨b, o + n * z, none⟩)) w := by
          intro b o
          simp [Instr.indexAt, asIntOf, run_underlying ht, Instr.sureAddr, sizeT_run hz, hlt, add_addr]
        split at hf
        · cases hf
          obtain ⟨b, o, rfl, hk⟩ := hv.iptr_shift
          exact ⟨_, run b o, hk _⟩
        · cases hf
          obtain ⟨b, o, rfl, hk⟩ := hv.ptr_shift
          exact ⟨_, run b o, hk _⟩
        · cases hf
      · cases hf
    · cases hf
  · cases hf

theorem index_run [Nu] {t : TypeId} {x ix y : AV} {v vi : Value} (hv : V g h w x v) (hi : V g h w ix vi) (hf : index P t x ix = some y) :
    ∃ u, (Instr.index t v vi).run P w = .ok u w ∧ V g h w y u := by
  unfold index at hf
  split at hf
  · rename_i n len e cs hn ht
    obtain ⟨k, rfl⟩ := intLit_inv hi hn
    split at hf
    · rename_i z hz
      split at hf
      · rename_i hlt
        obtain ⟨vs, rfl, hl, hc⟩ := hv.agg_inv
        obtain ⟨u, h1, h2⟩ := part_run (P := P) hl hc hf
        refine ⟨u, ?_, h2⟩
        simp [Instr.index, asIntOf, run_underlying ht, sizeT_run hz, hlt, h1]
      · cases hf
    · cases hf
  · cases hf

theorem fastIndex_run [Nu] {t : TypeId} {x ix y : AV} {v vi : Value} (hv : V g h w x v) (hi : V g h w ix vi) (hf : fastIndex x ix = some y) (ht : P.underlying t = some .string) :
    ∃ u, (Instr.index t v vi).run P w = .ok u w ∧ V g h w y u := by
  unfold fastIndex at hf
  split at hf
  · rename_i s k n
    rw [hv.lit_inv, hi.lit_inv]
    split at hf
    · rename_i h0
      cases hb : s.data.toList[n.toNat]? with
      | none => rw [hb] at hf; cases hf
      | some b =>
        rw [hb] at hf
        cases hf
        refine ⟨_, ?_, .deep (.lit rfl)⟩
        have hlt := lt_of_get hb
        have hs : s[n.toNat]? = some b := by
          have : s.data[n.toNat]? = some b := by rw [← Array.getElem?_toList]; exact hb
          rw [← this]
          simp only [getElem?_def, ByteArray.size]
          rfl
        simp only [Instr.index, asIntOf, pure_bind, Sem.run_bind, run_underlying ht, Result.andThen_ok, if_pos h0, hs, Sem.run_pure]
    · cases hf
  · cases hf

/-! ### Cuts -/

def optV [Nu] (g : Gh) (h : Heap) (w : World) (a : Option AV) (v : Option Value) : Prop :=
  match a, v with
  | none, none => True
  | some a, some v => V g h w a v
  | _, _ => False

theorem bound_run [Nu] {a : Option AV} {v : Option Value} {d n : Nat} (hv : optV g h w a v) (hb : bound d a = some n) :
    (v = none ∧ a = none ∧ n = d) ∨ ∃ k : IntKind, v = some (.int k (n : Int)) ∧ a.isSome = true := by
  cases a with
  | none =>
    cases v with
    | none => simp only [bound, Option.some.injEq] at hb; exact .inl ⟨rfl, rfl, hb.symm⟩
    | some v => exact hv.elim
  | some a =>
    cases v with
    | none => exact hv.elim
    | some v =>
      obtain ⟨k, rfl⟩ := intLit_inv (n := n) hv hb
      exact .inr ⟨k, rfl, rfl⟩

theorem sliceBounds_room [Nu] {lo hi mx : Option AV} {vl vh vm : Option Value} {len room cap l r m : Nat} (hl : optV g h w lo vl) (hh : optV g h w hi vh) (hm : optV g h w mx vm)
    (hmh : ¬ (mx.isSome = true ∧ hi.isNone = true)) (h1 : bound 0 lo = some l) (h2 : bound len hi = some r) (h3 : bound room mx = some m) (hlr : l ≤ r) (hrm : r ≤ m) (hml : m ≤ room) (hc : room ≤ cap) (hlen : len ≤ room) :
    (Instr.sliceBounds true len cap vl vh vm).run P w = .ok (l, r, if mx.isSome then m else cap) w := by
  have B : ∀ (k : IntKind) (n y : Nat) (code : BoundsCode), n ≤ y → (Instr.sliceBound (.int k (n : Int)) y code).run P w = .ok n w := fun k n y code hn => by
    rw [run_sliceBound _ _ _ _ _ (by omega) (by omega), Int.toNat_natCast]
  rcases bound_run hl h1 with ⟨rfl, rfl, rfl⟩ | ⟨k1, rfl, e1⟩ <;> rcases bound_run hh h2 with ⟨rfl, rfl, rfl⟩ | ⟨k2, rfl, e2⟩ <;> rcases bound_run hm h3 with ⟨rfl, rfl, rfl⟩ | ⟨k3, rfl, e3⟩ <;>
    first
    | (exfalso; apply hmh; simp_all; done)
    | simp (disch := omega) only [Instr.sliceBounds, Sem.run_bind, Sem.run_pure, Result.andThen_ok, Option.isSome_none, Bool.false_eq_true, if_false, Option.isSome_some, if_true, *]

theorem sliceBounds_run [Nu] {lo hi mx : Option AV} {vl vh vm : Option Value} {len cap l r m : Nat} (hl : optV g h w lo vl) (hh : optV g h w hi vh) (hm : optV g h w mx vm)
    (hmh : ¬ (mx.isSome = true ∧ hi.isNone = true)) (h1 : bound 0 lo = some l) (h2 : bound len hi = some r) (h3 : bound len mx = some m) (hlr : l ≤ r) (hrm : r ≤ m) (hml : m ≤ len) (hc : len ≤ cap) :
    (Instr.sliceBounds true len cap vl vh vm).run P w = .ok (l, r, if mx.isSome then m else cap) w :=
  sliceBounds_room hl hh hm hmh h1 h2 h3 hlr hrm hml hc (Nat.le_refl _)

theorem cut_run [Nu] {t : TypeId} {x y : AV} {lo hi mx : Option AV} {v : Value} {vl vh vm : Option Value} (hv : V g h w x v) (hl : optV g h w lo vl) (hh : optV g h w hi vh) (hm : optV g h w mx vm)
    (hf : cut P t x lo hi mx h = some y) : ∃ u, (Instr.sliceAt t v vl vh vm).run P w = .ok u w ∧ V g h w y u := by
  unfold cut at hf
  split at hf
  · rename_i e he
    have ht : P.underlying t = some (.slice e) := by
      unfold elemT at he
      split at he
      · cases he; assumption
      · cases he
    have at_ : ∀ v, (Instr.sliceAt t v vl vh vm).run P w = (Instr.slice t v vl vh vm).run P w := fun v => by
      simp only [Instr.sliceAt, Sem.run_bind, run_underlying ht, Result.andThen_ok]
    have go_inv : ∀ (len : Nat) (full : Bool) (q : Nat × Nat × Bool), (if mx.isSome = true ∧ hi.isNone = true then none else
        match bound 0 lo, bound len hi, bound len mx with
        | some l, some r, some m => if l ≤ r ∧ r ≤ m ∧ m ≤ len then some (l, r, if mx.isSome then m == r else full && r == len) else none
        | _, _, _ => none) = some q → ∀ (a : Option Addr) (cap z : Nat), sizeT P e = some z → len ≤ cap → (full = true → cap = len) →
        ∃ m : Nat, q.1 ≤ q.2.1 ∧ q.2.1 ≤ len ∧ q.2.1 ≤ m ∧ m ≤ cap ∧ (q.2.2 = true → m = q.2.1) ∧
        (Instr.slice t (.slice a len cap) vl vh vm).run P w = .ok (.slice (if m = q.1 then a else a.map (·.add (q.1 * z))) (q.2.1 - q.1) (m - q.1)) w := by
      intro len full q hq a cap z hz hc hfull
      split at hq
      · cases hq
      · rename_i hmh
        split at hq
        · rename_i l r m h1 h2 h3
          split at hq
          · rename_i hb
            cases hq
            refine ⟨if mx.isSome then m else cap, hb.1, Nat.le_trans hb.2.1 hb.2.2, ?_, ?_, ?_, ?_⟩
            · split <;> simp only <;> omega
            · split <;> omega
            · intro hx
              split at hx
              · rename_i h5; rw [if_pos h5]; simpa using hx
              · rename_i h5
                simp only [Bool.and_eq_true, beq_iff_eq] at hx
                rw [if_neg h5, hfull hx.1]; exact hx.2.symm
            · simp only [Instr.slice, Sem.run_bind, run_underlying ht, Result.andThen_ok, sliceBounds_run hl hh hm hmh h1 h2 h3 hb.1 hb.2.1 hb.2.2 hc, sizeT_run hz, Sem.run_pure]
          · cases hq
        · cases hq
    simp only at hf
    split at hf
    · rename_i z full vv
      split at hf
      · rename_i hz
        split at hf
        · rename_i l r f hgo
          cases hf
          have hd := hv.isl_inv
          cases hd with
          | isl u hc hff hs ha hok hhh =>
            rename_i a cap
            obtain ⟨m, b1, b2, b3, b4, b5, b6⟩ := go_inv _ _ _ hgo a cap z hz hc hff
            simp only at b1 b2 b3 b4 b5 b6
            refine ⟨_, by rw [at_]; exact b6, ?_⟩
            have hvl : ((vv.drop l).take (r - l)).length = r - l := view_length (by omega)
            have hget : ∀ (i : Nat) (e : AV), ((vv.drop l).take (r - l))[i]? = some e → i < r - l ∧ vv[l + i]? = some e := by
              intro i e he
              rw [view_get] at he
              split at he
              · rename_i hi; exact ⟨hi, he⟩
              · cases he
            have key : VD g.I w (.isl z f ((vv.drop l).take (r - l))) (.slice (if m = l then a else a.map (·.add (l * z))) ((vv.drop l).take (r - l)).length (m - l)) := by
              refine .isl (fun i j => u (l + i) j) (by omega) (fun h5 => by rw [b5 h5, hvl]) (fun i e he => hs _ _ (hget i e he).2) (fun hne => ?_) (fun i e j c he hc => hok _ _ _ _ (hget i e he).2 hc) (fun i e j c he hc => hhh _ _ _ _ (hget i e he).2 hc)
              have h0 : 0 < r - l := by
                rcases Nat.eq_zero_or_pos (r - l) with h0 | h0
                · exfalso; apply hne; apply List.eq_nil_of_length_eq_zero; omega
                · exact h0
              obtain ⟨b, o, rfl, hcell⟩ := ha (by rintro rfl; simp at b2; omega)
              refine ⟨b, o + l * z, by rw [if_neg (by omega)]; simp [add_addr], fun i j hi hj => ?_⟩
              have ea : o + l * z + i * z + j = o + (l + i) * z + j := by rw [Nat.add_mul]; omega
              rw [ea]
              exact hcell (l + i) j (by omega) hj
            rw [hvl] at key
            exact .deep key
        · cases hf
      · cases hf
    · rename_i id off len full
      split at hf
      · rename_i A hA
        split at hf
        · rename_i hz
          unfold cutS at hf
          simp only at hf
          obtain ⟨ad, cap, rfl, hid, hlc, hff, hRR, hAA⟩ := hv.sl_all
          obtain ⟨had, hcap⟩ := hAA A hA
          have hroom : (if full = true then len else max len (A.elems.length - off)) ≤ cap := by
            cases full with
            | true => simpa using hlc
            | false => have := hRR rfl A hA; simp; omega
          have hlen : len ≤ (if full = true then len else max len (A.elems.length - off)) := by split <;> omega
          generalize (if full = true then len else max len (A.elems.length - off)) = room at hf hroom hlen
          split at hf
          · cases hf
          · rename_i hmh
            split at hf
            · rename_i l r m h1 h2 h3
              split at hf
              · rename_i hb
                have run : (Instr.slice t (.slice (some ad) len cap) vl vh vm).run P w = .ok (.slice (if (if mx.isSome then m else cap) = l then some ad else (some ad).map (·.add (l * A.sz))) (r - l) ((if mx.isSome then m else cap) - l)) w := by
                  simp only [Instr.slice, Sem.run_bind, run_underlying ht, Result.andThen_ok, sliceBounds_room hl hh hm hmh h1 h2 h3 hb.1 hb.2.1 hb.2.2 hroom hlen, sizeT_run hz, Sem.run_pure]
                have hM : m ≤ (if mx.isSome then m else cap) := by split <;> omega
                have hM2 : (if mx.isSome then m else cap) ≤ cap := by split <;> omega
                have hM3 : (if mx.isSome then m == r else full && r == len) = true → (if mx.isSome then m else cap) = r := by
                  intro hx
                  split at hx
                  · rename_i h5; rw [if_pos h5]; simpa using hx
                  · rename_i h5
                    simp only [Bool.and_eq_true, beq_iff_eq] at hx
                    rw [if_neg h5, hff hx.1]; exact hx.2.symm
                generalize (if mx.isSome then m else cap) = M at run hM hM2 hM3
                generalize (if mx.isSome then m == r else full && r == len) = f at hf hM3
                split at hf
                · cases hf
                  exact ⟨_, by rw [at_]; exact run, .deep .junk⟩
                · rename_i hnj
                  cases hf
                  refine ⟨_, by rw [at_]; exact run, ?_⟩
                  have : ∃ ad', (if M = l then some ad else (some ad).map (·.add (l * A.sz))) = some ad' ∧ (M - l ≠ 0 → ad' = ad.add (l * A.sz)) := by
                    by_cases h5 : M = l
                    · exact ⟨ad, by rw [if_pos h5], fun h6 => by omega⟩
                    · exact ⟨_, by rw [if_neg h5]; rfl, fun _ => rfl⟩
                  obtain ⟨ad', e1, e2⟩ := this
                  rw [e1]
                  refine .sl hid (by omega) (fun h5 => by rw [hM3 h5]) (fun h5 A' hA' => ?_) fun A' hA' => ?_
                  · rw [hA] at hA'; cases hA'
                    have : ¬ (off + m < A.elems.length) := fun h6 => hnj ⟨h5, h6⟩
                    omega
                  · rw [hA] at hA'; cases hA'
                    refine ⟨fun h6 => ?_, fun T n hn => ?_⟩
                    · rw [e2 h6, had (by omega), add_addr]
                      congr 1
                      rw [Nat.add_mul]; omega
                    · have := hcap T n hn
                      have h7 : (off + l + (M - l)) * A.sz ≤ (off + cap) * A.sz := Nat.mul_le_mul_right _ (by omega)
                      omega
              · cases hf
            · cases hf
        · cases hf
      · cases hf
    · cases hf
  · cases hf

end Go.Am
