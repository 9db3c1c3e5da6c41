import Derived.Test.YtpgmeigheilanaaAmX
import Derived.ChangeSlices
import Derived.SliceStrings
/-! Arguments that are slices of numbers or texts. -/
namespace Go.Am
open Go.ChangeShapes Go.RowKit

structure RowArg (w : World) (l : List Value) (a : Option Addr) (cap : Nat) : Prop where
  cap : l.length ≤ cap
  cells : l ≠ [] → ∃ b o, a = some ⟨b, o, none⟩ ∧ ∀ (i : Nat) (v : Value), l[i]? = some v → w.cell? ⟨b, o + i, none⟩ = some v

def rowI (a : Option Addr) (n : Nat) (b o : Nat) : Prop := ∃ b' o', a = some ⟨b', o', none⟩ ∧ b = b' ∧ o' ≤ o ∧ o < o' + n

theorem RowArg.cell {w : World} {l : List Value} {a : Option Addr} {cap : Nat} (r : RowArg w l a cap) {b o : Nat} (h : rowI a l.length b o) : ∃ u, w.cell? ⟨b, o, none⟩ = some u := by
  obtain ⟨b', o', h1, rfl, h2, h3⟩ := h
  obtain ⟨b2, o2, h4, h5⟩ := r.cells (fun e => by subst e; simp at h3; omega)
  rw [h1] at h4
  cases h4
  have := h5 (o - o') l[o - o'] (List.getElem?_eq_getElem (by omega))
  rw [show o' + (o - o') = o by omega] at this
  exact ⟨_, this⟩

theorem RowArg.vd {w : World} {l : List Value} {a : Option Addr} {cap : Nat} (r : RowArg w l a cap) (hs : ∀ v ∈ l, cellOk v = true) {I : Nat → Nat → Prop} (hI : ∀ b o, rowI a l.length b o → I b o) : VD I w (.isl 1 false (l.map .lit)) (.slice a l.length cap) := by
  have hl : (l.map AV.lit).length = l.length := List.length_map _
  have key : ∀ {i : Nat} {e : AV} {j : Nat} {c : AV}, (l.map AV.lit)[i]? = some e → (cellsOf e)[j]? = some c → ∃ v, l[i]? = some v ∧ v ∈ l ∧ j = 0 ∧ c = .lit v := by
    intro i e j c he hc
    rw [List.getElem?_map] at he
    cases hv : l[i]? with
    | none => rw [hv] at he; cases he
    | some v =>
      rw [hv] at he; cases he
      match j, hc with
      | 0, hc => cases hc; exact ⟨v, rfl, List.mem_of_getElem? hv, rfl, rfl⟩
  rw [← hl]
  refine .isl (fun i _ => l.getD i undef) (by rw [hl]; exact r.cap) (by simp) ?_ ?_ ?_ ?_
  · intro i e he
    rw [List.getElem?_map] at he
    cases hv : l[i]? with
    | none => rw [hv] at he; cases he
    | some v => rw [hv] at he; cases he; exact ⟨rfl, by decide⟩
  · intro hne
    obtain ⟨b, o, h3, h4⟩ := r.cells (fun e => hne (by rw [e]; rfl))
    refine ⟨b, o, h3, fun i j hi hj => ?_⟩
    have hj0 : j = 0 := by omega
    subst hj0
    rw [hl] at hi
    simp only [Nat.mul_one, Nat.add_zero]
    refine ⟨hI b (o + i) ⟨b, o, h3, rfl, by omega, by omega⟩, ?_⟩
    rw [h4 i l[i] (List.getElem?_eq_getElem hi), List.getD_eq_getElem?_getD, List.getElem?_eq_getElem hi]; rfl
  · intro i e j c he hc
    obtain ⟨v, _, h2, _, rfl⟩ := key he hc
    exact hs v h2
  · intro i e j c he hc
    obtain ⟨v, h1, h2, rfl, rfl⟩ := key he hc
    have : l.getD i undef = v := by rw [List.getD_eq_getElem?_getD, h1]; rfl
    rw [this]
    refine .lit ?_
    have := hs v h2
    revert this
    cases v <;> simp [isAggV, cellOk]

theorem addr_none {w : World} {a : Addr} {v : Value} (h : w.cell? (a.add 0) = some v) : ∃ b o, a = ⟨b, o, none⟩ := by
  obtain ⟨b, o, s⟩ := a
  have : s = none := by simpa [Addr.add] using World.cell?_spot h
  subst this
  exact ⟨b, o, rfl⟩

theorem addr_add (b o i : Nat) : Addr.add ⟨b, o, none⟩ i = ⟨b, o + i, none⟩ := by
  unfold Addr.add
  split
  · rename_i h; subst h; rfl
  · rfl

section
variable {H : Type} {enc : TypeId × Value → H} {P : Program} {w : World} {base : Nat} {spare : Nat → Bool} {held : Bool}

theorem open_int_row {t e : TypeId} {k : IntKind} {fuel : Nat} {a0 : Option Addr} {len cap : Nat} {x : DataW H × List MemPlace} (ht : P.underlying t = some (.slice e)) (he : P.underlying e = some (.int k)) (hc : P.cellsOf e = 1)
    (h : DataW.trod enc P w base spare held fuel t (Value.slice a0 len cap).cells.toList = some x) : ∃ zs : List Int, zs.length = len ∧ len ≤ maxLen ∧ RowArg w (zs.map fun z => .int k z) a0 cap ∧ ∀ z ∈ zs, k.min ≤ z ∧ z ≤ k.max := by
  rcases open_ints ht he hc h with ⟨hcs, _⟩ | ⟨a, len', cap', zs, hcs, _, hl, hm, hz, _, hcell, hw⟩
  · simp [Value.cells] at hcs
    obtain ⟨rfl, rfl, rfl⟩ := hcs
    exact ⟨[], rfl, by simp [maxLen], ⟨Nat.le_refl _, fun h => absurd rfl h⟩, fun _ h => by cases h⟩
  · simp [Value.cells] at hcs
    obtain ⟨rfl, rfl, rfl⟩ := hcs
    have hzl : len ≤ zs.length := by rw [hz]; split <;> omega
    have hlen : (zs.take len).length = len := by rw [List.length_take]; omega
    refine ⟨zs.take len, hlen, by omega, ⟨by rw [List.length_map, hlen]; exact hl, fun hne => ?_⟩, fun z hz => ?_⟩
    · have h0 : 0 < zs.length := by
        cases zs with
        | nil => simp at hne
        | cons _ _ => simp
      obtain ⟨b, o, rfl⟩ := addr_none (hcell 0 h0)
      refine ⟨b, o, rfl, fun i v hv => ?_⟩
      rw [List.getElem?_map, List.getElem?_take] at hv
      by_cases hi : i < len
      · rw [if_pos hi] at hv
        have h1 := hcell i (by omega)
        rw [addr_add] at h1
        rw [h1]
        have hg : zs[i]? = some zs[i] := List.getElem?_eq_getElem (by omega)
        rw [hg] at hv
        cases hv
        rw [List.getD_eq_getElem?_getD, hg]; rfl
      · rw [if_neg hi] at hv; cases hv
    · have := hw z (List.mem_of_mem_take hz)
      simp only [Lit.wf, Bool.and_eq_true, decide_eq_true_eq] at this
      exact this

theorem open_string_row {t e : TypeId} {fuel : Nat} {a0 : Option Addr} {len cap : Nat} {x : DataW H × List MemPlace} (ht : P.underlying t = some (.slice e)) (he : P.underlying e = some .string) (hc : P.cellsOf e = 1)
    (h : DataW.trod enc P w base spare held fuel t (Value.slice a0 len cap).cells.toList = some x) : ∃ ss : List ByteArray, ss.length = len ∧ len ≤ maxLen ∧ RowArg w (ss.map fun s => .string s) a0 cap ∧ ∀ s ∈ ss, s.size ≤ maxLen := by
  rcases open_strings ht he hc h with ⟨hcs, _⟩ | ⟨a, len', cap', zs, hcs, _, hl, hm, hz, _, hcell, hw⟩
  · simp [Value.cells] at hcs
    obtain ⟨rfl, rfl, rfl⟩ := hcs
    exact ⟨[], rfl, by simp [maxLen], ⟨Nat.le_refl _, fun h => absurd rfl h⟩, fun _ h => by cases h⟩
  · simp [Value.cells] at hcs
    obtain ⟨rfl, rfl, rfl⟩ := hcs
    have hzl : len ≤ zs.length := by rw [hz]; split <;> omega
    have hlen : (zs.take len).length = len := by rw [List.length_take]; omega
    refine ⟨zs.take len, hlen, by omega, ⟨by rw [List.length_map, hlen]; exact hl, fun hne => ?_⟩, fun z hz => hw z (List.mem_of_mem_take hz)⟩
    have h0 : 0 < zs.length := by
      cases zs with
      | nil => simp at hne
      | cons _ _ => simp
    obtain ⟨b, o, rfl⟩ := addr_none (hcell 0 h0)
    refine ⟨b, o, rfl, fun i v hv => ?_⟩
    rw [List.getElem?_map, List.getElem?_take] at hv
    by_cases hi : i < len
    · rw [if_pos hi] at hv
      have h1 := hcell i (by omega)
      rw [addr_add] at h1
      rw [h1]
      have hg : zs[i]? = some zs[i] := List.getElem?_eq_getElem (by omega)
      rw [hg] at hv
      cases hv
      rw [List.getD_eq_getElem?_getD, hg]; rfl
    · rw [if_neg hi] at hv; cases hv
end

/-- A call whose arguments lie in memory that stays as it is. -/
theorem scall_vds {E : SEnv} (ok : SEnvOk E) {n : Nat} {f : FuncId} {args : List AV} {vs : Array Value} {I : Nat → Nat → Prop} {r : Value} {h' : Heap}
    (hc : scall E n f args [] = some (.lit r, h')) (w : World) (hI : ∀ b o, I b o → ∃ u, w.cell? ⟨b, o, none⟩ = some u) (hgl : GlobV E.gl ⟨fun _ => (0, 0), I⟩ [] w) (hlen : args.length = vs.size)
    (hv : ∀ (i : Nat) (c : AV) (v : Value), args[i]? = some c → vs[i]? = some v → VD I w c v) : Calls E.P f vs w fun e w' => e = .returned r ∧ Below w.heap.size w w' := by
  refine (scall_ok ok n f _ [] _ _ hc ⟨fun _ => (0, 0), I⟩ w vs (R.nil _ hI) hgl (by simpa using hlen) fun i c v hc hvv => .deep (hv i c v hc hvv)).mono ?_
  rintro e w' ⟨v, g', rfl, hv, hp, hr⟩
  exact ⟨by rw [hv.lit_eq], hp.below⟩

end Go.Am
