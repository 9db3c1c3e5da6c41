import Derived.Test.YtkkjoomlfmofbaaGreatDoorAmO
import Derived.Lib.LaidTab
import Derived.Lib.ItoaNum
import Derived.Sort.Grow
import Derived.Deep.Draws
set_option linter.unusedSimpArgs false
set_option linter.unusedVariables false
set_option linter.unusedSectionVars false
/-! strconv.Itoa by its contract; tables of integers among the package's variables. -/
namespace Go.Am
open Go.RowKit Go.Sort

variable {P : Program} {T : Tr}

def tabAV (k : IntKind) (zs : List Int) : AV := .iptr (.agg (zs.map fun z => .lit (.int k z))) 0

theorem tab_is [Nu] {g : Gh} {h : Heap} {w : World} (hgl : GlobV T g h w) {b : Nat} {k : IntKind} {zs : List Int} {name : String} (ht : T.get (4294967297 + b) = tabAV k zs) (hn : P.globalNamed name = some b) : Lib.TabIs P w name k zs := by
  have hv := hgl.v b
  obtain ⟨⟨cs, t, fz, h1, h2⟩, _⟩ := hgl.fix b (by rw [ht]; rfl)
  rw [ht] at hv h2
  simp only [tabSize, tabAV, cellsOf, List.length_map] at h2
  unfold Lib.TabIs World.var?
  rw [hn]
  simp only [Option.bind_some, h1, Option.some.injEq]
  simp only [globOf, tabAV] at hv
  generalize hp : Value.pointer (some ⟨b, 0, none⟩) = p at hv
  cases hv with
  | @iptr _ _ b' o u ha hok hrel =>
    simp only [Value.pointer.injEq, Option.some.injEq, Addr.mk.injEq] at hp
    obtain ⟨rfl, ho, _⟩ := hp
    have ho : o = 0 := by omega
    subst ho
    apply Array.ext_getElem?
    intro i
    by_cases hi : i < zs.length
    · have hcell := (ha i (by simp [cellsOf]; exact hi)).2
      have hr := hrel i (.lit (.int k zs[i])) (by simp [cellsOf, hi])
      have hu : u i = .int k zs[i] := by
        generalize u i = z at hr
        cases hr with
        | lit _ => rfl
      simp only [World.cell?, h1, Nat.zero_add] at hcell
      rw [hu] at hcell
      simp [hi]
      simpa using hcell
    · rw [Array.getElem?_eq_none (by omega), Array.getElem?_eq_none (by simp; omega)]

/-- One table is told. -/
theorem globV_one [Nu] {w : World} {b : Nat} {k : IntKind} {zs : List Int} {name : String} (hb : b < 4294967296) (hn : P.globalNamed name = some b) (h : Lib.TabIs P w name k zs) :
    (∀ x o, (x = b ∧ o < zs.length) → ∃ u, w.cell? ⟨x, o, none⟩ = some u) ∧ GlobV (Tr.set 64 .leaf (4294967297 + b) (tabAV k zs)) ⟨fun _ => (0, 0), fun x o => x = b ∧ o < zs.length⟩ [] w := by
  unfold Lib.TabIs World.var? at h
  rw [hn] at h
  simp only [Option.bind_some] at h
  have heap : ∃ t fz, w.heap[b]? = some (.cells (zs.map fun z => Value.int k z).toArray t fz) := by
    split at h
    · rename_i cs t fz hc
      cases h
      exact ⟨t, fz, hc⟩
    · cases h
  obtain ⟨t, fz, hh⟩ := heap
  have cell : ∀ o, o < zs.length → w.cell? ⟨b, o, none⟩ = some (.int k (zs.getD o 0)) := by
    intro o ho
    simp only [World.cell?, hh]
    simp [ho]
  have get : ∀ i, (Tr.set 64 .leaf (4294967297 + b) (tabAV k zs)).get i = if i = 4294967297 + b then tabAV k zs else .lit undef := by
    intro i
    rw [Tr.set_get 64 .leaf _ _ i (by omega)]
    rfl
  refine ⟨?_, fun i => ?_, fun i hi => ?_⟩
  · rintro x o ⟨rfl, ho⟩
    exact ⟨_, cell o ho⟩
  · rw [get]
    by_cases hi : i = b
    · subst hi
      rw [if_pos rfl]
      have : VD (fun x o => x = i ∧ o < zs.length) w (tabAV k zs) (.pointer (some ⟨i, 0 + 0, none⟩)) := by
        refine .iptr (fun j => .int k (zs.getD j 0)) (fun j hj => ?_) (fun j c hc => ?_) (fun j c hc => ?_)
        · have hj : j < zs.length := by simpa [cellsOf] using hj
          rw [Nat.zero_add]
          exact ⟨⟨rfl, hj⟩, cell j hj⟩
        · simp only [cellsOf, List.getElem?_map, Option.map_eq_some_iff] at hc
          obtain ⟨z, _, rfl⟩ := hc
          rfl
        · simp only [cellsOf, List.getElem?_map, Option.map_eq_some_iff] at hc
          obtain ⟨z, hz, rfl⟩ := hc
          have : zs.getD j 0 = z := by simp [List.getD, hz]
          rw [this]
          exact .lit rfl
      exact this
    · rw [if_neg (by omega)]
      exact .lit rfl
  · rw [get] at hi ⊢
    by_cases hib : i = b
    · subst hib
      rw [if_pos rfl]
      refine ⟨⟨_, t, fz, hh, ?_⟩, fun id ha => ?_⟩
      · simp [tabSize, tabAV, cellsOf]
      · have := ha.lt; simp at this
    · rw [if_neg (by omega)] at hi
      cases hi

theorem low_one {b : Nat} {v : AV} (hb : b < 4294967296) : ∀ i, i ≤ 4294967296 → (Tr.set 64 .leaf (4294967297 + b) v).get i = .lit undef := by
  intro i hi
  rw [Tr.set_get 64 .leaf _ _ i (by omega), if_neg (by omega)]
  rfl

/-- One variable more is told, that nobody writes. -/
theorem GlobV.put [Nu] {I : Nat → Nat → Prop} {w : World} {b : Nat} {cs : List AV} (hb : b < 4294967296) (hg : GlobV T ⟨fun _ => (0, 0), I⟩ [] w)
    (hc : VD I w (.iptr (.agg cs) 0) (.pointer (some ⟨b, 0, none⟩))) (hh : ∃ vs t fz, w.heap[b]? = some (.cells vs t fz) ∧ vs.size = cs.length) :
    GlobV (Tr.set 64 T (4294967297 + b) (.iptr (.agg cs) 0)) ⟨fun _ => (0, 0), I⟩ [] w := by
  have get : ∀ i, (Tr.set 64 T (4294967297 + b) (.iptr (.agg cs) 0)).get i = if i = 4294967297 + b then .iptr (.agg cs) 0 else T.get i := by
    intro i
    rw [Tr.set_get 64 T _ _ i (by omega)]
  refine ⟨fun k => ?_, fun k hk => ?_⟩
  · rw [get]
    by_cases hi : k = b
    · subst hi
      rw [if_pos rfl]
      exact hc
    · rw [if_neg (by omega)]
      exact hg.v k
  · rw [get] at hk ⊢
    by_cases hi : k = b
    · subst hi
      rw [if_pos rfl]
      obtain ⟨vs, t, fz, h1, h2⟩ := hh
      exact ⟨⟨vs, t, fz, h1, by simpa [tabSize, cellsOf] using h2⟩, fun id ha => by have := ha.lt; simp at this⟩
    · rw [if_neg (by omega)] at hk ⊢
      exact hg.fix k hk

theorem low_put {b : Nat} {v : AV} (hb : b < 4294967296) (hT : ∀ i, i ≤ 4294967296 → T.get i = .lit undef) : ∀ i, i ≤ 4294967296 → (Tr.set 64 T (4294967297 + b) v).get i = .lit undef := by
  intro i hi
  rw [Tr.set_get 64 T _ _ i (by omega), if_neg (by omega)]
  exact hT i hi

/-- A table of integers among the package's variables: its cells. -/
theorem tab_vd [Nu] {w : World} {b : Nat} {k : IntKind} {zs : List Int} {name : String} {I : Nat → Nat → Prop} (hI : ∀ o, o < zs.length → I b o) (hn : P.globalNamed name = some b) (h : Lib.TabIs P w name k zs) :
    VD I w (tabAV k zs) (.pointer (some ⟨b, 0, none⟩)) ∧ (∃ vs t fz, w.heap[b]? = some (.cells vs t fz) ∧ vs.size = (zs.map fun z => AV.lit (.int k z)).length) ∧ ∀ o, o < zs.length → ∃ u, w.cell? ⟨b, o, none⟩ = some u := by
  unfold Lib.TabIs World.var? at h
  rw [hn] at h
  simp only [Option.bind_some] at h
  have heap : ∃ t fz, w.heap[b]? = some (.cells (zs.map fun z => Value.int k z).toArray t fz) := by
    split at h
    · rename_i cs t fz hc
      cases h
      exact ⟨t, fz, hc⟩
    · cases h
  obtain ⟨t, fz, hh⟩ := heap
  have cell : ∀ o, o < zs.length → w.cell? ⟨b, o, none⟩ = some (.int k (zs.getD o 0)) := by
    intro o ho
    simp only [World.cell?, hh]
    simp [ho]
  refine ⟨?_, ⟨_, t, fz, hh, by simp⟩, fun o ho => ⟨_, cell o ho⟩⟩
  have : VD I w (tabAV k zs) (.pointer (some ⟨b, 0 + 0, none⟩)) := by
    refine .iptr (fun j => .int k (zs.getD j 0)) (fun j hj => ?_) (fun j c hc => ?_) (fun j c hc => ?_)
    · have hj : j < zs.length := by simpa [cellsOf] using hj
      rw [Nat.zero_add]
      exact ⟨hI j hj, cell j hj⟩
    · simp only [cellsOf, List.getElem?_map, Option.map_eq_some_iff] at hc
      obtain ⟨z, _, rfl⟩ := hc
      rfl
    · simp only [cellsOf, List.getElem?_map, Option.map_eq_some_iff] at hc
      obtain ⟨z, hz, rfl⟩ := hc
      have : zs.getD j 0 = z := by simp [List.getD, hz]
      rw [this]
      exact .lit rfl
  exact this

def itoaPrim : List AV → Option AV
  | [.lit (.int .i64 n)] => if -9223372036854775808 ≤ n ∧ n ≤ 9223372036854775807 then some (.lit (.string ⟨(Lib.itoa n).toArray⟩)) else none
  | _ => none

theorem itoa_ok [Nu] {f : FuncId} {b : Nat} {name : String} (ht : T.get (4294967297 + b) = tabAV .u64 Lib.pow10Tab) (hn : P.globalNamed name = some b)
    (h : ∀ (n : Int), -9223372036854775808 ≤ n → n ≤ 9223372036854775807 → ∀ w : World, Lib.TabIs P w name .u64 Lib.pow10Tab →
      Calls P f #[.int .i64 n] w fun e w' => e = .returned (.string ⟨(Lib.itoa n).toArray⟩) ∧ ∃ k os, w' = grow (w.drewN k) os) : PrimOk P T f itoaPrim := by
  intro args r hp I w vs hgl hlen hv hI
  unfold itoaPrim at hp
  split at hp
  · rename_i n
    split at hp
    · rename_i hb
      cases hp
      obtain ⟨l⟩ := vs
      match l, hlen, hv with
      | [u], _, hv =>
        have h0 := hv 0 _ _ rfl rfl
        have e0 : u = .int .i64 n := by cases h0 with | lit _ => rfl
        subst e0
        refine (h n hb.1 hb.2 w (tab_is hgl ht hn)).mono ?_
        rintro e w' ⟨rfl, k, os, rfl⟩
        refine ⟨_, I, rfl, .lit rfl, by simp [grow], fun b hb => ?_, rfl, rfl, rfl, fun _ _ h => .inl h⟩
        simp only [grow]
        exact Array.getElem?_append_left hb
    · cases hp
  · cases hp

end Go.Am
