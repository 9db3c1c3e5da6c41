/-
  Library functions by their contracts: slices.Values and slices.Sorted of one text (the iterator is walked here; the sorter is the shelf's).
-/
import Derived.Test.YtkkjoomlfmofbaaGreatDoorAmX
import Derived.Test.YtkkjoomlfmofbaaGreatDoorShelf
import Derived.Shelf.SlIter.Sorted
import Derived.LoopNIn
import Derived.LoopIn
import Derived.TacticsInMore
import Derived.OwnWalkIn
set_option linter.unusedSimpArgs false
set_option linter.unusedVariables false
set_option linter.unusedSectionVars false
namespace Go.Proofs.YtkkjoomlfmofbaaGreatDoor
open Go.RowKit Go.Maps Go.Sort Go.Shelf Go.Am
attribute [local go_sem] Oper.semAt_some

set_option maxRecDepth 100000 in
set_option maxHeartbeats 2000000 in
/-- The closure of slices.Values over one text: it yields it, and looks at memory no more. -/
theorem values1_in (F : Fence) (n : Nat) (h7 : F.fn 301) (hro : F.round = none) (hn : 1 ≤ n) (l Bs Os b off cap : Nat) (s : List UInt8) (J : List (List UInt8) → World → Prop)
    (hY : ∀ pre x W, J pre W → pre.length < 1 → YieldAt F (n - 1) Tryz.prog l #[encStr x] W fun e W' => e = .returned (.bool true) ∧ J (pre ++ [x]) W' ∧ KeepsWalks W W')
    (W : World) (hBs : W.cell? ⟨Bs, Os, none⟩ = some (.slice (some ⟨b, off, none⟩) 1 cap)) (hc : W.cell? ⟨b, off, none⟩ = some (encStr s)) (h0 : J [] W) :
    CallsIn F n Tryz.prog 301 #[.func (.yield l) #[] #[], .pointer (some ⟨Bs, Os, none⟩)] W fun e W' => (∃ v, e = .returned v) ∧ J [s] W' := by
  refine callsIn_of_wp Tryz.func301 rfl h7 ?_ hro
  simp only [Tryz.ntmps301, List.size_toArray, List.length_cons, List.length_nil, Nat.reduceAdd, Nat.reduceSub, Array.replicate_succ, Array.replicate_zero, List.push_toArray, List.append_toArray, List.nil_append, List.cons_append]
  gi_wp2
  gi_loopw [7] (fun i wr => (i = .int .i64 0 ∧ wr = W) ∨ (i = .int .i64 1 ∧ J [s] wr))
    (fun i _ => 1 - (intOf i).toNat)
  case atStart => exact .inl ⟨rfl, rfl⟩
  case round =>
    rcases hrel with ⟨rfl, rfl⟩ | ⟨rfl, hJs⟩
    · obtain ⟨fn, tmps, assign, body, hy, hR⟩ := hY [] s wr h0 (by simp)
      gi_wp2
      refine hR.mono ?_
      rintro e W3 ⟨rfl, hJ3, hk3⟩
      gi_wp2
      go_roundw
      case rel => exact .inr ⟨by simp, hJ3⟩
      case measure => simp [intOf]
    · gi_wp2
      go_end0
      exact ⟨⟨_, rfl⟩, hJs⟩

set_option maxHeartbeats 1000000 in
theorem values_in (F : Fence) (n : Nat) (h5 : F.fn 192) (hro : F.round = none) (a : Option Addr) (len cap : Nat) (w : World) :
    CallsIn F n Tryz.prog 192 #[.slice a len cap] w fun e w' => e = .returned (.func (.func 301) #[] #[.pointer (some ⟨w.heap.size, 0, none⟩)]) ∧ w' = w.alloc (.cells #[.slice a len cap] 23) := by
  refine callsIn_of_wp Tryz.func192 rfl h5 ?_ hro
  simp only [Tryz.ntmps192, List.size_toArray, List.length_cons, List.length_nil, Nat.reduceAdd, Nat.reduceSub, Array.replicate_succ, Array.replicate_zero, List.push_toArray, List.append_toArray, List.nil_append, List.cons_append]
  gi_wp2
  go_ret
  exact ⟨rfl, rfl⟩

def valuesPrim : List AV → Option AV
  | [.isl z f l] => some (.fn (.func 301) [] [.iptr (.isl z f l) 0])
  | _ => none

theorem alloc_cell (w : World) (v : Value) (t : TypeId) : (w.alloc (.cells #[v] t)).cell? ⟨w.heap.size, 0, none⟩ = some v := by simp
theorem alloc_keep (w : World) (o : Obj) {b i : Nat} {u : Value} (h : w.cell? ⟨b, i, none⟩ = some u) : (w.alloc o).cell? ⟨b, i, none⟩ = some u := by
  have hb : b < w.heap.size := by
    rcases Nat.lt_or_ge b w.heap.size with h' | h'
    · exact h'
    · simp [World.cell?, Array.getElem?_eq_none h'] at h
  exact (((Below.refl w.heap.size w).alloc (Nat.le_refl _) o).cell (p := ⟨b, i, none⟩) hb).trans h

theorem values_prim [Nu] {T : Tr} : PrimOk Tryz.prog T 192 valuesPrim := by
  intro args r hp I w vs _ hlen hv hI
  unfold valuesPrim at hp
  split at hp
  · rename_i z f l
    cases hp
    obtain ⟨l'⟩ := vs
    match l', hlen, hv with
    | [u], _, hv =>
      have h0 := hv 0 _ _ rfl rfl
      have hu : ∃ a len cap, u = .slice a len cap := by cases h0; exact ⟨_, _, _, rfl⟩
      obtain ⟨a, len, cap, rfl⟩ := hu
      refine (callsIn_wide.1 (values_in Fence.wide 1 trivial rfl a len cap w)).mono ?_
      rintro e w' ⟨rfl, rfl⟩
      have hB := (Below.refl w.heap.size w).alloc (Nat.le_refl _) (.cells #[.slice a len cap] 23)
      have hm : VD (fun b o => I b o ∨ (b = w.heap.size ∧ o = 0)) (w.alloc (.cells #[.slice a len cap] 23)) (.isl z f l) (.slice a len cap) :=
        h0.mono fun b o h => ⟨.inl h, by
          obtain ⟨u, hu⟩ := hI b o h
          rw [hu]; exact alloc_keep w _ hu⟩
      refine ⟨_, fun b o => I b o ∨ (b = w.heap.size ∧ o = 0), rfl, .fn rfl rfl (fun i c v hc => by simp at hc) (fun i c v hc hv => ?_), hB.size, hB.block, hB.os, hB.tape, hB.output, ?_⟩
      · match i, hc, hv with
        | 0, hc, hv =>
          cases hc
          cases hv
          refine .iptr (b := w.heap.size) (o := 0) (fun _ => .slice a len cap) (fun j hj => ?_) (fun j c hc => ?_) (fun j c hc => ?_)
          · have : j = 0 := by simpa [cellsOf] using hj
            subst this
            exact ⟨.inr ⟨rfl, rfl⟩, alloc_cell w _ _⟩
          · match j, hc with
            | 0, hc => cases hc; rfl
          · match j, hc with
            | 0, hc => cases hc; exact hm
        | i + 1, hc, hv => simp at hc
      · rintro b o (h | ⟨rfl, rfl⟩)
        · exact .inl h
        · exact .inr ⟨Nat.le_refl _, _, alloc_cell w _ _⟩
  · cases hp

def sortedPrim : List AV → Option AV
  | [.fn (.func g) [] [.iptr (.isl z f [.lit (.string s)]) 0]] => if Nat.beq g 301 && Nat.beq z 1 then some (.isl 1 false [.lit (.string s)]) else none
  | _ => none

theorem sortsA (m : Nat) : AnyZ.SortsIn Tryz.prog Tryz.sortedA_ren Fence.wide m :=
  ⟨fun blk off cap ss W hH hblk hsz => callsIn_wide.2 (Tryz.slices_Sort_string blk off cap ss W hH hblk hsz),
   fun p cap W => callsIn_wide.2 (Tryz.slices_Sort_string_none p cap W)⟩

theorem sorted_call (b o cap B O : Nat) (s : List UInt8) (w : World) (hB : w.cell? ⟨B, O, none⟩ = some (.slice (some ⟨b, o, none⟩) 1 cap)) (hc : w.cell? ⟨b, o, none⟩ = some (encStr s)) :
    Calls Tryz.prog 191 #[.func (.func 301) #[] #[.pointer (some ⟨B, O, none⟩)]] w fun e w' => ∃ g c, e = .returned (.slice (some ⟨g, 0, none⟩) 1 c) ∧ 1 ≤ c ∧ w.heap.size ≤ g ∧ w'.cell? ⟨g, 0, none⟩ = some (encStr s) ∧ Below w.heap.size w w' := by
  have lt_of : ∀ {b o : Nat} {u : Value}, w.cell? ⟨b, o, none⟩ = some u → b < w.heap.size := by
    intro b o u h
    rcases Nat.lt_or_ge b w.heap.size with h' | h'
    · exact h'
    · simp [World.cell?, Array.getElem?_eq_none h'] at h
  have hseq : SeqGives Fence.wide 2 Tryz.prog 301 #[.pointer (some ⟨B, O, none⟩)] encStr (fun ss => ss = [s]) 1 w := fun l J W hW hJ hY h0 =>
    (values1_in Fence.wide 2 trivial rfl (by omega) l B O b o cap s J hY W ((hW.cell (p := ⟨B, O, none⟩) (lt_of hB)).trans hB) ((hW.cell (p := ⟨b, o, none⟩) (lt_of hc)).trans hc) h0).mono fun e W' ⟨he, hj⟩ => ⟨he, _, rfl, hj⟩
  have cS := AnyZ.sorted_in Tryz.sortedA Fence.wide 5 trivial trivial trivial trivial rfl (by omega) (sortsA _) (enters_of Tryz.func60 (by kernel_rfl) rfl) 301 #[.pointer (some ⟨B, O, none⟩)] trivial (enters_of Tryz.func301 (by kernel_rfl) rfl) _ 1 (by decide) (by decide) w hseq
  refine (callsIn_wide.1 cS).mono ?_
  rintro e w' ⟨v, ss, rfl, rfl, hrow, hnil, hb⟩
  rcases hrow.2 with ⟨rfl, hz⟩ | ⟨g, c, cur, rfl, hbase, hg, r1, r2, r3, r4⟩
  · cases hz
  · refine ⟨g, c, rfl, r1, hbase, ?_, hb⟩
    have h0 : cur.toList[0]? = some (encStr s) := by
      have := congrArg (fun l => l[0]?) r4
      simpa [List.getElem?_take] using this
    simp only [World.cell?, hg]
    simpa using h0

theorem sorted_prim [Nu] {T : Tr} : PrimOk Tryz.prog T 191 sortedPrim := by
  intro args r hp I w vs _ hlen hv hI
  unfold sortedPrim at hp
  split at hp
  · rename_i g z f s
    split at hp
    · rename_i hg
      cases hp
      simp only [Bool.and_eq_true] at hg
      have e1 := Nat.eq_of_beq_eq_true hg.1
      have e2 := Nat.eq_of_beq_eq_true hg.2
      subst e1; subst e2
      obtain ⟨l'⟩ := vs
      match l', hlen, hv with
      | [u], _, hv =>
        have h0 := hv 0 _ _ rfl rfl
        cases h0 with
        | @fn _ _ _ x' y' hx hy h1 h2 =>
          obtain ⟨x'⟩ := x'
          obtain ⟨y'⟩ := y'
          match x', hx, y', hy, h2 with
          | [], _, [p], _, h2 =>
            have hp0 := h2 0 _ _ rfl rfl
            cases hp0 with
            | @iptr _ _ b0 o0 uu ha hok hrel =>
              obtain ⟨_, hcell⟩ := ha 0 (by simp [cellsOf])
              have hrow : VD I w (.isl 1 f [.lit (.string s)]) (uu 0) := hrel 0 _ rfl
              generalize uu 0 = sv at hcell hrow
              cases hrow with
              | @isl _ _ _ a cap u2 hc hf hs ha2 hok2 h2' =>
                obtain ⟨b, o, rfl, hcells⟩ := ha2 (by simp)
                have hc0 := (hcells 0 0 (by simp) (by omega)).2
                have hv0 : VD I w (.lit (.string s)) (u2 0 0) := h2' 0 _ 0 _ rfl rfl
                have e3 : u2 0 0 = .string s := by
                  generalize u2 0 0 = z at hv0
                  cases hv0 with
                  | lit _ => rfl
                rw [e3] at hc0
                refine (sorted_call b o cap b0 o0 s.data.toList w (by simpa using hcell) (by simpa [encStr] using hc0)).mono ?_
                rintro e w' ⟨g, c, rfl, hc1, hbase, hcg, hB⟩
                refine ⟨_, fun b o => I b o ∨ (b = g ∧ o = 0), rfl, .isl (a := some ⟨g, 0, none⟩) (fun _ _ => .string s) (by simpa using hc1) (by simp) (fun i e he => ?_) (fun _ => ⟨g, 0, rfl, fun i j hi hj => ?_⟩) (fun i e j c he hj => ?_) (fun i e j c he hj => ?_), hB.size, hB.block, hB.os, hB.tape, hB.output, ?_⟩
                · match i, he with
                  | 0, he => cases he; exact ⟨rfl, Nat.zero_lt_one⟩
                  | i + 1, he => simp at he
                · have h1 : i = 0 := by simpa using hi
                  have h2 : j = 0 := by omega
                  subst h1; subst h2
                  exact ⟨.inr ⟨rfl, rfl⟩, by simpa [encStr] using hcg⟩
                · match i, he with
                  | 0, he =>
                    cases he
                    match j, hj with
                    | 0, hj => cases hj; rfl
                    | j + 1, hj => simp [cellsOf] at hj
                  | i + 1, he => simp at he
                · match i, he with
                  | 0, he =>
                    cases he
                    match j, hj with
                    | 0, hj => cases hj; exact .lit rfl
                    | j + 1, hj => simp [cellsOf] at hj
                  | i + 1, he => simp at he
                · rintro b o (h | ⟨rfl, rfl⟩)
                  · exact .inl h
                  · exact .inr ⟨hbase, _, hcg⟩
    · cases hp
  · cases hp
end Go.Proofs.YtkkjoomlfmofbaaGreatDoor
