import Derived.Test.YtkkjoomlfmofbaaGreatDoorCards
import Derived.Test.YtkkjoomlfmofbaaGreatDoorTf11
import Derived.Deep.DeepWitnessRef
import Derived.Deep.DeepLaidRun
import Derived.Lib.LaidU8
import Derived.WalkKit
import Derived.ProofKit
import Derived.OpenShut
import Derived.Deep.DeepHandedRow
import Derived.Lib.LaidTab
import Derived.Stop.LaidErr
import Derived.LaidLaws
import Derived.Test.YtkkjoomlfmofbaaGreatDoorRows
import Derived.LaidByTextLater
import Derived.SevenTiedAt
set_option linter.unusedSimpArgs false
set_option linter.unusedVariables false
set_option linter.unusedSectionVars false

namespace Go.Proofs.YtkkjoomlfmofbaaGreatDoor
open Go.ChangeShapes Go.WideShapes Go.ChangeAt Go.RowKit
open Go.Am
set_option maxRecDepth 100000

/-! ### What the rows of this seat have in common: the package's variables that are laid -/

theorem own : ownKnob Tryz.prog.godebug = none := by kernel_rfl
theorem gSpace : Tryz.prog.globalNamed "strings.asciiSpace" = some 1 := by kernel_rfl
theorem gSpaceT : (Tryz.prog.globals[1]?).map (·.type) = some 521 := by kernel_rfl
theorem gPowT : (Tryz.prog.globals[6]?).map (·.type) = some 656 := by kernel_rfl
theorem gErr : Tryz.prog.globalNamed "strconv.ErrSyntax" = some 4 := by kernel_rfl
theorem gErrT : (Tryz.prog.globals[4]?).map (·.type) = some 508 := by kernel_rfl
theorem sameSpace : (Rows.laid_strings_asciiSpace : DataW Unit) = Lib.tabData .u8 spaceTab := by kernel_rfl
theorem samePow : (Rows.laid_internal_strconv_uint64pow10 : DataW Unit) = Lib.tabData .u64 Lib.pow10Tab := by kernel_rfl

def laidL : List (String × DataW Unit) := [("strings.asciiSpace", Rows.laid_strings_asciiSpace), ("unicode.White_Space", Rows.laid_unicode_White_Space), ("internal/strconv.uint64pow10", Rows.laid_internal_strconv_uint64pow10), ("math/bits.deBruijn32tab", Rows.laid_math_bits_deBruijn32tab), ("math/bits.deBruijn64tab", Rows.laid_math_bits_deBruijn64tab), ("strconv.ErrSyntax", Rows.laid_strconv_ErrSyntax), ("strconv.ErrRange", Rows.laid_strconv_ErrRange)]

theorem tabPow {W : World} (h : laidMet Tryz.prog laidL W) : Lib.TabIs Tryz.prog W "internal/strconv.uint64pow10" .u64 Lib.pow10Tab := by
  have h2 := h.tail.tail
  rw [samePow] at h2
  exact Lib.tabIs_of_head gPow gPowT Tryz.underlying656 Tryz.underlying237 (by kernel_rfl) (by kernel_rfl) h2

theorem tabSpace {W : World} (h : laidMet Tryz.prog laidL W) : Lib.TabIs Tryz.prog W "strings.asciiSpace" .u8 spaceTab := by
  have h2 := h
  unfold laidL at h2
  rw [sameSpace] at h2
  exact Lib.tabIs_of_head gSpace gSpaceT Tryz.underlying521 Tryz.underlying5 (by kernel_rfl) (by kernel_rfl) h2

theorem star : "*" ++ "errors.errorString" = "*errors.errorString" := by decide
/-- One type alone bears this name. -/
theorem oneName (u : TypeId) (h : Tryz.prog.typeName? 3 u = some "*errors.errorString") : u = 652 :=
  typeName_ptr_named (nm := "errors.errorString") (by rw [star]; kernel_rfl) (by kernel_rfl) (by decide) u (by rw [star]; exact h)

theorem errSyntax {W : World} (h : laidMet Tryz.prog laidL W) : ∃ p, W.cell? ⟨4, 0, none⟩ = some (.iface 652 p) ∧ ∃ t fz, W.heap[4]? = some (.cells #[.iface 652 p] t fz) := by
  obtain ⟨a, s, hv, _⟩ := laid_sentinel (tp := 652) (te := 654) (ts := 9) h.tail.tail.tail.tail.tail gErr gErrT Tryz.underlying508 oneName Tryz.underlying652 Tryz.underlying654 rfl rfl Tryz.underlying9 (by kernel_rfl) (by kernel_rfl)
  unfold World.var? at hv
  rw [gErr] at hv
  simp only [Option.bind_some] at hv
  split at hv
  · rename_i cs t fz hc
    cases hv
    exact ⟨_, by simp [World.cell?, hc], t, fz, hc⟩
  · cases hv

theorem globs {W : World} (h : laidMet Tryz.prog laidL W) : ∃ J : Nat → Nat → Prop, (∀ b o, J b o → ∃ u, W.cell? ⟨b, o, none⟩ = some u) ∧ ∀ [Nu], GlobV gl ⟨fun _ => (0, 0), J⟩ [] W := by
  obtain ⟨p, hc, t, fz, hh⟩ := errSyntax h
  refine ⟨fun b o => (b = 1 ∧ o < spaceTab.length) ∨ (b = 6 ∧ o < Lib.pow10Tab.length) ∨ (b = 4 ∧ o = 0), ?_, ?_⟩
  · letI : Nu := noNu
    have a1 := (tab_vd (P := Tryz.prog) (I := fun b o => b = 1 ∧ o < spaceTab.length) (fun o ho => ⟨rfl, ho⟩) gSpace (tabSpace h)).2.2
    have a2 := (tab_vd (P := Tryz.prog) (I := fun b o => b = 6 ∧ o < Lib.pow10Tab.length) (fun o ho => ⟨rfl, ho⟩) gPow (tabPow h)).2.2
    rintro b o (⟨rfl, ho⟩ | ⟨rfl, ho⟩ | ⟨rfl, rfl⟩)
    · exact a1 o ho
    · exact a2 o ho
    · exact ⟨_, hc⟩
  · intro _
    obtain ⟨s1, s2, _⟩ := tab_vd (P := Tryz.prog) (w := W) (I := fun b o => (b = 1 ∧ o < spaceTab.length) ∨ (b = 6 ∧ o < Lib.pow10Tab.length) ∨ (b = 4 ∧ o = 0)) (fun o ho => .inl ⟨rfl, ho⟩) gSpace (tabSpace h)
    obtain ⟨q1, q2, _⟩ := tab_vd (P := Tryz.prog) (w := W) (I := fun b o => (b = 1 ∧ o < spaceTab.length) ∨ (b = 6 ∧ o < Lib.pow10Tab.length) ∨ (b = 4 ∧ o = 0)) (fun o ho => .inr (.inl ⟨rfl, ho⟩)) gPow (tabPow h)
    refine GlobV.put (by decide) (GlobV.put (by decide) (GlobV.put (by decide) (GlobV.leaf _ _ _) ?_ ⟨_, t, fz, hh, rfl⟩) q1 q2) s1 s2
    have : VD (fun b o => (b = 1 ∧ o < spaceTab.length) ∨ (b = 6 ∧ o < Lib.pow10Tab.length) ∨ (b = 4 ∧ o = 0)) W (.iptr (.agg [.iface 652 .junk]) 0) (.pointer (some ⟨4, 0 + 0, none⟩)) := by
      refine .iptr (fun _ => .iface 652 p) (fun j hj => ?_) (fun j c hc' => ?_) (fun j c hc' => ?_)
      · have : j = 0 := by simpa [cellsOf] using hj
        subst this
        exact ⟨.inr (.inr ⟨rfl, rfl⟩), hc⟩
      · match j, hc' with
        | 0, hc' => cases hc'; rfl
        | j + 1, hc' => simp [cellsOf] at hc'
      · match j, hc' with
        | 0, hc' => cases hc'; exact .iface .junk
        | j + 1, hc' => simp [cellsOf] at hc'
    exact this

def cellsD (d : DataW Unit) : Array Value :=
  match d with
  | .agg l => (l.map fun
    | .lit (.int k z) => Value.int k z
    | _ => undef).toArray
  | _ => #[]

end Go.Proofs.YtkkjoomlfmofbaaGreatDoor

namespace Go.Proofs.YtkkjoomlfmofbaaGreatDoor
open Go
abbrev laidT : List (String × DataW Unit) := [("strings.asciiSpace", Rows.laid_strings_asciiSpace), ("unicode.White_Space", Rows.laid_unicode_White_Space), ("internal/strconv.uint64pow10", Rows.laid_internal_strconv_uint64pow10), ("math/bits.deBruijn32tab", Rows.laid_math_bits_deBruijn32tab), ("math/bits.deBruijn64tab", Rows.laid_math_bits_deBruijn64tab), ("strconv.ErrSyntax", Rows.laid_strconv_ErrSyntax), ("strconv.ErrRange", Rows.laid_strconv_ErrRange)]
theorem tie7 (os : Os) (tape : Tape) : varsDone Tryz.prog 400 (varsId Tryz.prog) os tape = true := by kernel_rfl
theorem tie8 (os : Os) (tape : Tape) : (DataW.laidRun Tryz.prog (varsWorld Tryz.prog 400 (varsId Tryz.prog) os tape).memory 8 (laidT.map (·.1))).map (·.1) = some laidT := by kernel_rfl
end Go.Proofs.YtkkjoomlfmofbaaGreatDoor

namespace Go.Proofs.YtkkjoomlfmofbaaGreatDoor
open Go
set_option maxRecDepth 100000
def encP : MemPlace → Nat
  | .cell b o => 2 * (b * 1000000 + o)
  | .map b => 2 * b + 1
theorem encP_ne {x y : MemPlace} (h : encP x ≠ encP y) : x ≠ y := fun e => h (congrArg encP e)
def insN (n : Nat) : List Nat → List Nat
  | [] => [n]
  | m :: l => bif Nat.ble n m then n :: m :: l else m :: insN n l
def sortN : List Nat → List Nat
  | [] => []
  | n :: l => insN n (sortN l)
def ascN : List Nat → Bool
  | [] => true
  | [_] => true
  | a :: b :: l => Nat.blt a b && ascN (b :: l)
theorem insN_perm (n : Nat) : ∀ l, (insN n l).Perm (n :: l)
  | [] => .refl _
  | m :: l => by
    unfold insN
    cases Nat.ble n m
    · exact ((insN_perm n l).cons m).trans (.swap n m l)
    · exact .refl _
theorem sortN_perm : ∀ l, (sortN l).Perm l
  | [] => .refl _
  | n :: l => (insN_perm n (sortN l)).trans ((sortN_perm l).cons n)
theorem ascN_lt : ∀ (l : List Nat) (a : Nat), ascN (a :: l) = true → ∀ x ∈ l, a < x
  | [], _, _, x, hx => by cases hx
  | b :: l, a, h, x, hx => by
    simp only [ascN, Bool.and_eq_true] at h
    have hb : a < b := by
      have := h.1
      rwa [Nat.blt_eq] at this
    rcases List.mem_cons.1 hx with rfl | hx
    · exact hb
    · exact Nat.lt_trans hb (ascN_lt l b h.2 x hx)
theorem ascN_nodup : ∀ l, ascN l = true → l.Nodup
  | [], _ => List.nodup_nil
  | a :: l, h => by
    refine List.nodup_cons.2 ⟨fun hm => absurd (ascN_lt l a h a hm) (Nat.lt_irrefl a), ascN_nodup l ?_⟩
    cases l with
    | nil => rfl
    | cons b l => simp only [ascN, Bool.and_eq_true] at h; exact h.2
theorem nodupN {ps : List MemPlace} (h : ascN (sortN (ps.map encP)) = true) : ps.Nodup := by
  have h1 : (ps.map encP).Nodup := (sortN_perm _).nodup_iff.1 (ascN_nodup _ h)
  have : ps.Pairwise fun a b => encP a ≠ encP b := List.pairwise_map.1 h1
  exact this.imp encP_ne
theorem tie9a (os : Os) (tape : Tape) : (DataW.laidRun Tryz.prog (varsWorld Tryz.prog 400 (varsId Tryz.prog) os tape).memory 8 (laidT.map (·.1))).map (fun x => ascN (sortN (x.2.map encP))) = some true := by kernel_rfl
end Go.Proofs.YtkkjoomlfmofbaaGreatDoor

namespace Go.Proofs.YtkkjoomlfmofbaaGreatDoor
open Go
set_option maxRecDepth 100000
theorem tie9b (os : Os) (tape : Tape) : (DataW.laidRun Tryz.prog (varsWorld Tryz.prog 400 (varsId Tryz.prog) os tape).memory 8 (laidT.map (·.1))).map (fun x => laidRowsB Tryz.prog (varsWorld Tryz.prog 400 (varsId Tryz.prog) os tape).memory x.2) = some true := by kernel_rfl
end Go.Proofs.YtkkjoomlfmofbaaGreatDoor
