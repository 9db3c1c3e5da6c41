import Derived.Test.YtkkjoomlfmofbaaGreatDoorAmH
import Derived.Orders
set_option linter.unusedSimpArgs false
set_option linter.unusedVariables false
set_option linter.unusedSectionVars false
/-! Regions that draw their order: one run in the order of the text, and a look at what could come otherwise. -/
namespace Go.Am

variable {P : Program}

/-! ### Equal values -/

def vsame : Value → Value → Bool
  | .int k a, .int k' b => Nat.beq (kindNo k) (kindNo k') && a == b
  | .bool a, .bool b => a == b
  | .string a, .string b => a.data.toList == b.data.toList
  | .pointer none, .pointer none | .slice none 0 0, .slice none 0 0 | .nilFunc, .nilFunc | .nilIface, .nilIface | .map none, .map none => true
  | .tuple a, .tuple b => a.toList.isEmpty && b.toList.isEmpty
  | .complex .f64 a b, .complex .f64 c d => Nat.beq a c && Nat.beq b d
  | .float .f64 a, .float .f64 c => Nat.beq a c
  | .agg a, .agg b => match intsSame a.toList b.toList with
    | some r => r
    | none => false
  | _, _ => false

theorem vsame_eq {a b : Value} (h : vsame a b = true) : a = b := by
  unfold vsame at h
  split at h <;> first | rfl | (cases h; done) | skip
  · rw [Bool.and_eq_true] at h
    rw [kindNo_inj h.1, eq_of_beq h.2]
  · rw [eq_of_beq h]
  · congr 1
    apply ByteArray.ext
    apply Array.ext'
    exact eq_of_beq h
  · rw [Bool.and_eq_true] at h
    congr 1
    apply Array.ext'
    rw [List.isEmpty_iff.1 h.1, List.isEmpty_iff.1 h.2]
  · rw [Bool.and_eq_true] at h
    rw [Nat.eq_of_beq_eq_true h.1, Nat.eq_of_beq_eq_true h.2]
  · rw [Nat.eq_of_beq_eq_true h]
  · split at h
    · rename_i hr
      subst h
      congr 1
      exact (Array.ext' (intsSame_true hr)).symm
    · cases h

def all2 (p : AV → AV → Bool) : List AV → List AV → Bool
  | [], [] => true
  | a :: x, b :: y => p a b && all2 p x y
  | _, _ => false

theorem all2_eq {p : AV → AV → Bool} (hp : ∀ a b, p a b = true → a = b) : ∀ {x y : List AV}, all2 p x y = true → x = y
  | [], [], _ => rfl
  | a :: x, b :: y, h => by
    simp only [all2, Bool.and_eq_true] at h
    rw [hp _ _ h.1, all2_eq hp h.2]
  | [], b :: y, h => by cases h
  | a :: x, [], h => by cases h

def same : Nat → AV → AV → Bool
  | 0, _, _ => false
  | _ + 1, .lit a, .lit b => vsame a b
  | n + 1, .agg x, .agg y => all2 (same n) x y
  | n + 1, .tup x, .tup y => all2 (same n) x y
  | n + 1, .isl z f x, .isl z' f' y => Nat.beq z z' && f == f' && all2 (same n) x y
  | n + 1, .iptr e o, .iptr e' o' => Nat.beq o o' && same n e e'
  | _ + 1, .sl a b c f, .sl a' b' c' f' => Nat.beq a a' && Nat.beq b b' && Nat.beq c c' && f == f'
  | _ + 1, .ptr a b c, .ptr a' b' c' => Nat.beq a a' && Nat.beq b b' && Nat.beq c c'
  | _ + 1, .map a, .map b => Nat.beq a b
  | n + 1, .fn (.func f) x y, .fn (.func f') x' y' => Nat.beq f f' && all2 (same n) x x' && all2 (same n) y y'
  | n + 1, .iface t v, .iface t' v' => Nat.beq t t' && same n v v'
  | _ + 1, .sym a, .sym b => Nat.beq a b
  | _ + 1, _, _ => false

theorem same_eq : ∀ (n : Nat) (a b : AV), same n a b = true → a = b
  | 0, _, _, h => by cases h
  | n + 1, a, b, h => by
    have ih := same_eq n
    cases a with
    | lit a => cases b with
      | lit b => simp only [same] at h; rw [vsame_eq h]
      | _ => simp [same] at h
    | agg x => cases b with
      | agg y => simp only [same] at h; rw [all2_eq ih h]
      | _ => simp [same] at h
    | tup x => cases b with
      | tup y => simp only [same] at h; rw [all2_eq ih h]
      | _ => simp [same] at h
    | isl z f x => cases b with
      | isl z' f' y => simp only [same, Bool.and_eq_true] at h; rw [Nat.eq_of_beq_eq_true h.1.1, eq_of_beq h.1.2, all2_eq ih h.2]
      | _ => simp [same] at h
    | iptr e o => cases b with
      | iptr e' o' => simp only [same, Bool.and_eq_true] at h; rw [Nat.eq_of_beq_eq_true h.1, ih _ _ h.2]
      | _ => simp [same] at h
    | sl => cases b with
      | sl => simp only [same, Bool.and_eq_true] at h; rw [Nat.eq_of_beq_eq_true h.1.1.1, Nat.eq_of_beq_eq_true h.1.1.2, Nat.eq_of_beq_eq_true h.1.2, eq_of_beq h.2]
      | _ => simp [same] at h
    | ptr => cases b with
      | ptr => simp only [same, Bool.and_eq_true] at h; rw [Nat.eq_of_beq_eq_true h.1.1, Nat.eq_of_beq_eq_true h.1.2, Nat.eq_of_beq_eq_true h.2]
      | _ => simp [same] at h
    | map => cases b with
      | map => simp only [same] at h; rw [Nat.eq_of_beq_eq_true h]
      | _ => simp [same] at h
    | fn f x y => cases b with
      | fn f' x' y' => cases f with
        | func f => cases f' with
          | func f' => simp only [same, Bool.and_eq_true] at h; rw [Nat.eq_of_beq_eq_true h.1.1, all2_eq ih h.1.2, all2_eq ih h.2]
          | _ => simp [same] at h
        | _ => simp [same] at h
      | _ => simp [same] at h
    | junk => simp [same] at h
    | sym => cases b with
      | sym => simp only [same] at h; rw [Nat.eq_of_beq_eq_true h]
      | _ => simp [same] at h
    | iface => cases b with
      | iface => simp only [same, Bool.and_eq_true] at h; rw [Nat.eq_of_beq_eq_true h.1, ih _ _ h.2]
      | _ => simp [same] at h

/-! ### Operations that leave memory alone -/

/-- Whose answer does not hang on memory. -/
def heapFree (P : Program) (o : Oper) : Bool :=
  match o.op with
  | .move _ | .assign _ | .pick .. | .build .. | .nilCheck _ | .binOp .. | .unOp .. | .makeInterface .. | .makeFunc .. | .fieldAddr .. | .field .. | .index .. | .extract .. => true
  | .call { callee := .builtin b, argTypes, .. } => match b with
    | .append | .copy | .clear => false
    | .len => match argTypes.toList with
      | [t] => match P.underlying t with
        | some (.map _ _) => false
        | _ => true
      | _ => true
    | _ => true
  | _ => false

def quietVal (P : Program) (e : Operand → AV) (h : Heap) (o : Oper) : Option AV :=
  match o.op with
  | .load .. | .indexAddr .. | .slice .. | .convert .. => (plainOp P e h o).map (·.1)
  | .buildSlice t len parts => match buildSlice P t len (parts.toList.map fun p => (p.1, e p.2)) [] with
    | some (.isl z f es, _) => some (.isl z f es)
    | _ => none
  | .call { callee := .value f, args, .. } => match e f with
    | .fn (.func g) first cap => match (P.funcs[g]?).bind (·.body) with
      | some _ => none
      | none => litCall P (first ++ args.toList.map e ++ cap) g
    | _ => none
  | _ => if heapFree P o then (plainOp P e h o).map (·.1) else none

/-- Whose answer, if it is quiet, does not hang on memory. -/
def noHeap (o : Oper) : Bool :=
  match o.op with
  | .load .. | .indexAddr .. | .slice .. | .convert .. => false
  | _ => true

theorem plain_free (e : Operand → AV) {o : Oper} (hf : heapFree P o = true) : ∃ x : Option AV, ∀ h, plainOp P e h o = x.map (·, h) := by
  obtain ⟨dst, op, ty, pos, after, guard⟩ := o
  cases op with
  | move x => exact ⟨some (e x), fun h => rfl⟩
  | assign x => exact ⟨some (e x), fun h => rfl⟩
  | pick c a b =>
    simp only [plainOp]
    split
    · exact ⟨some _, fun h => rfl⟩
    · exact ⟨none, fun h => rfl⟩
  | build t parts => exact ⟨_, fun h => rfl⟩
  | nilCheck x =>
    simp only [plainOp]
    split
    · exact ⟨some _, fun h => rfl⟩
    · exact ⟨some _, fun h => rfl⟩
    · exact ⟨some _, fun h => rfl⟩
    · exact ⟨none, fun h => rfl⟩
  | binOp => exact ⟨_, fun h => rfl⟩
  | unOp op t x =>
    simp only [plainOp]
    split
    · exact ⟨some _, fun h => rfl⟩
    · exact ⟨_, fun h => rfl⟩
  | makeInterface t x =>
    simp only [plainOp]
    split
    · exact ⟨none, fun h => rfl⟩
    · exact ⟨none, fun h => rfl⟩
    · exact ⟨some _, fun h => rfl⟩
  | makeFunc f first cap => exact ⟨some _, fun h => rfl⟩
  | fieldAddr => exact ⟨_, fun h => rfl⟩
  | field => exact ⟨_, fun h => rfl⟩
  | index => exact ⟨_, fun h => rfl⟩
  | extract t i =>
    simp only [plainOp]
    split
    · exact ⟨_, fun h => rfl⟩
    · exact ⟨none, fun h => rfl⟩
  | call c =>
    obtain ⟨callee, args, ats⟩ := c
    cases callee with
    | builtin b =>
      simp only [plainOp]
      split
      · simp [heapFree] at hf
      · simp [heapFree] at hf
      · simp [heapFree] at hf
      · rename_i ht
        split
        · exact ⟨some _, fun h => rfl⟩
        · split
          · exact ⟨some _, fun h => rfl⟩
          · exact ⟨none, fun h => rfl⟩
        · rename_i hu
          simp only [heapFree, ht, hu] at hf
          cases hf
        · exact ⟨_, fun h => rfl⟩
      · split
        · exact ⟨some _, fun h => rfl⟩
        · exact ⟨some _, fun h => rfl⟩
        · exact ⟨_, fun h => rfl⟩
      · exact ⟨_, fun h => rfl⟩
    | value f => simp [heapFree] at hf
    | invoke x m => simp [heapFree] at hf
  | _ => simp [heapFree] at hf

theorem snapCell_nil {c c' : AV} {ids : List Nat} (hs : snapCell [] c = some (c', ids)) (h : Heap) : snapCell h c = some (c', ids) ∧ ids = [] := by
  cases c with
  | sl id off len full => simp [snapCell] at hs
  | _ =>
    simp only [snapCell] at hs ⊢
    split at hs
    · rename_i hf; cases hs; exact ⟨by rw [if_pos hf], rfl⟩
    · cases hs

theorem snapCells_nil : ∀ {cs cs' : List AV} {ids : List Nat}, snapCells [] cs = some (cs', ids) → ∀ h, snapCells h cs = some (cs', ids) ∧ ids = []
  | [], cs', ids, hs, h => by simp only [snapCells, Option.some.injEq, Prod.mk.injEq] at hs ⊢; exact ⟨hs, hs.2.symm⟩
  | c :: cs, cs', ids, hs, h => by
    simp only [snapCells] at hs
    split at hs
    · rename_i c' i cs'' j h1 h2
      cases hs
      obtain ⟨a1, rfl⟩ := snapCell_nil h1 h
      obtain ⟨a2, rfl⟩ := snapCells_nil h2 h
      simp only [snapCells, a1, a2]
      simp
    · cases hs

theorem snap1_nil {c c' : AV} {ids : List Nat} (hs : snap1 [] c = some (c', ids)) (h : Heap) : snap1 h c = some (c', ids) ∧ ids = [] := by
  cases c with
  | agg cs =>
    simp only [snap1] at hs ⊢
    cases hc : snapCells [] cs with
    | none => rw [hc] at hs; cases hs
    | some p =>
      obtain ⟨cs', i⟩ := p
      rw [hc] at hs
      cases hs
      obtain ⟨a1, rfl⟩ := snapCells_nil hc h
      rw [a1]; exact ⟨rfl, rfl⟩
  | _ => simp only [snap1] at hs ⊢; exact snapCell_nil hs h

theorem snaps_nil : ∀ {cs cs' : List AV} {ids : List Nat}, snaps [] cs = some (cs', ids) → ∀ h, snaps h cs = some (cs', ids) ∧ ids = []
  | [], cs', ids, hs, h => by simp only [snaps, Option.some.injEq, Prod.mk.injEq] at hs ⊢; exact ⟨hs, hs.2.symm⟩
  | c :: cs, cs', ids, hs, h => by
    simp only [snaps] at hs
    split at hs
    · rename_i c' i cs'' j h1 h2
      cases hs
      obtain ⟨a1, rfl⟩ := snap1_nil h1 h
      obtain ⟨a2, rfl⟩ := snaps_nil h2 h
      simp only [snaps, a1, a2]
      simp
    · cases hs

theorem buildSlice_nil {t : TypeId} {len : Nat} {ps : List (Nat × AV)} {z : Nat} {f : Bool} {es : List AV} {h1 : Heap} (hb : buildSlice P t len ps [] = some (.isl z f es, h1)) (h : Heap) :
    buildSlice P t len ps h = some (.isl z f es, h) := by
  unfold buildSlice at hb ⊢
  split at hb
  · split at hb
    · rename_i i hi
      split at hb
      · cases hb
      · rename_i h0
        simp only [h0, if_false]
        split at hb
        · rename_i zz hz
          split at hb
          · cases hb
          · rename_i hzz
            simp only [hzz, if_false]
            split at hb
            · rename_i es0 hes
              split at hb
              · rename_i es' ids hsn
                split at hsn
                · rename_i hall
                  obtain ⟨a1, rfl⟩ := snaps_nil hsn h
                  simp only [if_pos hall, a1]
                  cases hb
                  rfl
                · cases hsn
              · cases hb
            · cases hb
        · cases hb
    · cases hb
  · cases hb

theorem plain_keep (e : Operand → AV) (h : Heap) {o : Oper} (ho : ∀ {v h'}, plainOp P e h o = some (v, h') → h' = h) {v : AV} (hq : (plainOp P e h o).map (·.1) = some v) : plainOp P e h o = some (v, h) := by
  cases hp : plainOp P e h o with
  | none => rw [hp] at hq; cases hq
  | some p =>
    obtain ⟨v', h'⟩ := p
    rw [hp] at hq
    cases hq
    rw [ho hp]

theorem quiet_call {e : Operand → AV} {h : Heap} {o : Oper} {v : AV} (hq : quietVal P e h o = some v) (call : CallF) : callOp P call e h o = some (v, h) := by
  have free : heapFree P o = true → (plainOp P e h o).map (·.1) = some v → plainOp P e h o = some (v, h) := by
    intro hf hq
    obtain ⟨x, hx⟩ := plain_free (P := P) e hf
    rw [hx] at hq ⊢
    cases x with
    | none => cases hq
    | some y => cases hq; rfl
  obtain ⟨dst, op, ty, pos, after, guard⟩ := o
  cases op with
  | load t a => exact plain_keep e h (fun hp => by simp only [plainOp] at hp; exact (keep_inv hp).2) hq
  | indexAddr t x i => exact plain_keep e h (fun hp => by simp only [plainOp] at hp; exact (keep_inv hp).2) hq
  | slice t x lo hi mx => exact plain_keep e h (fun hp => by simp only [plainOp] at hp; exact (keep_inv hp).2) hq
  | convert s d x => exact plain_keep e h (fun hp => by simp only [plainOp] at hp; exact (keep_inv hp).2) hq
  | buildSlice t len parts =>
    simp only [quietVal] at hq
    split at hq
    · rename_i z f es h1 hb
      cases hq
      exact buildSlice_nil hb h
    · cases hq
  | call c =>
    obtain ⟨callee, args, ats⟩ := c
    cases callee with
    | value f =>
      simp only [quietVal] at hq
      simp only [callOp]
      split at hq
      · rename_i g first cap he
        simp only [he]
        split at hq
        · cases hq
        · rename_i hb
          simp only [hb, hq]
      · cases hq
    | builtin b =>
      simp only [quietVal] at hq
      split at hq
      · rename_i hf; exact free hf hq
      · cases hq
    | invoke x m => simp [quietVal, heapFree] at hq
  | _ =>
    simp only [quietVal] at hq
    split at hq
    · rename_i hf; exact free hf hq
    · cases hq

theorem quiet_noHeap {e : Operand → AV} {h : Heap} {o : Oper} (hn : noHeap o = true) (h2 : Heap) : quietVal P e h o = quietVal P e h2 o := by
  have free : heapFree P o = true → (plainOp P e h o).map (·.1) = (plainOp P e h2 o).map (·.1) := by
    intro hf
    obtain ⟨x, hx⟩ := plain_free (P := P) e hf
    rw [hx, hx]
    cases x <;> rfl
  obtain ⟨dst, op, ty, pos, after, guard⟩ := o
  cases op with
  | load t a => simp [noHeap] at hn
  | indexAddr t x i => simp [noHeap] at hn
  | slice t x lo hi mx => simp [noHeap] at hn
  | convert s d x => simp [noHeap] at hn
  | buildSlice t len parts => rfl
  | call c =>
    obtain ⟨callee, args, ats⟩ := c
    cases callee with
    | value f => rfl
    | builtin b => simp only [quietVal]; split <;> first | (rename_i hf; exact free hf) | rfl
    | invoke x m => simp [quietVal, heapFree]
  | _ => simp only [quietVal]; split <;> first | (rename_i hf; exact free hf) | rfl

end Go.Am
