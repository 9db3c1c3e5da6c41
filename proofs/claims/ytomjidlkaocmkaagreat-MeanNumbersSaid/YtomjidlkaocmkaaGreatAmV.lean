import Derived.Test.YtomjidlkaocmkaaGreatAmW
/-! Calls told over the part of memory that they can come to; calls that have been run once, with their memory. -/
namespace Go.Am

def addN (acc : List Nat) (id : Nat) : List Nat := bif acc.any (Nat.beq id) then acc else acc ++ [id]
def refsRef (acc : List Nat) : AV → List Nat
  | .ptr id _ _ => addN acc id
  | _ => acc
def refsCell (acc : List Nat) : AV → List Nat
  | .sl id _ _ _ | .ptr id _ _ | .map id => addN acc id
  | .fn _ x y => y.foldl refsRef (x.foldl refsRef acc)
  | _ => acc
def refs1 (acc : List Nat) : AV → List Nat
  | .agg cs => cs.foldl refsCell acc
  | v => refsCell acc v
def refsObj (acc : List Nat) : AObj → List Nat
  | .arr A => A.elems.foldl refs1 acc
  | .map es _ => es.foldl (fun a e => refs1 a e.2.1) acc
  | .siter (.ent m _ _ _) => addN acc m
  | _ => acc
def reachG (h : Heap) : Nat → Nat → List Nat → List Nat
  | 0, _, acc => acc
  | k + 1, i, acc => match acc[i]? with
    | none => acc
    | some id => reachG h k (i + 1) (match h[id]? with | some o => refsObj acc o | none => acc)
def reach (h : Heap) (args : List AV) : List Nat := reachG h (h.length + 1) 0 (args.foldl refs1 [])

/-- A function over the part of memory that its arguments come to. -/
def subF (F : FnF) : FnF := fun call args h => subX (withinX (F call)) (reach h args) args h

theorem subF_ok {P : Program} {T : Tr} {f : FuncId} {F : FnF} (ok : FnOk P T f F) : FnOk P T f (subF F) :=
  fun call hcall args h r h' hc => subX_ok (fun _ _ _ _ hw => withinX_ok (fun _ _ _ _ hF => ok call hcall _ _ _ _ hF) hw) hc

structure RowH where
  args : List AV
  h : Heap
  r : AV
  h' : Heap

def findR (args : List AV) (h : Heap) : List RowH → Option (AV × Heap)
  | [] => none
  | x :: l => bif all2 (same 64) x.args args && allG sameO x.h h then some (x.r, x.h') else findR args h l

/-- A function, some of whose calls have been run once. -/
def memoF (rows : List RowH) (F : FnF) : FnF := fun call args h => match findR args h rows with
  | some x => some x
  | none => F call args h

theorem memoF_ok {P : Program} {T : Tr} {f : FuncId} {F : FnF} {rows : List RowH} (ok : FnOk P T f F) (hr : ∀ x ∈ rows, SaysCall P T f x.args x.h x.r x.h') : FnOk P T f (memoF rows F) := by
  intro call hcall args h r h' hc
  unfold memoF at hc
  split at hc
  · rename_i x hx
    cases hc
    have key : ∀ l : List RowH, (∀ x ∈ l, x ∈ rows) → findR args h l = some (r, h') → SaysCall P T f args h r h' := by
      intro l
      induction l with
      | nil => intro _ h; cases h
      | cons x l ih =>
        intro hl hf
        simp only [findR] at hf
        cases hb : all2 (same 64) x.args args && allG sameO x.h h with
        | false => rw [hb] at hf; exact ih (fun y hy => hl y (List.mem_cons_of_mem _ hy)) hf
        | true =>
          rw [hb] at hf
          cases hf
          rw [Bool.and_eq_true] at hb
          have e1 := all2_eq (same_eq 64) hb.1
          have e2 := allG_eq sameO_eq hb.2
          rw [← e1, ← e2]
          exact hr x (hl x List.mem_cons_self)
    exact key rows (fun _ h => h) hx
  · exact ok call hcall _ _ _ _ hc

def SEnv.withF (E : SEnv) (f : FuncId) (w : How) (F : FnF) : SEnv := { E with fns := fun g => bif Nat.beq g f then some (w, F) else E.fns g }

theorem SEnvOk.withF {E : SEnv} (ok : SEnvOk E) {f : FuncId} {w : How} {F : FnF} (hF : FnOk E.P E.gl f F) : SEnvOk (E.withF f w F) where
  prim := ok.prim
  fns := fun g w' F' h => by
    simp only [SEnv.withF] at h
    cases hb : Nat.beq g f with
    | true => rw [hb] at h; cases h; rw [Nat.eq_of_beq_eq_true hb]; exact hF
    | false => rw [hb] at h; exact ok.fns g w' F' h

def isRH : Option (AV × Heap) → AV → Heap → Bool
  | some (r, h), r', h' => same 64 r r' && allG sameO h h'
  | none, _, _ => false

theorem isRH_spec {x : Option (AV × Heap)} {r : AV} {h : Heap} (hx : isRH x r h = true) : x = some (r, h) := by
  unfold isRH at hx
  split at hx
  · rw [Bool.and_eq_true] at hx
    rw [same_eq 64 _ _ hx.1, allG_eq sameO_eq hx.2]
  · cases hx

/-- A call that has been run once. -/
theorem rowH_ok {E : SEnv} (ok : SEnvOk E) {f : FuncId} {F : FnF} (hF : FnOk E.P E.gl f F) {n : Nat} {args : List AV} {h : Heap} {r : AV} {h' : Heap} (hx : isRH (withinX (F (scall E n)) args h) r h' = true) : SaysCall E.P E.gl f args h r h' :=
  withinX_ok (fun _ _ _ _ h1 => hF _ (scall_ok ok n) _ _ _ _ h1) (isRH_spec hx)

end Go.Am
