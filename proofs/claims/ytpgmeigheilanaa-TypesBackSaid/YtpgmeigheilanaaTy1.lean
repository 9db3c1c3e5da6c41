import Derived.Test.YtpgmeigheilanaaGTy
namespace Go.Proofs.Ytpgmeigheilanaa
open Go.Am
set_option maxRecDepth 100000

/-! ### The types that are made, and their texts -/

inductive Y where
  | atom (k : Nat)
  | arr (t : Y)
  | fn (ps : List Y) (r : Y)

def atomY (k : Nat) : List UInt8 := if k = 0 then [110, 117, 109] else if k = 1 then [98, 121, 116, 101, 115] else if k = 2 then [109, 46, 84] else if k = 3 then [97, 46, 66] else [120, 95, 49, 46, 89]

mutual
def textY : Y → List UInt8
  | .atom k => atomY k
  | .arr t => 91 :: (textY t ++ [93])
  | .fn ps r => 40 :: (joinY ps ++ 41 :: textY r)
def joinY : List Y → List UInt8
  | [] => []
  | t :: ts => textY t ++ tailY ts
def tailY : List Y → List UInt8
  | [] => []
  | t :: ts => 44 :: (textY t ++ tailY ts)
end

mutual
/-- No function has more than six parameters. -/
def goodY : Y → Prop
  | .atom _ => True
  | .arr t => goodY t
  | .fn ps r => ps.length ≤ 6 ∧ goodYs ps ∧ goodY r
def goodYs : List Y → Prop
  | [] => True
  | t :: ts => goodY t ∧ goodYs ts
end

theorem goodYs_append {a b : List Y} (h : goodYs a) (h' : goodYs b) : goodYs (a ++ b) := by
  induction a with
  | nil => exact h'
  | cons x a ih => simp only [goodYs, List.cons_append] at h ⊢; exact ⟨h.1, ih h.2⟩

def arrN : Nat → Y → Y
  | 0, t => t
  | k + 1, t => .arr (arrN k t)

/-- A type without brackets around it. -/
def coreY : Y → Prop
  | .arr _ => False
  | _ => True

theorem core_arr (t : Y) : ∃ k c, t = arrN k c ∧ coreY c := by
  match t with
  | .atom k => exact ⟨0, .atom k, rfl, trivial⟩
  | .fn ps r => exact ⟨0, .fn ps r, rfl, trivial⟩
  | .arr t =>
    obtain ⟨k, c, h1, h2⟩ := core_arr t
    exact ⟨k + 1, c, by rw [h1]; rfl, h2⟩

theorem text_arrN (k : Nat) (c : Y) : textY (arrN k c) = List.replicate k 91 ++ (textY c ++ List.replicate k 93) := by
  induction k with
  | zero => simp [arrN]
  | succ k ih =>
    simp only [arrN, textY, ih, List.replicate_succ (a := (91 : UInt8)), List.cons_append, List.append_assoc]
    rw [show List.replicate k (93 : UInt8) ++ [93] = List.replicate (k + 1) 93 from List.replicate_succ'.symm]

theorem good_arrN {k : Nat} {c : Y} (h : goodY (arrN k c)) : goodY c := by
  induction k with
  | zero => exact h
  | succ k ih => exact ih (by simpa [arrN, goodY] using h)

theorem joinY_lib (ps : List Y) : joinY ps = Lib.join (ps.map textY) [44] := by
  have h : ∀ ts : List Y, tailY ts = Lib.joinTail [44] (ts.map textY) := by
    intro ts
    induction ts with
    | nil => simp [tailY, Lib.joinTail]
    | cons t ts ih =>
      simp only [tailY, ih, Lib.joinTail, List.map_cons, List.flatten_cons, List.cons_append, List.nil_append]
  cases ps with
  | nil => simp [joinY, Lib.join_nil]
  | cons t ts => simp only [joinY, List.map_cons, Lib.join_cons, h]

/-! every byte is ASCII -/

def asc (l : List UInt8) : Prop := ∀ b ∈ l, b.toNat < 128

theorem asc.append {a b : List UInt8} (h : asc a) (h' : asc b) : asc (a ++ b) := fun x hx => (List.mem_append.1 hx).elim (h x) (h' x)
theorem asc.cons {c : UInt8} {a : List UInt8} (hc : c.toNat < 128) (h : asc a) : asc (c :: a) := fun x hx => by
  rcases List.mem_cons.1 hx with rfl | hx
  · exact hc
  · exact h x hx
theorem asc.nil : asc [] := fun _ h => by cases h
theorem asc.drop {a : List UInt8} (h : asc a) (n : Nat) : asc (a.drop n) := fun x hx => h x (List.mem_of_mem_drop hx)

theorem atom_cases (k : Nat) : atomY k = [110, 117, 109] ∨ atomY k = [98, 121, 116, 101, 115] ∨ atomY k = [109, 46, 84] ∨ atomY k = [97, 46, 66] ∨ atomY k = [120, 95, 49, 46, 89] := by
  unfold atomY
  split
  · exact .inl rfl
  split
  · exact .inr (.inl rfl)
  split
  · exact .inr (.inr (.inl rfl))
  split
  · exact .inr (.inr (.inr (.inl rfl)))
  · exact .inr (.inr (.inr (.inr rfl)))

theorem atom_asc (k : Nat) : asc (atomY k) := by
  rcases atom_cases k with h | h | h | h | h <;> rw [h] <;> unfold asc <;> decide

mutual
theorem text_asc : ∀ t : Y, asc (textY t)
  | .atom k => by simp only [textY]; exact atom_asc k
  | .arr t => by simp only [textY]; exact .cons (by decide) ((text_asc t).append (.cons (by decide) .nil))
  | .fn ps r => by simp only [textY]; exact .cons (by decide) ((join_asc ps).append (.cons (by decide) (text_asc r)))
theorem join_asc : ∀ ps : List Y, asc (joinY ps)
  | [] => by simp only [joinY]; exact .nil
  | t :: ts => by simp only [joinY]; exact (text_asc t).append (tail_asc ts)
theorem tail_asc : ∀ ps : List Y, asc (tailY ps)
  | [] => by simp only [tailY]; exact .nil
  | t :: ts => by simp only [tailY]; exact .cons (by decide) ((text_asc t).append (tail_asc ts))
end

/-! ### what 'made' makes -/

def absN (a : Int) : Nat := if a < 0 then (-(a + 1)).toNat else a.toNat

def takeN (l : List Int) (p : Nat) : Nat × Nat := match l[p]? with
  | none => (0, p)
  | some a => (absN a, p + 1)

def madeL (f : Nat → Y × Nat) : Nat → Nat → List Y → List Y × Nat
  | 0, p, acc => (acc, p)
  | k + 1, p, acc => madeL f k (f p).2 (acc ++ [(f p).1])

def kindY (f : Nat → Y × Nat) (n p : Nat) : Y × Nat :=
  if n % 5 = 0 then (.atom 0, p) else if n % 5 = 1 then (.atom 1, p) else if n % 5 = 2 then (.atom (2 + n % 3), p)
  else if n % 5 = 3 then (.arr (f p).1, (f p).2)
  else (.fn (madeL f (n % 7) p []).1 (f (madeL f (n % 7) p []).2).1, (f (madeL f (n % 7) p []).2).2)

def madeY (l : List Int) : Nat → Nat → Y × Nat
  | 0, p => kindY (fun p => (.atom 0, p)) ((takeN l p).1 % 3) (takeN l p).2
  | d + 1, p => kindY (madeY l d) (takeN l p).1 (takeN l p).2

structure MadeOk (l : List Int) (p : Nat) (x : Y × Nat) : Prop where
  good : goodY x.1
  ge : p ≤ x.2
  le : x.2 ≤ max p l.length

theorem madeL_ok {l : List Int} {f : Nat → Y × Nat} (hf : ∀ p, MadeOk l p (f p)) : ∀ (k p : Nat) (acc : List Y), goodYs acc →
    goodYs (madeL f k p acc).1 ∧ p ≤ (madeL f k p acc).2 ∧ (madeL f k p acc).2 ≤ max p l.length ∧ (madeL f k p acc).1.length = acc.length + k := by
  intro k
  induction k with
  | zero => intro p acc hg; simp only [madeL]; exact ⟨hg, Nat.le_refl _, by omega, rfl⟩
  | succ k ih =>
    intro p acc hg
    have h := hf p
    simp only [madeL]
    obtain ⟨a1, a2, a3, a4⟩ := ih (f p).2 (acc ++ [(f p).1]) (goodYs_append hg (by simp [goodYs, h.good]))
    have h1 := h.ge
    have h2 := h.le
    exact ⟨a1, by omega, by omega, by rw [a4]; simp; omega⟩

theorem kindY_ok {l : List Int} {f : Nat → Y × Nat} (hf : ∀ p, MadeOk l p (f p)) (n p : Nat) : MadeOk l p (kindY f n p) := by
  unfold kindY
  split
  · exact ⟨trivial, Nat.le_refl _, by simp only; omega⟩
  split
  · exact ⟨trivial, Nat.le_refl _, by simp only; omega⟩
  split
  · exact ⟨trivial, Nat.le_refl _, by simp only; omega⟩
  split
  · exact ⟨by simpa [goodY] using (hf p).good, (hf p).ge, (hf p).le⟩
  · obtain ⟨a1, a2, a3, a4⟩ := madeL_ok hf (n % 7) p [] trivial
    have h := hf (madeL f (n % 7) p []).2
    have h1 := h.ge
    have h2 := h.le
    have h7 : n % 7 < 7 := Nat.mod_lt _ (by decide)
    refine ⟨?_, by simp only; omega, by simp only; omega⟩
    simp only [goodY]
    exact ⟨by rw [a4]; simp; omega, a1, h.good⟩

theorem takeN_ok (l : List Int) (p : Nat) : p ≤ (takeN l p).2 ∧ (takeN l p).2 ≤ max p l.length := by
  unfold takeN
  cases hp : l[p]? with
  | none => simp only; omega
  | some a =>
    have := (List.getElem?_eq_some_iff.1 hp).1
    simp only; omega

theorem madeY_ok (l : List Int) : ∀ d p, MadeOk l p (madeY l d p) := by
  intro d
  induction d with
  | zero =>
    intro p
    have h := takeN_ok l p
    have := kindY_ok (l := l) (f := fun p => (.atom 0, p)) (fun p => ⟨trivial, Nat.le_refl _, by simp only; omega⟩) ((takeN l p).1 % 3) (takeN l p).2
    simp only [madeY]
    exact ⟨this.good, by have := this.ge; omega, by have := this.le; omega⟩
  | succ d ih =>
    intro p
    have h := takeN_ok l p
    have := kindY_ok ih (takeN l p).1 (takeN l p).2
    simp only [madeY]
    exact ⟨this.good, by have := this.ge; omega, by have := this.le; omega⟩

end Go.Proofs.Ytpgmeigheilanaa
