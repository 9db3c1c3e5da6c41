import Derived.Test.YtkkjoomlfmofbaaGreatDoorNn11
set_option linter.unusedSimpArgs false
set_option linter.unusedVariables false
set_option linter.unusedSectionVars false
/-! What the operations answer, with symbols: 2000 and 2001 are the numbers, 1003 is the answer. -/
namespace Go.Proofs.YtkkjoomlfmofbaaGreatDoor
open Go.Am Ieee
set_option maxRecDepth 100000

def wd (n : Int) : Nat := double.write (.number (n < 0) n.natAbs 0)
theorem cv (n : Int) (h : Heap) : convX P0 3 45 (ii n) h = some (fl (wd n)) := i2f3 n h
theorem fwd {n : Int} (h : n.natAbs < 2 ^ 53) : FW (wd n) n := FW.of_int h

theorem c_numW (E : SEnv) (n : Nat) (hp : E.prim 13 = none) (hf : E.fns 13 = some (.alone, N13)) (x y : Int) (h : Heap) : scall E (n + 1) 13 [ii x, ii y] h = some (numV (cx (wd x) (wd y)), h) := by
  have e3 : ∀ a b : Nat, litBi P0 .complex [45, 45] 24 [false, false] [fl a, fl b] = some (cx a b) := fun a b => bi_cx a b false false
  refine alone_call (F := N13) hp hf rfl (hc := [.arr ⟨5, false, false, [numV (cx (wd x) (wd y))]⟩]) (r0 := numV (cx (wd x) (wd y))) ?_ ⟨[], rfl⟩
  show F13 (scall E n) (ii x) (ii y) [] = _
  have key : ∀ c : CF, F13 c (ii x) (ii y) [] = opt (convX P0 3 45 (ii x) [.arr ⟨5, false, false, [.agg [(iL 0), (iL 0), cL, nL, nL]]⟩]) fun t6 => opt (convX P0 3 45 (ii y) [.arr ⟨5, false, false, [.agg [(iL 0), (iL 0), cL, nL, nL]]⟩]) fun t8 => opt (litBi P0 .complex [45, 45] 24 [false, false] [t6, t8]) fun t9 => opt (buildX [(iL 0), (iL 0), cL, nL, nL] [(0, 1), (1, 1), (2, 1), (3, 1), (4, 1)] [(0, (iL 1)), (2, t9)]) fun t10 => optH (storeX 5 (.ptr 0 0 0) t10 [.arr ⟨5, false, false, [.agg [(iL 0), (iL 0), cL, nL, nL]]⟩]) fun h2 => opt (loadX (some 5) (.ptr 0 0 0) h2) fun res => some (res, h2) := fun c => rfl
  rw [key, cv, opt_s, cv, opt_s, e3, opt_s]
  rfl

theorem c_withinE (E : SEnv) (n : Nat) (hp : E.prim 11 = none) (hf : E.fns 11 = some (.alone, N11)) {a hi : Int} (h0 : 0 ≤ hi) (h1 : hi ≤ 1099511627776) (h : Heap) : scall E (n + 1) 11 [ii a, ii 0, ii hi] h = some (ii (a % (hi + 1)), h) := by
  refine alone_call (F := N11) hp hf rfl (hc := []) (r0 := ii (a % (hi + 1))) ?_ ⟨[], rfl⟩
  obtain ⟨f1, f2, f3⟩ := tmod_fix a (hi + 1) (by omega)
  simp only [N11, n1, n2, n3, F11, S11_2, fb_sub, opt_s, Int.sub_zero, fb_add]
  rw [wrap64 (n := hi) (by omega) (by omega), wrap64 (n := hi + 1) (by omega) (by omega), rem_int (by omega), opt_s]
  simp only [S11_1, fb_lss, opt_s, test_b, decide_eq_true_eq]
  rw [← f1]
  by_cases hn : a.tmod (hi + 1) < 0
  · rw [if_pos hn, if_pos hn]
    simp only [fb_add, opt_s, fb_sub, Int.sub_zero, S11_0, Int.zero_add]
    rw [wrap64 (n := a.tmod (hi + 1) + hi) (by omega) (by omega), wrap64 (n := a.tmod (hi + 1) + hi) (by omega) (by omega), wrap64 (n := a.tmod (hi + 1) + hi + 1) (by omega) (by omega), wrap64 (by omega) (by omega), Int.add_assoc]
  · rw [if_neg hn, if_neg hn]
    simp only [S11_0, fb_add, opt_s, Int.zero_add]
    rw [wrap64 (by omega) (by omega)]

theorem awO (E : SEnv) (n : Nat) (hp : E.prim 12 = some (tableP rows12)) (h : Heap) : scall E (n + 1) 12 [] h = some (tL, h) := prim_call (n := n) hp rfl (by kernel_rfl)

theorem symP_one [Nu] {a args : List AV} {r : AV} {t : List (List AV × AV)} (h : args = a.map (des 64)) : symP ((a, r) :: t) args = some (des 64 r) := by
  unfold symP; rw [if_pos h]

theorem okP0 : okP 0 := by decide
theorem okS {x : Int} (h : okP x) : x.natAbs < 2 ^ 53 := by have := okP_abs h; omega
def argsO (src x y : AV) : List AV := [src, .isl 5 true [numV x, numV y]]
def errA : AV := .agg [(iL 44), (iL 0), (iL 0), cL, nL, nL]
def rightO : List (List AV × AV) := [([.sym 2000], tL), ([.sym 2001], tL), ([.sym 1003], tL)]
noncomputable def envR : SEnv := envF.withP 26 (orP (tableP rightO) (runP envF 60 26))
noncomputable def envO2 (nm : AV) (e : Int) : SEnv := envR.withP 20 (tableP [([nm, .sym 2000, .sym 2001], .tup [.sym 1003, iL e])])
noncomputable def envO1 (nm : AV) : SEnv := envR.withP 21 (tableP [([nm, .sym 2000], .tup [.sym 1003, iL 0])])
def namesO : AV := .isl 1 true [sL [97,100,100], sL [115,117,98], sL [109,117,108], sL [110,101,103], sL [99,111,110,106], sL [114,101], sL [105,109]]
def nmO0 : AV := sL [97,100,100]
def srcO0 : AV := sL [40,102,117,110,32,102,32,40,40,120,32,110,117,109,41,32,40,121,32,110,117,109,41,41,32,110,117,109,32,40,97,100,100,32,120,32,121,41,41]
def nmO1 : AV := sL [115,117,98]
def srcO1 : AV := sL [40,102,117,110,32,102,32,40,40,120,32,110,117,109,41,32,40,121,32,110,117,109,41,41,32,110,117,109,32,40,115,117,98,32,120,32,121,41,41]
def nmO2 : AV := sL [109,117,108]
def srcO2 : AV := sL [40,102,117,110,32,102,32,40,40,120,32,110,117,109,41,32,40,121,32,110,117,109,41,41,32,110,117,109,32,40,109,117,108,32,120,32,121,41,41]
def nmO3 : AV := sL [110,101,103]
def srcO3 : AV := sL [40,102,117,110,32,102,32,40,40,120,32,110,117,109,41,32,40,121,32,110,117,109,41,41,32,110,117,109,32,40,110,101,103,32,120,41,41]
def nmO4 : AV := sL [99,111,110,106]
def srcO4 : AV := sL [40,102,117,110,32,102,32,40,40,120,32,110,117,109,41,32,40,121,32,110,117,109,41,41,32,110,117,109,32,40,99,111,110,106,32,120,41,41]
def nmO5 : AV := sL [114,101]
def srcO5 : AV := sL [40,102,117,110,32,102,32,40,40,120,32,110,117,109,41,32,40,121,32,110,117,109,41,41,32,110,117,109,32,40,114,101,32,120,41,41]
def nmO6 : AV := sL [105,109]
def srcO6 : AV := sL [40,102,117,110,32,102,32,40,40,120,32,110,117,109,41,32,40,121,32,110,117,109,41,41,32,110,117,109,32,40,105,109,32,120,41,41]
end Go.Proofs.YtkkjoomlfmofbaaGreatDoor
