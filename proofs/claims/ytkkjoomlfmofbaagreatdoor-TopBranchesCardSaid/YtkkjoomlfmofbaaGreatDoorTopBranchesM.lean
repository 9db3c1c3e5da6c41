/-
  TopBranches returns true for every argument, whatever the world in which the listed tables hold what the program's text lays. No other conditions. The code is told by functions over the values of an abstract machine (printed by a program of ours, each step checked by the kernel) and run in the kernel; numbers that are not known stand as symbols.
-/
import Derived.Test.YtkkjoomlfmofbaaGreatDoorBe11
import Derived.Test.YtkkjoomlfmofbaaGreatDoorBr11A
import Derived.Test.YtkkjoomlfmofbaaGreatDoorBr112
import Derived.Test.YtkkjoomlfmofbaaGreatDoorOe11
import Derived.Test.YtkkjoomlfmofbaaGreatDoorCards
import Derived.Test.YtkkjoomlfmofbaaGreatDoorTieQ2
import Derived.Test.YtkkjoomlfmofbaaGreatDoorTopBranchesC
set_option linter.unusedSimpArgs false
set_option linter.unusedVariables false
set_option linter.unusedSectionVars false

namespace Go.Proofs.YtkkjoomlfmofbaaGreatDoor
open Go.Am
set_option maxRecDepth 100000
theorem runZ3 : isR (scall envF 290 10 [srcZ3, .isl 5 true [numV cL]] []) (ansV five) = true := by kernel_rfl
theorem runN3 : isR (scall envRB 290 10 [srcN3, .isl 5 true [numV (.sym 1002)]] []) (ansV six) = true := by kernel_rfl
end Go.Proofs.YtkkjoomlfmofbaaGreatDoor

namespace Go.Proofs.YtkkjoomlfmofbaaGreatDoor
open Go.Am Ieee
set_option maxRecDepth 100000

def wB (a b : Nat) : Nat → Nat × Nat := fun n => if n = 1002 then (a, b) else if n = 1000 then (4607182418800017408, 0) else (0, 0)
def vB (x y : Int) : Nat → Int × Int := fun n => if n = 1002 then (x, y) else if n = 1000 then (1, 0) else (0, 0)

@[reducible] def nuB (a b : Nat) (x y : Int) (h1 : FW a x) (h2 : FW b y) (hne : ¬ (x = 0 ∧ y = 0)) : Nu :=
  mkNu (wB a b) (vB x y) (fun n => by
    unfold wB vB
    by_cases e0 : n = 1002
    · rw [if_pos e0, if_pos e0]; exact ⟨h1, h2⟩
    · rw [if_neg e0, if_neg e0]
      by_cases e1 : n = 1000
      · rw [if_pos e1, if_pos e1]; exact ⟨fw_one, FW.zero⟩
      · rw [if_neg e1, if_neg e1]; exact ⟨FW.zero, FW.zero⟩)
    (by show ((1, 0) : Int × Int) ≠ (0, 0); decide) (fun h => hne ⟨congrArg Prod.fst h, congrArg Prod.snd h⟩) rfl

theorem envRB_ok [Nu] {x y : Int} (hx : okP x) (hy : okP y) (h1 : FW (Nu.re 1002) x) (h2 : FW (Nu.im 1002) y) : SEnvOk envRB := by
  refine SEnvOk.withP envF_ok (orP_ok (des_table_ok (E := senv) senv_ok (n := 5) fun r hr => ?_) (runP_ok envF_ok))
  rcases List.mem_singleton.1 hr with rfl
  have := c_right 2 (v := cx (Nu.re 1002) (Nu.im 1002)) ⟨_, _, rfl, h1, h2⟩ []
  rw [decide_eq_true ⟨hx, hy⟩] at this
  exact this

noncomputable def envZ (src : AV) : SEnv := envA.withP 10 (tableP [([src, .isl 5 true [numV cL]], ansV five)])
noncomputable def envN [Nu] (src : AV) : SEnv := envA.withP 10 (symP [([src, .isl 5 true [numV (.sym 1002)]], ansV six)])

theorem envZ_ok [Nu] {src : AV} (h : isR (scall envF 290 10 [src, .isl 5 true [numV cL]] []) (ansV five) = true) : SEnvOk (envZ src) :=
  SEnvOk.withP envA_ok (stable_ok (E := envF) envF_ok (n := 290) fun q hq => by rcases List.mem_singleton.1 hq with rfl; exact isR_spec h)
theorem envN_ok [Nu] (ok : SEnvOk envRB) {src : AV} (h : isR (scall envRB 290 10 [src, .isl 5 true [numV (.sym 1002)]] []) (ansV six) = true) : SEnvOk (envN src) :=
  SEnvOk.withP envA_ok (sym_ok (E := envRB) ok (n := 290) fun q hq => by rcases List.mem_singleton.1 hq with rfl; exact isR_spec h)

noncomputable def bR (c : CF) (a0 a1 a2 : AV) (t10 : AV) : AV → Heap → Res := fun t16 h2 => opt (indexAddrS 1 t10 t16 h2) fun t17 => opt (loadX none t17 h2) fun t18 => opt (binX P0 .none .rem 3 a0 (iL 3)) fun t20 => opt (binX P0 .none .rem 3 a1 (iL 3)) fun t22 => opt2 (c 13 [t20,t22] h2) fun t23 h3 => opt2 (box (.agg [(iL 0),(iL 0),cL,nL,nL]) h3) fun t9 h4 => optH (storeX 5 t9 t23 h4) fun h5 => opt (fieldAddrX 2 t9) fun t24 => opt (loadX none t24 h5) fun t25 => opt (binX P0 .none .eql 24 t25 cL) fun t26 => test t26 (opt (fastBin .add (sL [40,102,117,110,32,102,32,40,40,120,32,110,117,109,41,41,32,110,117,109,32,40,105,102,32,120,32]) t18) fun t28 => opt (fastBin .add t28 (sL [32,53,41,41])) fun t29 => opt (loadX (some 5) t9 h5) fun t30 => opt2 (bsliceX 5 (.agg [(iL 0),(iL 0),cL,nL,nL]) 1 [(0,t30)] h5) fun t31 h6 => opt2 (c 10 [t29,t31] h6) fun t32 h7 => opt2 (c 13 [(iL 5),(iL 0)] h7) fun t33 h8 => opt2 (c 14 [t32,t33] h8) fun t34 h9 => test t34 (opt2 (c 12 [] h9) fun t36 h10 => some (t36,h10)) (some (fL,h9))) (opt (fastBin .add (sL [40,102,117,110,32,102,32,40,40,120,32,110,117,109,41,41,32,110,117,109,32,40,105,102,32,120,32,54,32]) t18) fun t39 => opt (fastBin .add t39 (sL [41,41])) fun t40 => opt (loadX (some 5) t9 h5) fun t41 => opt2 (bsliceX 5 (.agg [(iL 0),(iL 0),cL,nL,nL]) 1 [(0,t41)] h5) fun t42 h11 => opt2 (c 10 [t40,t42] h11) fun t43 h12 => opt2 (c 13 [(iL 6),(iL 0)] h12) fun t44 h13 => opt2 (c 14 [t43,t44] h13) fun t45 h14 => test t45 (opt2 (c 12 [] h14) fun t47 h15 => some (t47,h15)) (some (fL,h14)))
noncomputable def bM (c : CF) (a0 a1 a2 : AV) (t18 : AV) : AV → Heap → Res := fun t23 h3 => opt2 (box (.agg [(iL 0),(iL 0),cL,nL,nL]) h3) fun t9 h4 => optH (storeX 5 t9 t23 h4) fun h5 => opt (fieldAddrX 2 t9) fun t24 => opt (loadX none t24 h5) fun t25 => opt (binX P0 .none .eql 24 t25 cL) fun t26 => test t26 (opt (fastBin .add (sL [40,102,117,110,32,102,32,40,40,120,32,110,117,109,41,41,32,110,117,109,32,40,105,102,32,120,32]) t18) fun t28 => opt (fastBin .add t28 (sL [32,53,41,41])) fun t29 => opt (loadX (some 5) t9 h5) fun t30 => opt2 (bsliceX 5 (.agg [(iL 0),(iL 0),cL,nL,nL]) 1 [(0,t30)] h5) fun t31 h6 => opt2 (c 10 [t29,t31] h6) fun t32 h7 => opt2 (c 13 [(iL 5),(iL 0)] h7) fun t33 h8 => opt2 (c 14 [t32,t33] h8) fun t34 h9 => test t34 (opt2 (c 12 [] h9) fun t36 h10 => some (t36,h10)) (some (fL,h9))) (opt (fastBin .add (sL [40,102,117,110,32,102,32,40,40,120,32,110,117,109,41,41,32,110,117,109,32,40,105,102,32,120,32,54,32]) t18) fun t39 => opt (fastBin .add t39 (sL [41,41])) fun t40 => opt (loadX (some 5) t9 h5) fun t41 => opt2 (bsliceX 5 (.agg [(iL 0),(iL 0),cL,nL,nL]) 1 [(0,t41)] h5) fun t42 h11 => opt2 (c 10 [t40,t42] h11) fun t43 h12 => opt2 (c 13 [(iL 6),(iL 0)] h12) fun t44 h13 => opt2 (c 14 [t43,t44] h13) fun t45 h14 => test t45 (opt2 (c 12 [] h14) fun t47 h15 => some (t47,h15)) (some (fL,h14)))
noncomputable def bZ2 (c : CF) (a0 a1 a2 : AV) : AV → Heap → Res := fun t32 h7 => opt2 (c 13 [(iL 5),(iL 0)] h7) fun t33 h8 => opt2 (c 14 [t32,t33] h8) fun t34 h9 => test t34 (opt2 (c 12 [] h9) fun t36 h10 => some (t36,h10)) (some (fL,h9))
noncomputable def bN2 (c : CF) (a0 a1 a2 : AV) : AV → Heap → Res := fun t43 h12 => opt2 (c 13 [(iL 6),(iL 0)] h12) fun t44 h13 => opt2 (c 14 [t43,t44] h13) fun t45 h14 => test t45 (opt2 (c 12 [] h14) fun t47 h15 => some (t47,h15)) (some (fL,h14))

def hpB (v : AV) : Heap := [.arr ⟨5, false, false, [numV v]⟩]
noncomputable def bZ (c : CF) (a b d t18 v : AV) : Res := opt (fastBin .add (sL [40,102,117,110,32,102,32,40,40,120,32,110,117,109,41,41,32,110,117,109,32,40,105,102,32,120,32]) t18) fun t28 => opt (fastBin .add t28 (sL [32,53,41,41])) fun t29 => opt2 (c 10 [t29, .isl 5 true [numV v]] (hpB v)) (bZ2 c a b d)
noncomputable def bN (c : CF) (a b d t18 v : AV) : Res := opt (fastBin .add (sL [40,102,117,110,32,102,32,40,40,120,32,110,117,109,41,41,32,110,117,109,32,40,105,102,32,120,32,54,32]) t18) fun t39 => opt (fastBin .add t39 (sL [41,41])) fun t40 => opt2 (c 10 [t40, .isl 5 true [numV v]] (hpB v)) (bN2 c a b d)

theorem b_head (c : CF) (a b d : AV) : F4 c a b d [] = opt2 (c 11 [d, iL 0, iL 3] []) (bR c a b d namesB) := by kernel_rfl
theorem b_mid (c : CF) (a b d t18 : AV) (w1 w2 : Nat) : bM c a b d t18 (numV (cx w1 w2)) [] = opt (binX P0 .none .eql 24 (cx w1 w2) cL) fun t26 => test t26 (bZ c a b d t18 (cx w1 w2)) (bN c a b d t18 (cx w1 w2)) := by kernel_rfl

theorem b_at0 (c : CF) (a b d : AV) : bR c a b d namesB (ii 0) [] = opt (binX P0 .none .rem 3 a (iL 3)) fun t20 => opt (binX P0 .none .rem 3 b (iL 3)) fun t22 => opt2 (c 13 [t20, t22] []) (bM c a b d bad0) := by kernel_rfl
theorem b_z0 (a b d : AV) : bZ (scall (envZ srcZ0) 299) a b d bad0 cL = some (tL, hpB cL) := by kernel_rfl
theorem b_n0 (c : CF) (a b d v : AV) : bN c a b d bad0 v = opt2 (c 10 [srcN0, .isl 5 true [numV v]] (hpB v)) (bN2 c a b d) := by kernel_rfl
theorem b_e0 [Nu] (a b d : AV) (w1 w2 : Nat) : bN2 (scall (envN srcN0) 299) a b d (ansV six) (hpB (cx w1 w2)) = some (tL, hpB (cx w1 w2)) := by kernel_rfl

theorem b_at1 (c : CF) (a b d : AV) : bR c a b d namesB (ii 1) [] = opt (binX P0 .none .rem 3 a (iL 3)) fun t20 => opt (binX P0 .none .rem 3 b (iL 3)) fun t22 => opt2 (c 13 [t20, t22] []) (bM c a b d bad1) := by kernel_rfl
theorem b_z1 (a b d : AV) : bZ (scall (envZ srcZ1) 299) a b d bad1 cL = some (tL, hpB cL) := by kernel_rfl
theorem b_n1 (c : CF) (a b d v : AV) : bN c a b d bad1 v = opt2 (c 10 [srcN1, .isl 5 true [numV v]] (hpB v)) (bN2 c a b d) := by kernel_rfl
theorem b_e1 [Nu] (a b d : AV) (w1 w2 : Nat) : bN2 (scall (envN srcN1) 299) a b d (ansV six) (hpB (cx w1 w2)) = some (tL, hpB (cx w1 w2)) := by kernel_rfl

theorem b_at2 (c : CF) (a b d : AV) : bR c a b d namesB (ii 2) [] = opt (binX P0 .none .rem 3 a (iL 3)) fun t20 => opt (binX P0 .none .rem 3 b (iL 3)) fun t22 => opt2 (c 13 [t20, t22] []) (bM c a b d bad2) := by kernel_rfl
theorem b_z2 (a b d : AV) : bZ (scall (envZ srcZ2) 299) a b d bad2 cL = some (tL, hpB cL) := by kernel_rfl
theorem b_n2 (c : CF) (a b d v : AV) : bN c a b d bad2 v = opt2 (c 10 [srcN2, .isl 5 true [numV v]] (hpB v)) (bN2 c a b d) := by kernel_rfl
theorem b_e2 [Nu] (a b d : AV) (w1 w2 : Nat) : bN2 (scall (envN srcN2) 299) a b d (ansV six) (hpB (cx w1 w2)) = some (tL, hpB (cx w1 w2)) := by kernel_rfl

theorem b_at3 (c : CF) (a b d : AV) : bR c a b d namesB (ii 3) [] = opt (binX P0 .none .rem 3 a (iL 3)) fun t20 => opt (binX P0 .none .rem 3 b (iL 3)) fun t22 => opt2 (c 13 [t20, t22] []) (bM c a b d bad3) := by kernel_rfl
theorem b_z3 (a b d : AV) : bZ (scall (envZ srcZ3) 299) a b d bad3 cL = some (tL, hpB cL) := by kernel_rfl
theorem b_n3 (c : CF) (a b d v : AV) : bN c a b d bad3 v = opt2 (c 10 [srcN3, .isl 5 true [numV v]] (hpB v)) (bN2 c a b d) := by kernel_rfl
theorem b_e3 [Nu] (a b d : AV) (w1 w2 : Nat) : bN2 (scall (envN srcN3) 299) a b d (ansV six) (hpB (cx w1 w2)) = some (tL, hpB (cx w1 w2)) := by kernel_rfl

theorem b_run {E : SEnv} (p1 : E.prim 11 = none) (f1 : E.fns 11 = some (.alone, N11)) (a b d : Int) : F4 (scall E 299) (ii a) (ii b) (ii d) [] = bR (scall E 299) (ii a) (ii b) (ii d) namesB (ii (d % 4)) [] := by
  have hw : ∀ h, scall E 299 11 [ii d, iL 0, iL 3] h = some (ii (d % 4), h) := fun h => c_withinE E 298 p1 f1 (hi := 3) (by decide) (by decide) h
  rw [b_head, hw, opt2_s]

theorem b_num {E : SEnv} (p1 : E.prim 13 = none) (f1 : E.fns 13 = some (.alone, N13)) (a b : Int) (d t18 : AV) (hx : (a.tmod 3).natAbs < 2 ^ 53) (hy : (b.tmod 3).natAbs < 2 ^ 53) :
    (opt (binX P0 .none .rem 3 (ii a) (iL 3)) fun t20 => opt (binX P0 .none .rem 3 (ii b) (iL 3)) fun t22 => opt2 (scall E 299 13 [t20, t22] []) (bM (scall E 299) (ii a) (ii b) d t18)) =
      if a.tmod 3 = 0 ∧ b.tmod 3 = 0 then bZ (scall E 299) (ii a) (ii b) d t18 (cx (wd (a.tmod 3)) (wd (b.tmod 3))) else bN (scall E 299) (ii a) (ii b) d t18 (cx (wd (a.tmod 3)) (wd (b.tmod 3))) := by
  have r : ∀ n : Int, binX P0 .none .rem 3 (ii n) (iL 3) = some (ii (n.tmod 3)) := fun n => rem_int (by decide)
  have z : (cL : AV) = cx 0 0 := rfl
  have hn : ∀ (x y : Int) (h : Heap), scall E 299 13 [ii x, ii y] h = some (numV (cx (wd x) (wd y)), h) := fun x y h => c_numW E 298 p1 f1 x y h
  rw [r, opt_s, r, opt_s, hn, opt2_s, b_mid, z, cw_eql 24 ⟨_, _, rfl, fwd hx, fwd hy⟩ ⟨_, _, rfl, FW.zero, FW.zero⟩, opt_s, test_b]
  simp only [decide_eq_true_eq]

theorem small3 (n : Int) : okP (n.tmod 3) := by
  have h1 := (tmod_fix n 3 (by decide)).2
  unfold okP; omega

theorem top_callB {E : SEnv} {a b d : Int} {hc : Heap} (hp : E.prim 4 = none) (hf : E.fns 4 = some (.alone, N4)) (h : F4 (scall E 299) (ii a) (ii b) (ii d) [] = some (tL, hc)) :
    scall E 300 4 [ii a, ii b, ii d] [] = some (tL, []) :=
  alone_call (n := 299) (F := N4) (hc := hc) (r0 := tL) hp hf rfl h ⟨[], rfl⟩

theorem wd0 : wd 0 = 0 := by kernel_rfl

theorem br0 (a b d : Int) (h : d % 4 = 0) : ∃ (I : Nu) (E : SEnv), @SEnvOk I E ∧ E.P = Tryz.prog ∧ E.gl = gl ∧ scall E 300 4 [ii a, ii b, ii d] [] = some (tL, []) := by
  have ha := small3 a
  have hb := small3 b
  have ha' := okS ha
  have hb' := okS hb
  by_cases hz : a.tmod 3 = 0 ∧ b.tmod 3 = 0
  · letI : Nu := noNu
    refine ⟨noNu, envZ srcZ0, envZ_ok runZ0, rfl, rfl, top_callB (hc := hpB cL) rfl rfl ?_⟩
    rw [b_run rfl rfl, h, b_at0, b_num rfl rfl a b _ _ ha' hb', if_pos hz, hz.1, hz.2, wd0]
    exact b_z0 (ii a) (ii b) (ii d)
  · let I : Nu := nuB (wd (a.tmod 3)) (wd (b.tmod 3)) (a.tmod 3) (b.tmod 3) (fwd ha') (fwd hb') hz
    refine ⟨I, envN srcN0, envN_ok (envRB_ok ha hb (fwd ha') (fwd hb')) runN0, rfl, rfl, top_callB (hc := hpB (cx (wd (a.tmod 3)) (wd (b.tmod 3)))) rfl rfl ?_⟩
    rw [b_run rfl rfl, h, b_at0, b_num rfl rfl a b _ _ ha' hb', if_neg hz, b_n0, prim_call (n := 298) (f := 10) (r := ansV six) rfl rfl (symP_one rfl), opt2_s]
    exact b_e0 (ii a) (ii b) (ii d) _ _

theorem br1 (a b d : Int) (h : d % 4 = 1) : ∃ (I : Nu) (E : SEnv), @SEnvOk I E ∧ E.P = Tryz.prog ∧ E.gl = gl ∧ scall E 300 4 [ii a, ii b, ii d] [] = some (tL, []) := by
  have ha := small3 a
  have hb := small3 b
  have ha' := okS ha
  have hb' := okS hb
  by_cases hz : a.tmod 3 = 0 ∧ b.tmod 3 = 0
  · letI : Nu := noNu
    refine ⟨noNu, envZ srcZ1, envZ_ok runZ1, rfl, rfl, top_callB (hc := hpB cL) rfl rfl ?_⟩
    rw [b_run rfl rfl, h, b_at1, b_num rfl rfl a b _ _ ha' hb', if_pos hz, hz.1, hz.2, wd0]
    exact b_z1 (ii a) (ii b) (ii d)
  · let I : Nu := nuB (wd (a.tmod 3)) (wd (b.tmod 3)) (a.tmod 3) (b.tmod 3) (fwd ha') (fwd hb') hz
    refine ⟨I, envN srcN1, envN_ok (envRB_ok ha hb (fwd ha') (fwd hb')) runN1, rfl, rfl, top_callB (hc := hpB (cx (wd (a.tmod 3)) (wd (b.tmod 3)))) rfl rfl ?_⟩
    rw [b_run rfl rfl, h, b_at1, b_num rfl rfl a b _ _ ha' hb', if_neg hz, b_n1, prim_call (n := 298) (f := 10) (r := ansV six) rfl rfl (symP_one rfl), opt2_s]
    exact b_e1 (ii a) (ii b) (ii d) _ _

theorem br2 (a b d : Int) (h : d % 4 = 2) : ∃ (I : Nu) (E : SEnv), @SEnvOk I E ∧ E.P = Tryz.prog ∧ E.gl = gl ∧ scall E 300 4 [ii a, ii b, ii d] [] = some (tL, []) := by
  have ha := small3 a
  have hb := small3 b
  have ha' := okS ha
  have hb' := okS hb
  by_cases hz : a.tmod 3 = 0 ∧ b.tmod 3 = 0
  · letI : Nu := noNu
    refine ⟨noNu, envZ srcZ2, envZ_ok runZ2, rfl, rfl, top_callB (hc := hpB cL) rfl rfl ?_⟩
    rw [b_run rfl rfl, h, b_at2, b_num rfl rfl a b _ _ ha' hb', if_pos hz, hz.1, hz.2, wd0]
    exact b_z2 (ii a) (ii b) (ii d)
  · let I : Nu := nuB (wd (a.tmod 3)) (wd (b.tmod 3)) (a.tmod 3) (b.tmod 3) (fwd ha') (fwd hb') hz
    refine ⟨I, envN srcN2, envN_ok (envRB_ok ha hb (fwd ha') (fwd hb')) runN2, rfl, rfl, top_callB (hc := hpB (cx (wd (a.tmod 3)) (wd (b.tmod 3)))) rfl rfl ?_⟩
    rw [b_run rfl rfl, h, b_at2, b_num rfl rfl a b _ _ ha' hb', if_neg hz, b_n2, prim_call (n := 298) (f := 10) (r := ansV six) rfl rfl (symP_one rfl), opt2_s]
    exact b_e2 (ii a) (ii b) (ii d) _ _

theorem br3 (a b d : Int) (h : d % 4 = 3) : ∃ (I : Nu) (E : SEnv), @SEnvOk I E ∧ E.P = Tryz.prog ∧ E.gl = gl ∧ scall E 300 4 [ii a, ii b, ii d] [] = some (tL, []) := by
  have ha := small3 a
  have hb := small3 b
  have ha' := okS ha
  have hb' := okS hb
  by_cases hz : a.tmod 3 = 0 ∧ b.tmod 3 = 0
  · letI : Nu := noNu
    refine ⟨noNu, envZ srcZ3, envZ_ok runZ3, rfl, rfl, top_callB (hc := hpB cL) rfl rfl ?_⟩
    rw [b_run rfl rfl, h, b_at3, b_num rfl rfl a b _ _ ha' hb', if_pos hz, hz.1, hz.2, wd0]
    exact b_z3 (ii a) (ii b) (ii d)
  · let I : Nu := nuB (wd (a.tmod 3)) (wd (b.tmod 3)) (a.tmod 3) (b.tmod 3) (fwd ha') (fwd hb') hz
    refine ⟨I, envN srcN3, envN_ok (envRB_ok ha hb (fwd ha') (fwd hb')) runN3, rfl, rfl, top_callB (hc := hpB (cx (wd (a.tmod 3)) (wd (b.tmod 3)))) rfl rfl ?_⟩
    rw [b_run rfl rfl, h, b_at3, b_num rfl rfl a b _ _ ha' hb', if_neg hz, b_n3, prim_call (n := 298) (f := 10) (r := ansV six) rfl rfl (symP_one rfl), opt2_s]
    exact b_e3 (ii a) (ii b) (ii d) _ _

theorem branches_ok (a b d : Int) : ∃ (I : Nu) (E : SEnv), @SEnvOk I E ∧ E.P = Tryz.prog ∧ E.gl = gl ∧ scall E 300 4 [ii a, ii b, ii d] [] = some (tL, []) := by
  rcases (by omega : d % 4 = 0 ∨ d % 4 = 1 ∨ d % 4 = 2 ∨ d % 4 = 3) with h | h | h | h
  · exact br0 a b d h
  · exact br1 a b d h
  · exact br2 a b d h
  · exact br3 a b d h

end Go.Proofs.YtkkjoomlfmofbaaGreatDoor

namespace Go.Proofs.YtkkjoomlfmofbaaGreatDoor.topBranches
open Go.ChangeShapes Go.WideShapes Go.ChangeAt Go.RowKit
open Go.Am
set_option linter.unusedVariables false
set_option maxRecDepth 100000

theorem walk (a0 : Int) (a1 : Int) (a2 : Int) (w0 : (Lit.int .i64 a0).wf = true) (w1 : (Lit.int .i64 a1).wf = true) (w2 : (Lit.int .i64 a2).wf = true) (w : World) (hl : laidMetH Tryz.prog Rows.topBranchesRow.laid w) : Calls Tryz.prog 4 #[.int .i64 a0, .int .i64 a1, .int .i64 a2] w fun e w' => e = .returned (.bool true) ∧ Below w.heap.size w w' := by
  obtain ⟨I, E, ok, hP, hgl, hr⟩ := branches_ok a0 a1 a2
  letI := I
  obtain ⟨J, h1, h2⟩ := globs (h := hl)
  rw [← hP]
  exact scall_lits ok (n := 300) (f := 4) (args := [.int .i64 a0, .int .i64 a1, .int .i64 a2]) (fun v hv => by
    simp only [List.mem_cons, List.not_mem_nil, or_false] at hv
    rcases hv with rfl | rfl | rfl <;> rfl) hr w h1 (by rw [hgl]; exact h2)

theorem contract (H : Type) (enc : TypeId × Value → H) (W : World) (base : Nat) (args : Array Value) (ds gs : List (DataW H)) (before : List MemPlace)
    (hval0 : ∀ (j : Nat) t v, Tryz.f4.params[j]? = some t → args[j]? = some v → Value.okWide Tryz.prog W .any base t v)
    (hW : DataW.Whole enc Tryz.prog Tryz.f4.params.toList Rows.topBranchesSpec.vars false W args.toList ds gs before) (hL : laidMetH Tryz.prog Rows.topBranchesRow.laid W) :
    Calls Tryz.prog 4 args W fun e W' => ∃ v, e = .returned v ∧ Rows.topBranchesSpec.post enc Tryz.prog Tryz.f4 false true false false W args v W' := by
  have hval : ∀ (j : Nat) t v, Tryz.f4.params[j]? = some t → args[j]? = some v → Value.okWide Tryz.prog W .any base t v := hval0
  have hW' := hW
  obtain ⟨p, q, hA0, hV, rfl, hfz, hnd⟩ := hW
  have hA : DataW.TrodAll enc Tryz.prog W 0 (fun _ => true) true Tryz.f4.params.toList args.toList ds p := hA0
  rw [Tryz.params4] at hA hval
  obtain ⟨v0, v1, v2, d0, d1, d2, p0, p1, p2, rfl, rfl, rfl, h0, h1, h2⟩ := trodAll_three hA
  obtain ⟨rfl, rfl⟩ := trodVars_none hV
  obtain ⟨a0, rfl, rfl, rfl, w0⟩ := open_int Tryz.underlying3 (hval 0 3 v0 rfl rfl) h0
  obtain ⟨a1, rfl, rfl, rfl, w1⟩ := open_int Tryz.underlying3 (hval 1 3 v1 rfl rfl) h1
  obtain ⟨a2, rfl, rfl, rfl, w2⟩ := open_int Tryz.underlying3 (hval 2 3 v2 rfl rfl) h2
  clear hA0 hval0
  simp only [List.append_nil] at hW'
  refine (walk a0 a1 a2 w0 w1 w2 W hL).mono fun e W' ⟨he, hg⟩ => ?_
  subst he
  exact ⟨_, rfl, post_of_below (pa := []) (pv := []) hW' (fun _ _ _ => (trodAll_cons_mk (shut_bool Tryz.underlying4 _) trodAll_mk0)) (fun sp _ => (trodAll_cons_mk (shut_int Tryz.underlying3 w0) (trodAll_cons_mk (shut_int Tryz.underlying3 w1) (trodAll_cons_mk (shut_int Tryz.underlying3 w2) trodAll_mk0)))) (fun _ _ => rfl) rfl
    hg (ok_one (by kernel_rfl) rfl (okWide_bool_mk Tryz.underlying4 _))⟩

/-- A world in which the listed variables hold what the program's text lays: four blocks more. -/
noncomputable def laidWorld (os : Os) : World :=
  let N := (World.settled Tryz.prog os).heap.size
  let w0 := World.holding Tryz.prog os ⟨#[.cells (Lib.whiteT.map fun (z : Nat) => Value.int .u16 (z : Int)).toArray 623, .cells #[.slice (some ⟨N, 0, none⟩) 7 7, .slice none 0 0, .int .i64 2] 620, .cells #[.string ⟨#[105, 110, 118, 97, 108, 105, 100, 32, 115, 121, 110, 116, 97, 120]⟩] 654, .cells #[.string ⟨#[118, 97, 108, 117, 101, 32, 111, 117, 116, 32, 111, 102, 32, 114, 97, 110, 103, 101]⟩] 654], #[.int .i64 0, .int .i64 0, .int .i64 0], []⟩
  let put (h : Array Obj) (g : Nat) (cs : Array Value) : Array Obj := h.modify g fun
    | .cells _ t frozen => .cells cs t frozen
    | o => o
  { w0 with heap := put (put (put (put (put (put (put w0.heap 1 (spaceTab.map fun z => Value.int .u8 z).toArray) 3 #[.pointer (some ⟨N + 1, 0, none⟩)]) 4 #[.iface 652 (.pointer (some ⟨N + 2, 0, none⟩))]) 5 #[.iface 652 (.pointer (some ⟨N + 3, 0, none⟩))]) 6 (cellsD Rows.laid_internal_strconv_uint64pow10)) 7 (cellsD Rows.laid_math_bits_deBruijn32tab)) 8 (cellsD Rows.laid_math_bits_deBruijn64tab) }

theorem laid_met (os : Os) : laidMet Tryz.prog Rows.topBranchesRow.laid ((laidWorld os).forCall (fun _ _ => 0) ⟨#[], #[.int .i64 0, .int .i64 0, .int .i64 0], []⟩).memory :=
  laidMet_of_run3 12 (by kernel_rfl) (by kernel_rfl) (by kernel_rfl)
theorem reads (os : Os) {H : Type} (enc : TypeId × Value → H) : ∃ places, DataW.whole enc Tryz.prog ((laidWorld os).forCall (fun _ _ => 0) ⟨#[], #[.int .i64 0, .int .i64 0, .int .i64 0], []⟩).memory Tryz.f4.params.toList Rows.topBranchesSpec.vars false (#[.int .i64 0, .int .i64 0, .int .i64 0] : Array Value).toList 8 = some ([.lit (.int .i64 0), .lit (.int .i64 0), .lit (.int .i64 0)], [], places) :=
  ⟨[], by kernel_rfl⟩

theorem lifted (os : Os) (started : os.Started) (H : Type) (enc : TypeId × Value → H) (F : Stop.Interp) :
    ReturnsInHanded {} Tryz.checked os 4 .any ((OpenSpec.ofChange Rows.topBranchesSpec).preRow enc Tryz.prog Tryz.f4 Rows.topBranchesRow.domain false Rows.topBranchesRow.laid) (((OpenSpec.ofChange Rows.topBranchesSpec).at F).post enc Tryz.prog Tryz.f4 false true false false) := by
  obtain ⟨places, hx⟩ := reads os enc
  refine returnsInHanded_of_row (C := Tryz.checked) (s := OpenSpec.ofChange Rows.topBranchesSpec) own started (by kernel_rfl) Tryz.func4
    (by
      obtain ⟨w, tape, i, h1, h2, h3, h4, h5, h6, _⟩ := OpenSpec.witness_stopped_atRef (enc := enc) (C := Tryz.checked) (os := os) (f := 4) (fn := Tryz.f4) (s := OpenSpec.ofChange Rows.topBranchesSpec) (conds := Rows.topBranchesRow.domain) (apart := false) (laid := Rows.topBranchesRow.laid) false (laidWorld os) #[.int .i64 0, .int .i64 0, .int .i64 0] rfl (by kernel_rfl) (by kernel_rfl) (by kernel_rfl)
        (OpenSpec.preRow_of_cond 8 hx (by kernel_rfl) (fun k hk => by cases hk) (by kernel_rfl) (laid_met os)) (fun _ _ _ => 0)
      exact ⟨w, tape, i, h1, h2, h3, h4, h5, h6⟩) ?_
  intro W base args ds gs before hval hW _ _ _ hL _ _
  exact contract H enc W base args ds gs before hval hW hL

theorem said : Rows.TopBranchesSaid :=
  OpenClaim.holds_of_cond 4 Tryz.f4 rfl rfl rfl rfl rfl rfl rfl ⟨rfl, rfl, rfl, rfl, rfl⟩ rfl rfl rfl rfl rfl (by kernel_rfl) Tryz.func4 closed
    (of_decide_eq_true (by kernel_rfl)) (by unfold Func.isWrapper; first | (rw [if_pos (by decide +kernel)]; kernel_rfl) | (rw [if_neg (by decide +kernel)]; exact ⟨rfl, rfl⟩))
    (fun os started H enc _ F => by rw [OpenClaim.pre_eq_preRow]; exact lifted os started H enc F)

theorem plain (f : FuncId) (fn : Func) (hf : Tryz.pinned.checked.prog.funcNamed "hawser/hawsertop.TopBranches" = some f) (hfn : Tryz.pinned.checked.prog.funcs[f]? = some fn) :
    true = Tryz.pinned.checked.prog.looks [] ∧ ∀ (j : Nat) t, fn.params[j]? = some t → Tryz.pinned.checked.prog.wantsStandIn t = false := by
  obtain rfl : f = 4 := Option.some.inj ((show Tryz.prog.funcNamed "hawser/hawsertop.TopBranches" = some 4 by kernel_rfl).symm.trans hf) |>.symm
  obtain rfl : fn = Tryz.f4 := (Option.some.inj (Tryz.func4.symm.trans hfn)).symm
  refine ⟨by kernel_rfl, fun j t ht => ?_⟩
  rw [Tryz.params4] at ht
  match j, ht with
  | 0, ht =>
    have e : t = 3 := (Option.some.inj ht).symm
    subst e
    exact (show Tryz.prog.wantsStandIn 3 = false by kernel_rfl)
  | 1, ht =>
    have e : t = 3 := (Option.some.inj ht).symm
    subst e
    exact (show Tryz.prog.wantsStandIn 3 = false by kernel_rfl)
  | 2, ht =>
    have e : t = 3 := (Option.some.inj ht).symm
    subst e
    exact (show Tryz.prog.wantsStandIn 3 = false by kernel_rfl)
  | j + 3, ht => simp at ht

theorem card : Rows.TopBranchesCardSaid :=
  Claim7.holds_tied_plain_at .later [] _ _ _ _ said (fun _ h => by cases h) (by as_aux_lemma => kernel_rfl) (fun _ h => by cases h) topBranches_row_tie rfl ⟨rfl, rfl⟩ (by as_aux_lemma => kernel_rfl) rfl plain (goesF rfl)
#print axioms card
end Go.Proofs.YtkkjoomlfmofbaaGreatDoor.topBranches
