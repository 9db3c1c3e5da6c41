/-
  TopOps returns true for every argument, whatever the world in which the listed tables hold what the program's text lays. No other conditions. The code is told by functions over the values of an abstract machine (printed by a program of ours, each step checked by the kernel) and run in the kernel; numbers that are not known stand as symbols.
-/
import Derived.Test.YtkkjoomlfmofbaaGreatDoorOe11
import Derived.Test.YtkkjoomlfmofbaaGreatDoorOr110
import Derived.Test.YtkkjoomlfmofbaaGreatDoorOr111
import Derived.Test.YtkkjoomlfmofbaaGreatDoorOr112
import Derived.Test.YtkkjoomlfmofbaaGreatDoorCards
import Derived.Test.YtkkjoomlfmofbaaGreatDoorTieQ2
import Derived.Test.YtkkjoomlfmofbaaGreatDoorTopOpsC
set_option linter.unusedSimpArgs false
set_option linter.unusedVariables false
set_option linter.unusedSectionVars false

namespace Go.Proofs.YtkkjoomlfmofbaaGreatDoor
open Go.Am
set_option maxRecDepth 100000
theorem run6 : isR (scall (envO1 nmO6) 290 10 (argsO srcO6 (.sym 2000) (.sym 2001)) []) (ansV (.sym 1003)) = true := by kernel_rfl
end Go.Proofs.YtkkjoomlfmofbaaGreatDoor

namespace Go.Proofs.YtkkjoomlfmofbaaGreatDoor
open Go.Am Ieee
set_option maxRecDepth 100000

/-! ### What the law's own functions answer, in any table -/

theorem c_partE (E : SEnv) (n : Nat) (hp : E.prim 19 = none) (hf : E.fns 19 = some (.alone, N19)) (a : Int) (h : Heap) : scall E (n + 1) 19 [ii a] h = some (ii (a.tmod 1048577), h) :=
  alone_call (F := N19) hp hf rfl (hc := []) (r0 := ii (a.tmod 1048577)) (by
    have r : binX P0 .none .rem 3 (ii a) (iL 1048577) = some (ii (a.tmod 1048577)) := rem_int (by decide)
    simp only [N19, n1, F19, r, opt_s]) ⟨[], rfl⟩

theorem part_ok (a : Int) : okP (a.tmod 1048577) := by
  have h := (tmod_fix a 1048577 (by decide)).2
  unfold okP; omega

/-! ### The symbols of this law -/

def wO (a b c d r s : Nat) : Nat → Nat × Nat := fun n => if n = 2000 then (a, b) else if n = 2001 then (c, d) else if n = 1003 then (r, s) else if n = 1004 then (r, s) else if n = 1000 then (4607182418800017408, 0) else if n = 1002 then (4607182418800017408, 0) else (0, 0)
def vO (x y z u p q : Int) : Nat → Int × Int := fun n => if n = 2000 then (x, y) else if n = 2001 then (z, u) else if n = 1003 then (p, q) else if n = 1004 then (p, q) else if n = 1000 then (1, 0) else if n = 1002 then (1, 0) else (0, 0)

@[reducible] def nuO (a b c d r s : Nat) (x y z u p q : Int) (h1 : FW a x) (h2 : FW b y) (h3 : FW c z) (h4 : FW d u) (h5 : FW r p) (h6 : FW s q) : Nu :=
  mkNu (wO a b c d r s) (vO x y z u p q) (fun n => by
    unfold wO vO
    by_cases e0 : n = 2000
    · rw [if_pos e0, if_pos e0]; exact ⟨h1, h2⟩
    · rw [if_neg e0, if_neg e0]
      by_cases e1 : n = 2001
      · rw [if_pos e1, if_pos e1]; exact ⟨h3, h4⟩
      · rw [if_neg e1, if_neg e1]
        by_cases e2 : n = 1003
        · rw [if_pos e2, if_pos e2]; exact ⟨h5, h6⟩
        · rw [if_neg e2, if_neg e2]
          by_cases e3 : n = 1004
          · rw [if_pos e3, if_pos e3]; exact ⟨h5, h6⟩
          · rw [if_neg e3, if_neg e3]
            by_cases e4 : n = 1000
            · rw [if_pos e4, if_pos e4]; exact ⟨fw_one, FW.zero⟩
            · rw [if_neg e4, if_neg e4]
              by_cases e5 : n = 1002
              · rw [if_pos e5, if_pos e5]; exact ⟨fw_one, FW.zero⟩
              · rw [if_neg e5, if_neg e5]; exact ⟨FW.zero, FW.zero⟩)
    (by show ((1, 0) : Int × Int) ≠ (0, 0); decide) (by show ((1, 0) : Int × Int) ≠ (0, 0); decide) rfl

theorem right_rowO [Nu] (n : Nat) (k : Nat) {x y : Int} (hx : okP x) (hy : okP y) (h1 : FW (Nu.re k) x) (h2 : FW (Nu.im k) y) : scall senv (n + 3) 26 ([AV.sym k].map (des 64)) [] = some (des 64 tL, []) := by
  have := c_right n (v := cx (Nu.re k) (Nu.im k)) ⟨_, _, rfl, h1, h2⟩ []
  rw [decide_eq_true ⟨hx, hy⟩] at this
  exact this

theorem envR_ok [Nu] {x y z u p q : Int} (hx : okP x) (hy : okP y) (hz : okP z) (hu : okP u) (hp : okP p) (hq : okP q) (h1 : FW (Nu.re 2000) x) (h2 : FW (Nu.im 2000) y) (h3 : FW (Nu.re 2001) z) (h4 : FW (Nu.im 2001) u) (h5 : FW (Nu.re 1003) p) (h6 : FW (Nu.im 1003) q) : SEnvOk envR := by
  refine SEnvOk.withP envF_ok (orP_ok (des_table_ok (E := senv) senv_ok (n := 5) fun r hr => ?_) (runP_ok envF_ok))
  rcases List.mem_cons.1 hr with rfl | hr
  · exact right_rowO 2 2000 hx hy h1 h2
  · rcases List.mem_cons.1 hr with rfl | hr
    · exact right_rowO 2 2001 hz hu h3 h4
    · rcases List.mem_singleton.1 hr with rfl
      exact right_rowO 2 1003 hp hq h5 h6

/-- The run of one source with symbols, as a table; the reckoning of the law's own. -/
noncomputable def envW [Nu] (src r : AV) (rowsT rowsU : List (List AV × AV)) : SEnv :=
  (((envA.withP 10 (symP [(argsO src (.sym 2000) (.sym 2001), r)])).withP 14 (symP [([ansV (.sym 1003), numV (.sym 1004)], tL)])).withP 20 (symP rowsT)).withP 21 (symP rowsU)

theorem isO [Nu] : isR (scall envA 290 14 [ansV (.sym 1003), numV (.sym 1004)] []) tL = true := by kernel_rfl

theorem envW_ok [Nu] {E : SEnv} (ok : SEnvOk E) (hP : E.P = Tryz.prog) (hg : E.gl = gl) {src r : AV} {rowsT rowsU : List (List AV × AV)} (h1 : isR (scall E 290 10 (argsO src (.sym 2000) (.sym 2001)) []) r = true)
    (h2 : ∀ q ∈ rowsT, scall senv 290 20 q.1 [] = some (q.2, [])) (h3 : ∀ q ∈ rowsU, scall senv 290 21 q.1 [] = some (q.2, [])) : SEnvOk (envW src r rowsT rowsU) := by
  refine SEnvOk.withP (SEnvOk.withP (SEnvOk.withP (SEnvOk.withP envA_ok ?_) ?_) ?_) ?_
  · have := sym_ok (E := E) ok (n := 290) (f := 10) (t := [(argsO src (.sym 2000) (.sym 2001), r)]) fun q hq => by
      rcases List.mem_singleton.1 hq with rfl
      exact isR_spec h1
    rw [hP, hg] at this
    exact this
  · exact sym_ok (E := envA) envA_ok (n := 290) (f := 14) (t := [([ansV (.sym 1003), numV (.sym 1004)], tL)]) fun q hq => by
      rcases List.mem_singleton.1 hq with rfl
      exact isR_spec isO
  · exact sym_ok (E := senv) senv_ok (n := 290) (f := 20) (t := rowsT) h2
  · exact sym_ok (E := senv) senv_ok (n := 290) (f := 21) (t := rowsU) h3

/-! ### The walk -/

theorem o_head (c : CF) (a b x d e : AV) : F8 c a b x d e [] = opt2 (c 11 [a, iL 0, iL 6] []) fun t28 h1 => opt2 (c 19 [b] h1) fun t30 h2 => opt2 (c 19 [x] h2) fun t32 h3 => opt2 (c 19 [d] h3) fun t34 h4 => opt2 (c 19 [e] h4) fun t36 h5 => opt (convX P0 3 45 t30 h5) fun t38 => opt (convX P0 3 45 t32 h5) fun t40 => opt (litBi P0 .complex [45, 45] 24 [false, false] [t38, t40]) fun t41 => opt (convX P0 3 45 t34 h5) fun t43 => opt (convX P0 3 45 t36 h5) fun t45 => opt (litBi P0 .complex [45, 45] 24 [false, false] [t43, t45]) fun t46 => S8_3 c namesO t28 t30 t32 t34 t36 t41 t46 h5 := by kernel_rfl

theorem o_run {E : SEnv} (p1 : E.prim 11 = none) (f1 : E.fns 11 = some (.alone, N11)) (p2 : E.prim 19 = none) (f2 : E.fns 19 = some (.alone, N19)) (a b x d e : Int) :
    F8 (scall E 299) (ii a) (ii b) (ii x) (ii d) (ii e) [] = S8_3 (scall E 299) namesO (ii (a % 7)) (ii (b.tmod 1048577)) (ii (x.tmod 1048577)) (ii (d.tmod 1048577)) (ii (e.tmod 1048577)) (cx (wd (b.tmod 1048577)) (wd (x.tmod 1048577))) (cx (wd (d.tmod 1048577)) (wd (e.tmod 1048577))) [] := by
  have hw : ∀ h, scall E 299 11 [ii a, iL 0, iL 6] h = some (ii (a % 7), h) := fun h => c_withinE E 298 p1 f1 (hi := 6) (by decide) (by decide) h
  have hb : ∀ p q : Nat, litBi P0 .complex [45, 45] 24 [false, false] [fl p, fl q] = some (cx p q) := fun p q => bi_cx p q false false
  have hp : ∀ (a : Int) (h : Heap), scall E 299 19 [ii a] h = some (ii (a.tmod 1048577), h) := fun a h => c_partE E 298 p2 f2 a h
  rw [o_head, hw, opt2_s]
  simp only [hp, opt2_s, cv, opt_s, hb]

noncomputable def kO (c : CF) (t13 t14 t15 t16 t19 t20 t21 : AV) : AV → Heap → Res := fun t88 h4 => opt2 (box (.agg [(iL 0),(iL 0),(iL 0),cL,nL,nL]) h4) fun t22 h5 => optH (storeX 6 t22 t88 h5) fun h6 => opt (fastBin .neq t21 (iL 0)) fun t90 => test t90 (opt (fieldAddrX 0 t22) fun t91 => opt (loadX none t91 h6) fun t92 => opt (fastBin .eql t92 (iL 44)) fun t93 => test t93 (opt2 (c 12 [] h6) fun t95 h7 => some (t95,h7)) (some (fL,h6))) (opt (loadX (some 6) t22 h6) fun t97 => opt (buildX [(iL 0),(iL 0),cL,nL,nL] [(0,1),(1,1),(2,1),(3,1),(4,1)] [(0,(iL 1)),(2,t20)]) fun t99 => opt2 (c 14 [t97,t99] h6) fun t100 h8 => test t100 (opt2 (c 12 [] h8) fun t102 h9 => some (t102,h9)) (some (fL,h8)))

theorem o_end (c : CF) {p q r s : AV} {w1 w2 w3 w4 : Nat} (h1 : c 13 [p, q] [] = some (numV (cx w1 w2), [])) (h2 : c 13 [r, s] [] = some (numV (cx w3 w4), [])) (src v e : AV) :
    S8_0 c p q r s src v e [] = opt2 (c 10 [src, .isl 5 true [numV (cx w1 w2), numV (cx w3 w4)]] []) (kO c p q r s src v e) := by
  simp only [S8_0, h1, h2, opt2_s]
  kernel_rfl

def hpO (v : AV) : Heap := [.arr ⟨6, false, false, [v]⟩]

theorem kO_ok (c : CF) (p q r s src : AV) (w1 w2 : Nat) (hI : ∀ h, c 14 [ansV (cx w1 w2), numV (cx w1 w2)] h = some (tL, h)) (hA : ∀ h, c 12 [] h = some (tL, h)) :
    kO c p q r s src (cx w1 w2) (iL 0) (ansV (cx w1 w2)) [] = some (tL, hpO (ansV (cx w1 w2))) := by
  have e : kO c p q r s src (cx w1 w2) (iL 0) (ansV (cx w1 w2)) [] = opt2 (c 14 [ansV (cx w1 w2), numV (cx w1 w2)] (hpO (ansV (cx w1 w2)))) fun t100 h8 => test t100 (opt2 (c 12 [] h8) fun t102 h9 => some (t102, h9)) (some (fL, h8)) := by kernel_rfl
  rw [e, hI, opt2_s, test_b, if_pos rfl, hA, opt2_s]

theorem kO_err (c : CF) (p q r s src v : AV) (hA : ∀ h, c 12 [] h = some (tL, h)) : kO c p q r s src v (iL 44) errA [] = some (tL, hpO errA) := by
  have e : kO c p q r s src v (iL 44) errA [] = opt2 (c 12 [] (hpO errA)) fun t95 h7 => some (t95, h7) := by kernel_rfl
  rw [e, hA, opt2_s]

theorem top_callO {E : SEnv} {a b x d e : Int} {hc : Heap} (hp : E.prim 8 = none) (hf : E.fns 8 = some (.alone, N8)) (h : F8 (scall E 299) (ii a) (ii b) (ii x) (ii d) (ii e) [] = some (tL, hc)) :
    scall E 300 8 [ii a, ii b, ii x, ii d, ii e] [] = some (tL, []) :=
  alone_call (n := 299) (F := N8) (hc := hc) (r0 := tL) hp hf rfl h ⟨[], rfl⟩

theorem x0 (v e : AV) : extractX (.tup [v, e]) 0 = some v := nr rfl
theorem x1 (v e : AV) : extractX (.tup [v, e]) 1 = some e := nr rfl

theorem end_ok (c : CF) {p q r s : AV} {u1 u2 u3 u4 w1 w2 : Nat} (src : AV) (h1 : c 13 [p, q] [] = some (numV (cx u1 u2), [])) (h2 : c 13 [r, s] [] = some (numV (cx u3 u4), [])) (hO : c 10 [src, .isl 5 true [numV (cx u1 u2), numV (cx u3 u4)]] [] = some (ansV (cx w1 w2), []))
    (hI : ∀ h, c 14 [ansV (cx w1 w2), numV (cx w1 w2)] h = some (tL, h)) (hA : ∀ h, c 12 [] h = some (tL, h)) : S8_0 c p q r s src (cx w1 w2) (iL 0) [] = some (tL, hpO (ansV (cx w1 w2))) := by
  rw [o_end c h1 h2, hO, opt2_s]; exact kO_ok c p q r s src w1 w2 hI hA

theorem end_err (c : CF) {p q r s : AV} {u1 u2 u3 u4 : Nat} (src v : AV) (h1 : c 13 [p, q] [] = some (numV (cx u1 u2), [])) (h2 : c 13 [r, s] [] = some (numV (cx u3 u4), [])) (hO : c 10 [src, .isl 5 true [numV (cx u1 u2), numV (cx u3 u4)]] [] = some (errA, []))
    (hA : ∀ h, c 12 [] h = some (tL, h)) : S8_0 c p q r s src v (iL 44) [] = some (tL, hpO errA) := by
  rw [o_end c h1 h2, hO, opt2_s]; exact kO_err c p q r s src v hA

theorem envO2_ok [Nu] (okR : SEnvOk envR) {nm : AV} {e : Int} (hrow : scall senv 290 20 ([nm, .sym 2000, .sym 2001].map (des 64)) [] = some (des 64 (.tup [.sym 1003, iL e]), [])) : SEnvOk (envO2 nm e) :=
  SEnvOk.withP okR (des_table_ok (E := senv) senv_ok (n := 290) fun q hq => by rcases List.mem_singleton.1 hq with rfl; exact hrow)
theorem envO1_ok [Nu] (okR : SEnvOk envR) {nm : AV} (hrow : scall senv 290 21 ([nm, .sym 2000].map (des 64)) [] = some (des 64 (.tup [.sym 1003, iL 0]), [])) : SEnvOk (envO1 nm) :=
  SEnvOk.withP okR (des_table_ok (E := senv) senv_ok (n := 290) fun q hq => by rcases List.mem_singleton.1 hq with rfl; exact hrow)

abbrev Ok5 (a b x d e : Int) : Prop := ∃ (I : Nu) (E : SEnv), @SEnvOk I E ∧ E.P = Tryz.prog ∧ E.gl = gl ∧ scall E 300 8 [ii a, ii b, ii x, ii d, ii e] [] = some (tL, [])

theorem o_k0 (c : CF) (p q r s x y : AV) : S8_3 c namesO (ii 0) p q r s x y [] = opt2 (c 20 [nmO0, x, y] []) fun t60 h1 => opt (extractX t60 0) fun t61 => opt (extractX t60 1) fun t62 => S8_0 c p q r s srcO0 t61 t62 h1 := by kernel_rfl

theorem two0 (a b x d e : Int) (h : a % 7 = 0) : Ok5 a b x d e := by
  have o1 := part_ok b
  have o2 := part_ok x
  have o3 := part_ok d
  have o4 := part_ok e
  have f1 := fwd (okS o1)
  have f2 := fwd (okS o2)
  have f3 := fwd (okS o3)
  have f4 := fwd (okS o4)
  have hrun : ∀ (I : Nu) (r : AV) (T U : List (List AV × AV)), F8 (scall (@envW I srcO0 r T U) 299) (ii a) (ii b) (ii x) (ii d) (ii e) [] = S8_3 (scall (@envW I srcO0 r T U) 299) namesO (ii 0) (ii (b.tmod 1048577)) (ii (x.tmod 1048577)) (ii (d.tmod 1048577)) (ii (e.tmod 1048577)) (cx (wd (b.tmod 1048577)) (wd (x.tmod 1048577))) (cx (wd (d.tmod 1048577)) (wd (e.tmod 1048577))) [] := fun I r T U => by
    rw [o_run rfl rfl rfl rfl, h]
  generalize b.tmod 1048577 = B at *
  generalize x.tmod 1048577 = X at *
  generalize d.tmod 1048577 = D at *
  generalize e.tmod 1048577 = G at *
  obtain ⟨r, hr, g1, g2⟩ := c_two 286 (op := 0) (by decide) (v := cx (wd B) (wd X)) (w := cx (wd D) (wd G)) ⟨_, _, rfl, f1, f2⟩ ⟨_, _, rfl, f3, f4⟩ o1 o2 o3 o4
  by_cases ho : okP (twoX 0 B X D G) ∧ okP (twoY 0 B X D G)
  · obtain ⟨v, rfl, w1, w2, rfl, q1, q2⟩ := (g1 ho).val
    let I : Nu := nuO (wd B) (wd X) (wd D) (wd G) w1 w2 B X D G _ _ f1 f2 f3 f4 q1 q2
    have okE : SEnvOk (envO2 nmO0 0) := envO2_ok (envR_ok o1 o2 o3 o4 ho.1 ho.2 f1 f2 f3 f4 q1 q2) (hr [])
    refine ⟨I, envW srcO0 (ansV (.sym 1003)) [([nmO0, cx (wd B) (wd X), cx (wd D) (wd G)], .tup [cx w1 w2, iL 0])] [], envW_ok okE rfl rfl run0 (fun q hq => by rcases List.mem_singleton.1 hq with rfl; exact hr []) (fun q hq => by cases hq), rfl, rfl, top_callO (hc := hpO (ansV (cx w1 w2))) rfl rfl ?_⟩
    have hT : scall (@envW I srcO0 (ansV (.sym 1003)) [([nmO0, cx (wd B) (wd X), cx (wd D) (wd G)], .tup [cx w1 w2, iL 0])] []) 299 20 [nmO0, cx (wd B) (wd X), cx (wd D) (wd G)] [] = some (.tup [cx w1 w2, iL 0], []) := prim_call (n := 298) rfl rfl (symP_one rfl)
    rw [hrun, o_k0, hT, opt2_s, x0, opt_s, x1, opt_s]
    exact end_ok _ srcO0 (c_numW _ 298 rfl rfl B X []) (c_numW _ 298 rfl rfl D G []) (prim_call (n := 298) rfl rfl (symP_one rfl)) (fun h => prim_call (n := 298) rfl rfl (symP_one rfl)) (awO _ 298 rfl)
  · obtain ⟨v, rfl, w1, w2, rfl, q1, q2⟩ := (g2 ho).val
    let I : Nu := nuO (wd B) (wd X) (wd D) (wd G) w1 w2 B X D G _ _ f1 f2 f3 f4 q1 q2
    have okE : SEnvOk (envO2 nmO0 44) := envO2_ok (envR_ok o1 o2 o3 o4 okP0 okP0 f1 f2 f3 f4 q1 q2) (hr [])
    refine ⟨I, envW srcO0 errA [([nmO0, cx (wd B) (wd X), cx (wd D) (wd G)], .tup [cx w1 w2, iL 44])] [], envW_ok okE rfl rfl bad0 (fun q hq => by rcases List.mem_singleton.1 hq with rfl; exact hr []) (fun q hq => by cases hq), rfl, rfl, top_callO (hc := hpO errA) rfl rfl ?_⟩
    have hT : scall (@envW I srcO0 errA [([nmO0, cx (wd B) (wd X), cx (wd D) (wd G)], .tup [cx w1 w2, iL 44])] []) 299 20 [nmO0, cx (wd B) (wd X), cx (wd D) (wd G)] [] = some (.tup [cx w1 w2, iL 44], []) := prim_call (n := 298) rfl rfl (symP_one rfl)
    rw [hrun, o_k0, hT, opt2_s, x0, opt_s, x1, opt_s]
    exact end_err _ srcO0 (cx w1 w2) (c_numW _ 298 rfl rfl B X []) (c_numW _ 298 rfl rfl D G []) (prim_call (n := 298) rfl rfl (symP_one rfl)) (awO _ 298 rfl)

theorem o_k1 (c : CF) (p q r s x y : AV) : S8_3 c namesO (ii 1) p q r s x y [] = opt2 (c 20 [nmO1, x, y] []) fun t60 h1 => opt (extractX t60 0) fun t61 => opt (extractX t60 1) fun t62 => S8_0 c p q r s srcO1 t61 t62 h1 := by kernel_rfl

theorem two1 (a b x d e : Int) (h : a % 7 = 1) : Ok5 a b x d e := by
  have o1 := part_ok b
  have o2 := part_ok x
  have o3 := part_ok d
  have o4 := part_ok e
  have f1 := fwd (okS o1)
  have f2 := fwd (okS o2)
  have f3 := fwd (okS o3)
  have f4 := fwd (okS o4)
  have hrun : ∀ (I : Nu) (r : AV) (T U : List (List AV × AV)), F8 (scall (@envW I srcO1 r T U) 299) (ii a) (ii b) (ii x) (ii d) (ii e) [] = S8_3 (scall (@envW I srcO1 r T U) 299) namesO (ii 1) (ii (b.tmod 1048577)) (ii (x.tmod 1048577)) (ii (d.tmod 1048577)) (ii (e.tmod 1048577)) (cx (wd (b.tmod 1048577)) (wd (x.tmod 1048577))) (cx (wd (d.tmod 1048577)) (wd (e.tmod 1048577))) [] := fun I r T U => by
    rw [o_run rfl rfl rfl rfl, h]
  generalize b.tmod 1048577 = B at *
  generalize x.tmod 1048577 = X at *
  generalize d.tmod 1048577 = D at *
  generalize e.tmod 1048577 = G at *
  obtain ⟨r, hr, g1, g2⟩ := c_two 286 (op := 1) (by decide) (v := cx (wd B) (wd X)) (w := cx (wd D) (wd G)) ⟨_, _, rfl, f1, f2⟩ ⟨_, _, rfl, f3, f4⟩ o1 o2 o3 o4
  by_cases ho : okP (twoX 1 B X D G) ∧ okP (twoY 1 B X D G)
  · obtain ⟨v, rfl, w1, w2, rfl, q1, q2⟩ := (g1 ho).val
    let I : Nu := nuO (wd B) (wd X) (wd D) (wd G) w1 w2 B X D G _ _ f1 f2 f3 f4 q1 q2
    have okE : SEnvOk (envO2 nmO1 0) := envO2_ok (envR_ok o1 o2 o3 o4 ho.1 ho.2 f1 f2 f3 f4 q1 q2) (hr [])
    refine ⟨I, envW srcO1 (ansV (.sym 1003)) [([nmO1, cx (wd B) (wd X), cx (wd D) (wd G)], .tup [cx w1 w2, iL 0])] [], envW_ok okE rfl rfl run1 (fun q hq => by rcases List.mem_singleton.1 hq with rfl; exact hr []) (fun q hq => by cases hq), rfl, rfl, top_callO (hc := hpO (ansV (cx w1 w2))) rfl rfl ?_⟩
    have hT : scall (@envW I srcO1 (ansV (.sym 1003)) [([nmO1, cx (wd B) (wd X), cx (wd D) (wd G)], .tup [cx w1 w2, iL 0])] []) 299 20 [nmO1, cx (wd B) (wd X), cx (wd D) (wd G)] [] = some (.tup [cx w1 w2, iL 0], []) := prim_call (n := 298) rfl rfl (symP_one rfl)
    rw [hrun, o_k1, hT, opt2_s, x0, opt_s, x1, opt_s]
    exact end_ok _ srcO1 (c_numW _ 298 rfl rfl B X []) (c_numW _ 298 rfl rfl D G []) (prim_call (n := 298) rfl rfl (symP_one rfl)) (fun h => prim_call (n := 298) rfl rfl (symP_one rfl)) (awO _ 298 rfl)
  · obtain ⟨v, rfl, w1, w2, rfl, q1, q2⟩ := (g2 ho).val
    let I : Nu := nuO (wd B) (wd X) (wd D) (wd G) w1 w2 B X D G _ _ f1 f2 f3 f4 q1 q2
    have okE : SEnvOk (envO2 nmO1 44) := envO2_ok (envR_ok o1 o2 o3 o4 okP0 okP0 f1 f2 f3 f4 q1 q2) (hr [])
    refine ⟨I, envW srcO1 errA [([nmO1, cx (wd B) (wd X), cx (wd D) (wd G)], .tup [cx w1 w2, iL 44])] [], envW_ok okE rfl rfl bad1 (fun q hq => by rcases List.mem_singleton.1 hq with rfl; exact hr []) (fun q hq => by cases hq), rfl, rfl, top_callO (hc := hpO errA) rfl rfl ?_⟩
    have hT : scall (@envW I srcO1 errA [([nmO1, cx (wd B) (wd X), cx (wd D) (wd G)], .tup [cx w1 w2, iL 44])] []) 299 20 [nmO1, cx (wd B) (wd X), cx (wd D) (wd G)] [] = some (.tup [cx w1 w2, iL 44], []) := prim_call (n := 298) rfl rfl (symP_one rfl)
    rw [hrun, o_k1, hT, opt2_s, x0, opt_s, x1, opt_s]
    exact end_err _ srcO1 (cx w1 w2) (c_numW _ 298 rfl rfl B X []) (c_numW _ 298 rfl rfl D G []) (prim_call (n := 298) rfl rfl (symP_one rfl)) (awO _ 298 rfl)

theorem o_k2 (c : CF) (p q r s x y : AV) : S8_3 c namesO (ii 2) p q r s x y [] = opt2 (c 20 [nmO2, x, y] []) fun t60 h1 => opt (extractX t60 0) fun t61 => opt (extractX t60 1) fun t62 => S8_0 c p q r s srcO2 t61 t62 h1 := by kernel_rfl

theorem two2 (a b x d e : Int) (h : a % 7 = 2) : Ok5 a b x d e := by
  have o1 := part_ok b
  have o2 := part_ok x
  have o3 := part_ok d
  have o4 := part_ok e
  have f1 := fwd (okS o1)
  have f2 := fwd (okS o2)
  have f3 := fwd (okS o3)
  have f4 := fwd (okS o4)
  have hrun : ∀ (I : Nu) (r : AV) (T U : List (List AV × AV)), F8 (scall (@envW I srcO2 r T U) 299) (ii a) (ii b) (ii x) (ii d) (ii e) [] = S8_3 (scall (@envW I srcO2 r T U) 299) namesO (ii 2) (ii (b.tmod 1048577)) (ii (x.tmod 1048577)) (ii (d.tmod 1048577)) (ii (e.tmod 1048577)) (cx (wd (b.tmod 1048577)) (wd (x.tmod 1048577))) (cx (wd (d.tmod 1048577)) (wd (e.tmod 1048577))) [] := fun I r T U => by
    rw [o_run rfl rfl rfl rfl, h]
  generalize b.tmod 1048577 = B at *
  generalize x.tmod 1048577 = X at *
  generalize d.tmod 1048577 = D at *
  generalize e.tmod 1048577 = G at *
  obtain ⟨r, hr, g1, g2⟩ := c_two 286 (op := 2) (by decide) (v := cx (wd B) (wd X)) (w := cx (wd D) (wd G)) ⟨_, _, rfl, f1, f2⟩ ⟨_, _, rfl, f3, f4⟩ o1 o2 o3 o4
  by_cases ho : okP (twoX 2 B X D G) ∧ okP (twoY 2 B X D G)
  · obtain ⟨v, rfl, w1, w2, rfl, q1, q2⟩ := (g1 ho).val
    let I : Nu := nuO (wd B) (wd X) (wd D) (wd G) w1 w2 B X D G _ _ f1 f2 f3 f4 q1 q2
    have okE : SEnvOk (envO2 nmO2 0) := envO2_ok (envR_ok o1 o2 o3 o4 ho.1 ho.2 f1 f2 f3 f4 q1 q2) (hr [])
    refine ⟨I, envW srcO2 (ansV (.sym 1003)) [([nmO2, cx (wd B) (wd X), cx (wd D) (wd G)], .tup [cx w1 w2, iL 0])] [], envW_ok okE rfl rfl run2 (fun q hq => by rcases List.mem_singleton.1 hq with rfl; exact hr []) (fun q hq => by cases hq), rfl, rfl, top_callO (hc := hpO (ansV (cx w1 w2))) rfl rfl ?_⟩
    have hT : scall (@envW I srcO2 (ansV (.sym 1003)) [([nmO2, cx (wd B) (wd X), cx (wd D) (wd G)], .tup [cx w1 w2, iL 0])] []) 299 20 [nmO2, cx (wd B) (wd X), cx (wd D) (wd G)] [] = some (.tup [cx w1 w2, iL 0], []) := prim_call (n := 298) rfl rfl (symP_one rfl)
    rw [hrun, o_k2, hT, opt2_s, x0, opt_s, x1, opt_s]
    exact end_ok _ srcO2 (c_numW _ 298 rfl rfl B X []) (c_numW _ 298 rfl rfl D G []) (prim_call (n := 298) rfl rfl (symP_one rfl)) (fun h => prim_call (n := 298) rfl rfl (symP_one rfl)) (awO _ 298 rfl)
  · obtain ⟨v, rfl, w1, w2, rfl, q1, q2⟩ := (g2 ho).val
    let I : Nu := nuO (wd B) (wd X) (wd D) (wd G) w1 w2 B X D G _ _ f1 f2 f3 f4 q1 q2
    have okE : SEnvOk (envO2 nmO2 44) := envO2_ok (envR_ok o1 o2 o3 o4 okP0 okP0 f1 f2 f3 f4 q1 q2) (hr [])
    refine ⟨I, envW srcO2 errA [([nmO2, cx (wd B) (wd X), cx (wd D) (wd G)], .tup [cx w1 w2, iL 44])] [], envW_ok okE rfl rfl bad2 (fun q hq => by rcases List.mem_singleton.1 hq with rfl; exact hr []) (fun q hq => by cases hq), rfl, rfl, top_callO (hc := hpO errA) rfl rfl ?_⟩
    have hT : scall (@envW I srcO2 errA [([nmO2, cx (wd B) (wd X), cx (wd D) (wd G)], .tup [cx w1 w2, iL 44])] []) 299 20 [nmO2, cx (wd B) (wd X), cx (wd D) (wd G)] [] = some (.tup [cx w1 w2, iL 44], []) := prim_call (n := 298) rfl rfl (symP_one rfl)
    rw [hrun, o_k2, hT, opt2_s, x0, opt_s, x1, opt_s]
    exact end_err _ srcO2 (cx w1 w2) (c_numW _ 298 rfl rfl B X []) (c_numW _ 298 rfl rfl D G []) (prim_call (n := 298) rfl rfl (symP_one rfl)) (awO _ 298 rfl)

/-- num.Two of an operation that it does not know. -/
theorem c_twoNo (n : Nat) {nm : AV} (hn : nm = nmO3 ∨ nm = nmO4 ∨ nm = nmO5 ∨ nm = nmO6) {v w : AV} {x y z u : Int} (hv : CW v x y) (hw : CW w z u) (hx : okP x) (hy : okP y) (hz : okP z) (hu : okP u) (h : Heap) : nc (n + 4) 20 [nm, v, w] h = some (.tup [cL, iL 1], h) := by
  have r1 := fun h => c_right n hv h
  have r2 := fun h => c_right n hw h
  obtain ⟨a, b, rfl, ha, hb⟩ := hv
  obtain ⟨c, d, rfl, hc, hd⟩ := hw
  rcases hn with rfl | rfl | rfl | rfl
  all_goals
    refine al (F := N20) ⟨[], ?_⟩ (fun _ => rfl) (fun _ => rfl) rfl rfl h
    simp only [N20, n1, n2, n3, F20, S20_4, r1, r2, opt2_s, not_b, opt_s, test_b, hx, hy, hz, hu, and_self, decide_true, Bool.not_true, Bool.false_eq_true, if_false, S20_3]
    kernel_rfl

theorem o_k3 (c : CF) (p q r s x y : AV) : S8_3 c namesO (ii 3) p q r s x y [] = opt2 (c 20 [nmO3, x, y] []) fun t60 h1 => opt (extractX t60 0) fun _ => opt (extractX t60 1) fun _ => opt2 (c 21 [nmO3, x] h1) fun t77 h2 => opt (extractX t77 0) fun t78 => opt (extractX t77 1) fun t79 => S8_0 c p q r s srcO3 t78 t79 h2 := by kernel_rfl

theorem uno0 (a b x d e : Int) (h : a % 7 = 3) : Ok5 a b x d e := by
  have o1 := part_ok b
  have o2 := part_ok x
  have o3 := part_ok d
  have o4 := part_ok e
  have f1 := fwd (okS o1)
  have f2 := fwd (okS o2)
  have f3 := fwd (okS o3)
  have f4 := fwd (okS o4)
  have hrun : ∀ (I : Nu) (r : AV) (T U : List (List AV × AV)), F8 (scall (@envW I srcO3 r T U) 299) (ii a) (ii b) (ii x) (ii d) (ii e) [] = S8_3 (scall (@envW I srcO3 r T U) 299) namesO (ii 3) (ii (b.tmod 1048577)) (ii (x.tmod 1048577)) (ii (d.tmod 1048577)) (ii (e.tmod 1048577)) (cx (wd (b.tmod 1048577)) (wd (x.tmod 1048577))) (cx (wd (d.tmod 1048577)) (wd (e.tmod 1048577))) [] := fun I r T U => by
    rw [o_run rfl rfl rfl rfl, h]
  generalize b.tmod 1048577 = B at *
  generalize x.tmod 1048577 = X at *
  generalize d.tmod 1048577 = D at *
  generalize e.tmod 1048577 = G at *
  obtain ⟨r, hr, g1⟩ := c_one 286 (op := 0) (by decide) (v := cx (wd B) (wd X)) ⟨_, _, rfl, f1, f2⟩ o1 o2
  have hno := c_twoNo 286 (nm := nmO3) (by simp) (v := cx (wd B) (wd X)) (w := cx (wd D) (wd G)) ⟨_, _, rfl, f1, f2⟩ ⟨_, _, rfl, f3, f4⟩ o1 o2 o3 o4
  obtain ⟨v, rfl, w1, w2, rfl, q1, q2⟩ := g1.val
  have ho : okP (oneX 0 B X) ∧ okP (oneY 0 B X) := by
    unfold okP at *; constructor <;> simp [oneX, oneY] <;> omega
  let I : Nu := nuO (wd B) (wd X) (wd D) (wd G) w1 w2 B X D G _ _ f1 f2 f3 f4 q1 q2
  have okE : SEnvOk (envO1 nmO3) := envO1_ok (envR_ok o1 o2 o3 o4 ho.1 ho.2 f1 f2 f3 f4 q1 q2) (hr [])
  refine ⟨I, envW srcO3 (ansV (.sym 1003)) [([nmO3, cx (wd B) (wd X), cx (wd D) (wd G)], .tup [cL, iL 1])] [([nmO3, cx (wd B) (wd X)], .tup [cx w1 w2, iL 0])], envW_ok okE rfl rfl run3 (fun q hq => by rcases List.mem_singleton.1 hq with rfl; exact hno []) (fun q hq => by rcases List.mem_singleton.1 hq with rfl; exact hr []), rfl, rfl, top_callO (hc := hpO (ansV (cx w1 w2))) rfl rfl ?_⟩
  have hT : scall (@envW I srcO3 (ansV (.sym 1003)) [([nmO3, cx (wd B) (wd X), cx (wd D) (wd G)], .tup [cL, iL 1])] [([nmO3, cx (wd B) (wd X)], .tup [cx w1 w2, iL 0])]) 299 20 [nmO3, cx (wd B) (wd X), cx (wd D) (wd G)] [] = some (.tup [cL, iL 1], []) := prim_call (n := 298) rfl rfl (symP_one rfl)
  have hU : scall (@envW I srcO3 (ansV (.sym 1003)) [([nmO3, cx (wd B) (wd X), cx (wd D) (wd G)], .tup [cL, iL 1])] [([nmO3, cx (wd B) (wd X)], .tup [cx w1 w2, iL 0])]) 299 21 [nmO3, cx (wd B) (wd X)] [] = some (.tup [cx w1 w2, iL 0], []) := prim_call (n := 298) rfl rfl (symP_one rfl)
  rw [hrun, o_k3, hT, opt2_s, x0, opt_s, x1, opt_s, hU, opt2_s, x0, opt_s, x1, opt_s]
  exact end_ok _ srcO3 (c_numW _ 298 rfl rfl B X []) (c_numW _ 298 rfl rfl D G []) (prim_call (n := 298) rfl rfl (symP_one rfl)) (fun h => prim_call (n := 298) rfl rfl (symP_one rfl)) (awO _ 298 rfl)

theorem o_k4 (c : CF) (p q r s x y : AV) : S8_3 c namesO (ii 4) p q r s x y [] = opt2 (c 20 [nmO4, x, y] []) fun t60 h1 => opt (extractX t60 0) fun _ => opt (extractX t60 1) fun _ => opt2 (c 21 [nmO4, x] h1) fun t77 h2 => opt (extractX t77 0) fun t78 => opt (extractX t77 1) fun t79 => S8_0 c p q r s srcO4 t78 t79 h2 := by kernel_rfl

theorem uno1 (a b x d e : Int) (h : a % 7 = 4) : Ok5 a b x d e := by
  have o1 := part_ok b
  have o2 := part_ok x
  have o3 := part_ok d
  have o4 := part_ok e
  have f1 := fwd (okS o1)
  have f2 := fwd (okS o2)
  have f3 := fwd (okS o3)
  have f4 := fwd (okS o4)
  have hrun : ∀ (I : Nu) (r : AV) (T U : List (List AV × AV)), F8 (scall (@envW I srcO4 r T U) 299) (ii a) (ii b) (ii x) (ii d) (ii e) [] = S8_3 (scall (@envW I srcO4 r T U) 299) namesO (ii 4) (ii (b.tmod 1048577)) (ii (x.tmod 1048577)) (ii (d.tmod 1048577)) (ii (e.tmod 1048577)) (cx (wd (b.tmod 1048577)) (wd (x.tmod 1048577))) (cx (wd (d.tmod 1048577)) (wd (e.tmod 1048577))) [] := fun I r T U => by
    rw [o_run rfl rfl rfl rfl, h]
  generalize b.tmod 1048577 = B at *
  generalize x.tmod 1048577 = X at *
  generalize d.tmod 1048577 = D at *
  generalize e.tmod 1048577 = G at *
  obtain ⟨r, hr, g1⟩ := c_one 286 (op := 1) (by decide) (v := cx (wd B) (wd X)) ⟨_, _, rfl, f1, f2⟩ o1 o2
  have hno := c_twoNo 286 (nm := nmO4) (by simp) (v := cx (wd B) (wd X)) (w := cx (wd D) (wd G)) ⟨_, _, rfl, f1, f2⟩ ⟨_, _, rfl, f3, f4⟩ o1 o2 o3 o4
  obtain ⟨v, rfl, w1, w2, rfl, q1, q2⟩ := g1.val
  have ho : okP (oneX 1 B X) ∧ okP (oneY 1 B X) := by
    unfold okP at *; constructor <;> simp [oneX, oneY] <;> omega
  let I : Nu := nuO (wd B) (wd X) (wd D) (wd G) w1 w2 B X D G _ _ f1 f2 f3 f4 q1 q2
  have okE : SEnvOk (envO1 nmO4) := envO1_ok (envR_ok o1 o2 o3 o4 ho.1 ho.2 f1 f2 f3 f4 q1 q2) (hr [])
  refine ⟨I, envW srcO4 (ansV (.sym 1003)) [([nmO4, cx (wd B) (wd X), cx (wd D) (wd G)], .tup [cL, iL 1])] [([nmO4, cx (wd B) (wd X)], .tup [cx w1 w2, iL 0])], envW_ok okE rfl rfl run4 (fun q hq => by rcases List.mem_singleton.1 hq with rfl; exact hno []) (fun q hq => by rcases List.mem_singleton.1 hq with rfl; exact hr []), rfl, rfl, top_callO (hc := hpO (ansV (cx w1 w2))) rfl rfl ?_⟩
  have hT : scall (@envW I srcO4 (ansV (.sym 1003)) [([nmO4, cx (wd B) (wd X), cx (wd D) (wd G)], .tup [cL, iL 1])] [([nmO4, cx (wd B) (wd X)], .tup [cx w1 w2, iL 0])]) 299 20 [nmO4, cx (wd B) (wd X), cx (wd D) (wd G)] [] = some (.tup [cL, iL 1], []) := prim_call (n := 298) rfl rfl (symP_one rfl)
  have hU : scall (@envW I srcO4 (ansV (.sym 1003)) [([nmO4, cx (wd B) (wd X), cx (wd D) (wd G)], .tup [cL, iL 1])] [([nmO4, cx (wd B) (wd X)], .tup [cx w1 w2, iL 0])]) 299 21 [nmO4, cx (wd B) (wd X)] [] = some (.tup [cx w1 w2, iL 0], []) := prim_call (n := 298) rfl rfl (symP_one rfl)
  rw [hrun, o_k4, hT, opt2_s, x0, opt_s, x1, opt_s, hU, opt2_s, x0, opt_s, x1, opt_s]
  exact end_ok _ srcO4 (c_numW _ 298 rfl rfl B X []) (c_numW _ 298 rfl rfl D G []) (prim_call (n := 298) rfl rfl (symP_one rfl)) (fun h => prim_call (n := 298) rfl rfl (symP_one rfl)) (awO _ 298 rfl)

theorem o_k5 (c : CF) (p q r s x y : AV) : S8_3 c namesO (ii 5) p q r s x y [] = opt2 (c 20 [nmO5, x, y] []) fun t60 h1 => opt (extractX t60 0) fun _ => opt (extractX t60 1) fun _ => opt2 (c 21 [nmO5, x] h1) fun t77 h2 => opt (extractX t77 0) fun t78 => opt (extractX t77 1) fun t79 => S8_0 c p q r s srcO5 t78 t79 h2 := by kernel_rfl

theorem uno2 (a b x d e : Int) (h : a % 7 = 5) : Ok5 a b x d e := by
  have o1 := part_ok b
  have o2 := part_ok x
  have o3 := part_ok d
  have o4 := part_ok e
  have f1 := fwd (okS o1)
  have f2 := fwd (okS o2)
  have f3 := fwd (okS o3)
  have f4 := fwd (okS o4)
  have hrun : ∀ (I : Nu) (r : AV) (T U : List (List AV × AV)), F8 (scall (@envW I srcO5 r T U) 299) (ii a) (ii b) (ii x) (ii d) (ii e) [] = S8_3 (scall (@envW I srcO5 r T U) 299) namesO (ii 5) (ii (b.tmod 1048577)) (ii (x.tmod 1048577)) (ii (d.tmod 1048577)) (ii (e.tmod 1048577)) (cx (wd (b.tmod 1048577)) (wd (x.tmod 1048577))) (cx (wd (d.tmod 1048577)) (wd (e.tmod 1048577))) [] := fun I r T U => by
    rw [o_run rfl rfl rfl rfl, h]
  generalize b.tmod 1048577 = B at *
  generalize x.tmod 1048577 = X at *
  generalize d.tmod 1048577 = D at *
  generalize e.tmod 1048577 = G at *
  obtain ⟨r, hr, g1⟩ := c_one 286 (op := 2) (by decide) (v := cx (wd B) (wd X)) ⟨_, _, rfl, f1, f2⟩ o1 o2
  have hno := c_twoNo 286 (nm := nmO5) (by simp) (v := cx (wd B) (wd X)) (w := cx (wd D) (wd G)) ⟨_, _, rfl, f1, f2⟩ ⟨_, _, rfl, f3, f4⟩ o1 o2 o3 o4
  obtain ⟨v, rfl, w1, w2, rfl, q1, q2⟩ := g1.val
  have ho : okP (oneX 2 B X) ∧ okP (oneY 2 B X) := by
    unfold okP at *; constructor <;> simp [oneX, oneY] <;> omega
  let I : Nu := nuO (wd B) (wd X) (wd D) (wd G) w1 w2 B X D G _ _ f1 f2 f3 f4 q1 q2
  have okE : SEnvOk (envO1 nmO5) := envO1_ok (envR_ok o1 o2 o3 o4 ho.1 ho.2 f1 f2 f3 f4 q1 q2) (hr [])
  refine ⟨I, envW srcO5 (ansV (.sym 1003)) [([nmO5, cx (wd B) (wd X), cx (wd D) (wd G)], .tup [cL, iL 1])] [([nmO5, cx (wd B) (wd X)], .tup [cx w1 w2, iL 0])], envW_ok okE rfl rfl run5 (fun q hq => by rcases List.mem_singleton.1 hq with rfl; exact hno []) (fun q hq => by rcases List.mem_singleton.1 hq with rfl; exact hr []), rfl, rfl, top_callO (hc := hpO (ansV (cx w1 w2))) rfl rfl ?_⟩
  have hT : scall (@envW I srcO5 (ansV (.sym 1003)) [([nmO5, cx (wd B) (wd X), cx (wd D) (wd G)], .tup [cL, iL 1])] [([nmO5, cx (wd B) (wd X)], .tup [cx w1 w2, iL 0])]) 299 20 [nmO5, cx (wd B) (wd X), cx (wd D) (wd G)] [] = some (.tup [cL, iL 1], []) := prim_call (n := 298) rfl rfl (symP_one rfl)
  have hU : scall (@envW I srcO5 (ansV (.sym 1003)) [([nmO5, cx (wd B) (wd X), cx (wd D) (wd G)], .tup [cL, iL 1])] [([nmO5, cx (wd B) (wd X)], .tup [cx w1 w2, iL 0])]) 299 21 [nmO5, cx (wd B) (wd X)] [] = some (.tup [cx w1 w2, iL 0], []) := prim_call (n := 298) rfl rfl (symP_one rfl)
  rw [hrun, o_k5, hT, opt2_s, x0, opt_s, x1, opt_s, hU, opt2_s, x0, opt_s, x1, opt_s]
  exact end_ok _ srcO5 (c_numW _ 298 rfl rfl B X []) (c_numW _ 298 rfl rfl D G []) (prim_call (n := 298) rfl rfl (symP_one rfl)) (fun h => prim_call (n := 298) rfl rfl (symP_one rfl)) (awO _ 298 rfl)

theorem o_k6 (c : CF) (p q r s x y : AV) : S8_3 c namesO (ii 6) p q r s x y [] = opt2 (c 20 [nmO6, x, y] []) fun t60 h1 => opt (extractX t60 0) fun _ => opt (extractX t60 1) fun _ => opt2 (c 21 [nmO6, x] h1) fun t77 h2 => opt (extractX t77 0) fun t78 => opt (extractX t77 1) fun t79 => S8_0 c p q r s srcO6 t78 t79 h2 := by kernel_rfl

theorem uno3 (a b x d e : Int) (h : a % 7 = 6) : Ok5 a b x d e := by
  have o1 := part_ok b
  have o2 := part_ok x
  have o3 := part_ok d
  have o4 := part_ok e
  have f1 := fwd (okS o1)
  have f2 := fwd (okS o2)
  have f3 := fwd (okS o3)
  have f4 := fwd (okS o4)
  have hrun : ∀ (I : Nu) (r : AV) (T U : List (List AV × AV)), F8 (scall (@envW I srcO6 r T U) 299) (ii a) (ii b) (ii x) (ii d) (ii e) [] = S8_3 (scall (@envW I srcO6 r T U) 299) namesO (ii 6) (ii (b.tmod 1048577)) (ii (x.tmod 1048577)) (ii (d.tmod 1048577)) (ii (e.tmod 1048577)) (cx (wd (b.tmod 1048577)) (wd (x.tmod 1048577))) (cx (wd (d.tmod 1048577)) (wd (e.tmod 1048577))) [] := fun I r T U => by
    rw [o_run rfl rfl rfl rfl, h]
  generalize b.tmod 1048577 = B at *
  generalize x.tmod 1048577 = X at *
  generalize d.tmod 1048577 = D at *
  generalize e.tmod 1048577 = G at *
  obtain ⟨r, hr, g1⟩ := c_one 286 (op := 3) (by decide) (v := cx (wd B) (wd X)) ⟨_, _, rfl, f1, f2⟩ o1 o2
  have hno := c_twoNo 286 (nm := nmO6) (by simp) (v := cx (wd B) (wd X)) (w := cx (wd D) (wd G)) ⟨_, _, rfl, f1, f2⟩ ⟨_, _, rfl, f3, f4⟩ o1 o2 o3 o4
  obtain ⟨v, rfl, w1, w2, rfl, q1, q2⟩ := g1.val
  have ho : okP (oneX 3 B X) ∧ okP (oneY 3 B X) := by
    unfold okP at *; constructor <;> simp [oneX, oneY] <;> omega
  let I : Nu := nuO (wd B) (wd X) (wd D) (wd G) w1 w2 B X D G _ _ f1 f2 f3 f4 q1 q2
  have okE : SEnvOk (envO1 nmO6) := envO1_ok (envR_ok o1 o2 o3 o4 ho.1 ho.2 f1 f2 f3 f4 q1 q2) (hr [])
  refine ⟨I, envW srcO6 (ansV (.sym 1003)) [([nmO6, cx (wd B) (wd X), cx (wd D) (wd G)], .tup [cL, iL 1])] [([nmO6, cx (wd B) (wd X)], .tup [cx w1 w2, iL 0])], envW_ok okE rfl rfl run6 (fun q hq => by rcases List.mem_singleton.1 hq with rfl; exact hno []) (fun q hq => by rcases List.mem_singleton.1 hq with rfl; exact hr []), rfl, rfl, top_callO (hc := hpO (ansV (cx w1 w2))) rfl rfl ?_⟩
  have hT : scall (@envW I srcO6 (ansV (.sym 1003)) [([nmO6, cx (wd B) (wd X), cx (wd D) (wd G)], .tup [cL, iL 1])] [([nmO6, cx (wd B) (wd X)], .tup [cx w1 w2, iL 0])]) 299 20 [nmO6, cx (wd B) (wd X), cx (wd D) (wd G)] [] = some (.tup [cL, iL 1], []) := prim_call (n := 298) rfl rfl (symP_one rfl)
  have hU : scall (@envW I srcO6 (ansV (.sym 1003)) [([nmO6, cx (wd B) (wd X), cx (wd D) (wd G)], .tup [cL, iL 1])] [([nmO6, cx (wd B) (wd X)], .tup [cx w1 w2, iL 0])]) 299 21 [nmO6, cx (wd B) (wd X)] [] = some (.tup [cx w1 w2, iL 0], []) := prim_call (n := 298) rfl rfl (symP_one rfl)
  rw [hrun, o_k6, hT, opt2_s, x0, opt_s, x1, opt_s, hU, opt2_s, x0, opt_s, x1, opt_s]
  exact end_ok _ srcO6 (c_numW _ 298 rfl rfl B X []) (c_numW _ 298 rfl rfl D G []) (prim_call (n := 298) rfl rfl (symP_one rfl)) (fun h => prim_call (n := 298) rfl rfl (symP_one rfl)) (awO _ 298 rfl)

theorem ops_ok (a b x d e : Int) : ∃ (I : Nu) (E : SEnv), @SEnvOk I E ∧ E.P = Tryz.prog ∧ E.gl = gl ∧ scall E 300 8 [ii a, ii b, ii x, ii d, ii e] [] = some (tL, []) := by
  rcases (by omega : a % 7 = 0 ∨ a % 7 = 1 ∨ a % 7 = 2 ∨ a % 7 = 3 ∨ a % 7 = 4 ∨ a % 7 = 5 ∨ a % 7 = 6) with h | h | h | h | h | h | h
  · exact two0 a b x d e h
  · exact two1 a b x d e h
  · exact two2 a b x d e h
  · exact uno0 a b x d e h
  · exact uno1 a b x d e h
  · exact uno2 a b x d e h
  · exact uno3 a b x d e h

end Go.Proofs.YtkkjoomlfmofbaaGreatDoor

namespace Go.Proofs.YtkkjoomlfmofbaaGreatDoor.topOps
open Go.ChangeShapes Go.WideShapes Go.ChangeAt Go.RowKit
open Go.Am
set_option linter.unusedVariables false
set_option maxRecDepth 100000

section
variable {H : Type} {enc : TypeId × Value → H} {P : Program} {w : World} {base : Nat} {spare : Nat → Bool} {held : Bool}
theorem trodAll_five {t0 t1 t2 t3 t4 : TypeId} {args : Array Value} {ds : List (DataW H)} {ps : List MemPlace} (h : DataW.TrodAll enc P w base spare held [t0, t1, t2, t3, t4] args.toList ds ps) :
    ∃ v0 v1 v2 v3 v4 d0 d1 d2 d3 d4 p0 p1 p2 p3 p4, args = #[v0, v1, v2, v3, v4] ∧ ds = [d0, d1, d2, d3, d4] ∧ ps = p0 ++ p1 ++ p2 ++ p3 ++ p4 ∧ DataW.Trod enc P w base spare held t0 v0 d0 p0 ∧ DataW.Trod enc P w base spare held t1 v1 d1 p1 ∧ DataW.Trod enc P w base spare held t2 v2 d2 p2 ∧ DataW.Trod enc P w base spare held t3 v3 d3 p3 ∧ DataW.Trod enc P w base spare held t4 v4 d4 p4 := by
  obtain ⟨v0, vs0, d0, e0, p0, q0, hargs, rfl, rfl, hd0, hr0⟩ := trodAll_cons h
  obtain ⟨v1, vs1, d1, e1, p1, q1, rfl, rfl, rfl, hd1, hr1⟩ := trodAll_cons hr0
  obtain ⟨v2, vs2, d2, e2, p2, q2, rfl, rfl, rfl, hd2, hr2⟩ := trodAll_cons hr1
  obtain ⟨v3, vs3, d3, e3, p3, q3, rfl, rfl, rfl, hd3, hr3⟩ := trodAll_cons hr2
  obtain ⟨v4, vs4, d4, e4, p4, q4, rfl, rfl, rfl, hd4, hr4⟩ := trodAll_cons hr3
  obtain ⟨rfl, rfl, rfl⟩ := trodAll_nil hr4
  exact ⟨v0, v1, v2, v3, v4, d0, d1, d2, d3, d4, p0, p1, p2, p3, p4, by cases args; simp_all, rfl, by simp, hd0, hd1, hd2, hd3, hd4⟩
end

theorem walk (a0 : Int) (a1 : Int) (a2 : Int) (a3 : Int) (a4 : Int) (w0 : (Lit.int .i64 a0).wf = true) (w1 : (Lit.int .i64 a1).wf = true) (w2 : (Lit.int .i64 a2).wf = true) (w3 : (Lit.int .i64 a3).wf = true) (w4 : (Lit.int .i64 a4).wf = true) (w : World) (hl : laidMetH Tryz.prog Rows.topOpsRow.laid w) : Calls Tryz.prog 8 #[.int .i64 a0, .int .i64 a1, .int .i64 a2, .int .i64 a3, .int .i64 a4] w fun e w' => e = .returned (.bool true) ∧ Below w.heap.size w w' := by
  obtain ⟨I, E, ok, hP, hgl, hr⟩ := ops_ok a0 a1 a2 a3 a4
  letI := I
  obtain ⟨J, h1, h2⟩ := globs (h := hl)
  rw [← hP]
  exact scall_lits ok (n := 300) (f := 8) (args := [.int .i64 a0, .int .i64 a1, .int .i64 a2, .int .i64 a3, .int .i64 a4]) (fun v hv => by
    simp only [List.mem_cons, List.not_mem_nil, or_false] at hv
    rcases hv with rfl | rfl | rfl | rfl | rfl <;> rfl) hr w h1 (by rw [hgl]; exact h2)

theorem contract (H : Type) (enc : TypeId × Value → H) (W : World) (base : Nat) (args : Array Value) (ds gs : List (DataW H)) (before : List MemPlace)
    (hval0 : ∀ (j : Nat) t v, Tryz.f8.params[j]? = some t → args[j]? = some v → Value.okWide Tryz.prog W .any base t v)
    (hW : DataW.Whole enc Tryz.prog Tryz.f8.params.toList Rows.topOpsSpec.vars false W args.toList ds gs before) (hL : laidMetH Tryz.prog Rows.topOpsRow.laid W) :
    Calls Tryz.prog 8 args W fun e W' => ∃ v, e = .returned v ∧ Rows.topOpsSpec.post enc Tryz.prog Tryz.f8 false true false false W args v W' := by
  have hval : ∀ (j : Nat) t v, Tryz.f8.params[j]? = some t → args[j]? = some v → Value.okWide Tryz.prog W .any base t v := hval0
  have hW' := hW
  obtain ⟨p, q, hA0, hV, rfl, hfz, hnd⟩ := hW
  have hA : DataW.TrodAll enc Tryz.prog W 0 (fun _ => true) true Tryz.f8.params.toList args.toList ds p := hA0
  rw [Tryz.params8] at hA hval
  obtain ⟨v0, v1, v2, v3, v4, d0, d1, d2, d3, d4, p0, p1, p2, p3, p4, rfl, rfl, rfl, h0, h1, h2, h3, h4⟩ := trodAll_five hA
  obtain ⟨rfl, rfl⟩ := trodVars_none hV
  obtain ⟨a0, rfl, rfl, rfl, w0⟩ := open_int Tryz.underlying3 (hval 0 3 v0 rfl rfl) h0
  obtain ⟨a1, rfl, rfl, rfl, w1⟩ := open_int Tryz.underlying3 (hval 1 3 v1 rfl rfl) h1
  obtain ⟨a2, rfl, rfl, rfl, w2⟩ := open_int Tryz.underlying3 (hval 2 3 v2 rfl rfl) h2
  obtain ⟨a3, rfl, rfl, rfl, w3⟩ := open_int Tryz.underlying3 (hval 3 3 v3 rfl rfl) h3
  obtain ⟨a4, rfl, rfl, rfl, w4⟩ := open_int Tryz.underlying3 (hval 4 3 v4 rfl rfl) h4
  clear hA0 hval0
  simp only [List.append_nil] at hW'
  refine (walk a0 a1 a2 a3 a4 w0 w1 w2 w3 w4 W hL).mono fun e W' ⟨he, hg⟩ => ?_
  subst he
  exact ⟨_, rfl, post_of_below (pa := []) (pv := []) hW' (fun _ _ _ => (trodAll_cons_mk (shut_bool Tryz.underlying4 _) trodAll_mk0)) (fun sp _ => (trodAll_cons_mk (shut_int Tryz.underlying3 w0) (trodAll_cons_mk (shut_int Tryz.underlying3 w1) (trodAll_cons_mk (shut_int Tryz.underlying3 w2) (trodAll_cons_mk (shut_int Tryz.underlying3 w3) (trodAll_cons_mk (shut_int Tryz.underlying3 w4) trodAll_mk0)))))) (fun _ _ => rfl) rfl
    hg (ok_one (by kernel_rfl) rfl (okWide_bool_mk Tryz.underlying4 _))⟩

/-- A world in which the listed variables hold what the program's text lays: four blocks more. -/
noncomputable def laidWorld (os : Os) : World :=
  let N := (World.settled Tryz.prog os).heap.size
  let w0 := World.holding Tryz.prog os ⟨#[.cells (Lib.whiteT.map fun (z : Nat) => Value.int .u16 (z : Int)).toArray 623, .cells #[.slice (some ⟨N, 0, none⟩) 7 7, .slice none 0 0, .int .i64 2] 620, .cells #[.string ⟨#[105, 110, 118, 97, 108, 105, 100, 32, 115, 121, 110, 116, 97, 120]⟩] 654, .cells #[.string ⟨#[118, 97, 108, 117, 101, 32, 111, 117, 116, 32, 111, 102, 32, 114, 97, 110, 103, 101]⟩] 654], #[.int .i64 0, .int .i64 0, .int .i64 0, .int .i64 0, .int .i64 0], []⟩
  let put (h : Array Obj) (g : Nat) (cs : Array Value) : Array Obj := h.modify g fun
    | .cells _ t frozen => .cells cs t frozen
    | o => o
  { w0 with heap := put (put (put (put (put (put (put w0.heap 1 (spaceTab.map fun z => Value.int .u8 z).toArray) 3 #[.pointer (some ⟨N + 1, 0, none⟩)]) 4 #[.iface 652 (.pointer (some ⟨N + 2, 0, none⟩))]) 5 #[.iface 652 (.pointer (some ⟨N + 3, 0, none⟩))]) 6 (cellsD Rows.laid_internal_strconv_uint64pow10)) 7 (cellsD Rows.laid_math_bits_deBruijn32tab)) 8 (cellsD Rows.laid_math_bits_deBruijn64tab) }

theorem laid_met (os : Os) : laidMet Tryz.prog Rows.topOpsRow.laid ((laidWorld os).forCall (fun _ _ => 0) ⟨#[], #[.int .i64 0, .int .i64 0, .int .i64 0, .int .i64 0, .int .i64 0], []⟩).memory :=
  laidMet_of_run3 12 (by kernel_rfl) (by kernel_rfl) (by kernel_rfl)
theorem reads (os : Os) {H : Type} (enc : TypeId × Value → H) : ∃ places, DataW.whole enc Tryz.prog ((laidWorld os).forCall (fun _ _ => 0) ⟨#[], #[.int .i64 0, .int .i64 0, .int .i64 0, .int .i64 0, .int .i64 0], []⟩).memory Tryz.f8.params.toList Rows.topOpsSpec.vars false (#[.int .i64 0, .int .i64 0, .int .i64 0, .int .i64 0, .int .i64 0] : Array Value).toList 8 = some ([.lit (.int .i64 0), .lit (.int .i64 0), .lit (.int .i64 0), .lit (.int .i64 0), .lit (.int .i64 0)], [], places) :=
  ⟨[], by kernel_rfl⟩

theorem lifted (os : Os) (started : os.Started) (H : Type) (enc : TypeId × Value → H) (F : Stop.Interp) :
    ReturnsInHanded {} Tryz.checked os 8 .any ((OpenSpec.ofChange Rows.topOpsSpec).preRow enc Tryz.prog Tryz.f8 Rows.topOpsRow.domain false Rows.topOpsRow.laid) (((OpenSpec.ofChange Rows.topOpsSpec).at F).post enc Tryz.prog Tryz.f8 false true false false) := by
  obtain ⟨places, hx⟩ := reads os enc
  refine returnsInHanded_of_row (C := Tryz.checked) (s := OpenSpec.ofChange Rows.topOpsSpec) own started (by kernel_rfl) Tryz.func8
    (by
      obtain ⟨w, tape, i, h1, h2, h3, h4, h5, h6, _⟩ := OpenSpec.witness_stopped_atRef (enc := enc) (C := Tryz.checked) (os := os) (f := 8) (fn := Tryz.f8) (s := OpenSpec.ofChange Rows.topOpsSpec) (conds := Rows.topOpsRow.domain) (apart := false) (laid := Rows.topOpsRow.laid) false (laidWorld os) #[.int .i64 0, .int .i64 0, .int .i64 0, .int .i64 0, .int .i64 0] rfl (by kernel_rfl) (by kernel_rfl) (by kernel_rfl)
        (OpenSpec.preRow_of_cond 8 hx (by kernel_rfl) (fun k hk => by cases hk) (by kernel_rfl) (laid_met os)) (fun _ _ _ => 0)
      exact ⟨w, tape, i, h1, h2, h3, h4, h5, h6⟩) ?_
  intro W base args ds gs before hval hW _ _ _ hL _ _
  exact contract H enc W base args ds gs before hval hW hL

theorem said : Rows.TopOpsSaid :=
  OpenClaim.holds_of_cond 8 Tryz.f8 rfl rfl rfl rfl rfl rfl rfl ⟨rfl, rfl, rfl, rfl, rfl⟩ rfl rfl rfl rfl rfl (by kernel_rfl) Tryz.func8 closed
    (of_decide_eq_true (by kernel_rfl)) (by unfold Func.isWrapper; first | (rw [if_pos (by decide +kernel)]; kernel_rfl) | (rw [if_neg (by decide +kernel)]; exact ⟨rfl, rfl⟩))
    (fun os started H enc _ F => by rw [OpenClaim.pre_eq_preRow]; exact lifted os started H enc F)

theorem plain (f : FuncId) (fn : Func) (hf : Tryz.pinned.checked.prog.funcNamed "hawser/hawsertop.TopOps" = some f) (hfn : Tryz.pinned.checked.prog.funcs[f]? = some fn) :
    true = Tryz.pinned.checked.prog.looks [] ∧ ∀ (j : Nat) t, fn.params[j]? = some t → Tryz.pinned.checked.prog.wantsStandIn t = false := by
  obtain rfl : f = 8 := Option.some.inj ((show Tryz.prog.funcNamed "hawser/hawsertop.TopOps" = some 8 by kernel_rfl).symm.trans hf) |>.symm
  obtain rfl : fn = Tryz.f8 := (Option.some.inj (Tryz.func8.symm.trans hfn)).symm
  refine ⟨by kernel_rfl, fun j t ht => ?_⟩
  rw [Tryz.params8] at ht
  match j, ht with
  | 0, ht =>
    have e : t = 3 := (Option.some.inj ht).symm
    subst e
    exact (show Tryz.prog.wantsStandIn 3 = false by kernel_rfl)
  | 1, ht =>
    have e : t = 3 := (Option.some.inj ht).symm
    subst e
    exact (show Tryz.prog.wantsStandIn 3 = false by kernel_rfl)
  | 2, ht =>
    have e : t = 3 := (Option.some.inj ht).symm
    subst e
    exact (show Tryz.prog.wantsStandIn 3 = false by kernel_rfl)
  | 3, ht =>
    have e : t = 3 := (Option.some.inj ht).symm
    subst e
    exact (show Tryz.prog.wantsStandIn 3 = false by kernel_rfl)
  | 4, ht =>
    have e : t = 3 := (Option.some.inj ht).symm
    subst e
    exact (show Tryz.prog.wantsStandIn 3 = false by kernel_rfl)
  | j + 5, ht => simp at ht

theorem card : Rows.TopOpsCardSaid :=
  Claim7.holds_tied_plain_at .later [] _ _ _ _ said (fun _ h => by cases h) (by as_aux_lemma => kernel_rfl) (fun _ h => by cases h) topOps_row_tie rfl ⟨rfl, rfl⟩ (by as_aux_lemma => kernel_rfl) rfl plain (goesF rfl)
#print axioms card
end Go.Proofs.YtkkjoomlfmofbaaGreatDoor.topOps
