import Derived.Test.YtkkjoomlfmofbaaGreatDoorProg
import Derived.Test.YtkkjoomlfmofbaaGreatDoorAmW
import Derived.Lib.ItoaNum
import Derived.KernelRfl
set_option linter.unusedSectionVars false
namespace Go.Proofs.YtkkjoomlfmofbaaGreatDoor
open Go.Am
set_option maxRecDepth 100000
set_option linter.unusedSimpArgs false
set_option linter.unusedVariables false
@[reducible] noncomputable def P0 : Program := Tryz.prog
def spaceTab : List Int := [0, 0, 0, 0, 0, 0, 0, 0, 0, 1, 1, 1, 1, 1, 0, 0, 0, 0, 0, 0, 0, 0, 0, 0, 0, 0, 0, 0, 0, 0, 0, 0, 1, 0, 0, 0, 0, 0, 0, 0, 0, 0, 0, 0, 0, 0, 0, 0, 0, 0, 0, 0, 0, 0, 0, 0, 0, 0, 0, 0, 0, 0, 0, 0, 0, 0, 0, 0, 0, 0, 0, 0, 0, 0, 0, 0, 0, 0, 0, 0, 0, 0, 0, 0, 0, 0, 0, 0, 0, 0, 0, 0, 0, 0, 0, 0, 0, 0, 0, 0, 0, 0, 0, 0, 0, 0, 0, 0, 0, 0, 0, 0, 0, 0, 0, 0, 0, 0, 0, 0, 0, 0, 0, 0, 0, 0, 0, 0, 0, 0, 0, 0, 0, 0, 0, 0, 0, 0, 0, 0, 0, 0, 0, 0, 0, 0, 0, 0, 0, 0, 0, 0, 0, 0, 0, 0, 0, 0, 0, 0, 0, 0, 0, 0, 0, 0, 0, 0, 0, 0, 0, 0, 0, 0, 0, 0, 0, 0, 0, 0, 0, 0, 0, 0, 0, 0, 0, 0, 0, 0, 0, 0, 0, 0, 0, 0, 0, 0, 0, 0, 0, 0, 0, 0, 0, 0, 0, 0, 0, 0, 0, 0, 0, 0, 0, 0, 0, 0, 0, 0, 0, 0, 0, 0, 0, 0, 0, 0, 0, 0, 0, 0, 0, 0, 0, 0, 0, 0, 0, 0, 0, 0, 0, 0, 0, 0, 0, 0, 0, 0, 0, 0, 0, 0, 0, 0]
def gl : Tr := Tr.set 64 (Tr.set 64 (Tr.set 64 .leaf (4294967297 + 4) (.iptr (.agg [.iface 652 .junk]) 0)) (4294967297 + 6) (tabAV .u64 Lib.pow10Tab)) (4294967297 + 1) (tabAV .u8 spaceTab)
theorem gl_space : gl.get (4294967297 + 1) = tabAV .u8 spaceTab := by
  unfold gl
  rw [Tr.set_get 64 _ _ _ _ (by omega), if_pos rfl]
theorem gl_pow : gl.get (4294967297 + 6) = tabAV .u64 Lib.pow10Tab := by
  unfold gl
  rw [Tr.set_get 64 _ _ _ _ (by omega), if_neg (by omega), Tr.set_get 64 _ _ _ _ (by omega), if_pos rfl]
theorem gl_err : gl.get (4294967297 + 4) = .iptr (.agg [.iface 652 .junk]) 0 := by
  unfold gl
  rw [Tr.set_get 64 _ _ _ _ (by omega), if_neg (by omega), Tr.set_get 64 _ _ _ _ (by omega), if_neg (by omega), Tr.set_get 64 _ _ _ _ (by omega), if_pos rfl]
theorem lowOk : ∀ i, i ≤ 4294967296 → gl.get i = .lit undef := low_put (by omega) (low_put (by omega) (low_put (by omega) (fun i _ => Tr.get_leaf i)))
theorem names : (Tryz.prog.funcs.toList.all fun fn => !(fn.body.isSome && (fn.name == "runtime.NumGoroutine"))) = true := by kernel_rfl
theorem namesOk : NamesOk Tryz.prog := by
  intro f fn h hb
  have hm : fn ∈ Tryz.prog.funcs.toList := Array.mem_toList_iff.2 (Array.mem_of_getElem? h)
  have := List.all_eq_true.1 names fn hm
  simp only [hb, Bool.true_and, Bool.not_eq_true'] at this
  exact this
theorem mixedOrders : Tryz.prog.follows .mixedOrders = true := by kernel_rfl
noncomputable def c3 : Code := codeOf Tryz.f3
noncomputable def k3 : Kt := finK P0 Tryz.f3.results.toList
def d3 : List Nat := []
noncomputable def S3_0 (c : CF) (t1 t5 t6 t7 : AV) (h : Heap) : Res := opt (fastBin .add (sL [40,102,117,110,32,102,32,40,41,32,110,117,109,32,40,97,100,100,32]) t5) fun t13 => opt (fastBin .add t13 (sL [32])) fun t14 => opt (fastBin .add t14 t6) fun t16 => opt (fastBin .add t16 (sL [41,41])) fun t17 => opt (fastBin .add (sL [40,102,117,110,32,103,32,40,40,120,32,110,117,109,41,32,40,121,32,110,117,109,41,41,32,110,117,109,32,120,41,32,40,102,117,110,32,102,32,40,41,32,110,117,109,32,40,103,32]) t5) fun t19 => opt (fastBin .add t19 (sL [32])) fun t20 => opt (fastBin .add t20 t6) fun t22 => opt (fastBin .add t22 (sL [41,41])) fun t23 => opt (fastBin .add (sL [40,102,117,110,32,102,32,40,41,32,110,117,109,32,40,97,116,32,40,97,114,114,97,121,32,110,117,109,32]) t5) fun t25 => opt (fastBin .add t25 (sL [32])) fun t26 => opt (fastBin .add t26 t6) fun t28 => opt (fastBin .add t28 (sL [41,32,48,41,41])) fun t29 => opt (fastBin .add (sL [40,116,121,112,101,32,84,32,40,65,32,110,117,109,32,110,117,109,41,41,32,40,102,117,110,32,102,32,40,41,32,84,32,40,65,32]) t5) fun t31 => opt (fastBin .add t31 (sL [32])) fun t32 => opt (fastBin .add t32 t6) fun t34 => opt (fastBin .add t34 (sL [41,41])) fun t35 => opt (fastBin .add (sL [40,102,117,110,32,102,32,40,41,32,110,117,109,32,40,108,101,116,32,120,32]) t5) fun t37 => opt (fastBin .add t37 (sL [32])) fun t38 => opt (fastBin .add t38 t6) fun t40 => opt (fastBin .add t40 (sL [41,41])) fun t41 => opt (fastBin .add (sL [40,102,117,110,32,102,32,40,41,32,110,117,109,32,40,99,97,108,108,32,40,102,110,32,40,40,120,32,110,117,109,41,32,40,121,32,110,117,109,41,41,32,110,117,109,32,49,41,32]) t5) fun t43 => opt (fastBin .add t43 (sL [32])) fun t44 => opt (fastBin .add t44 t6) fun t46 => opt (fastBin .add t46 (sL [41,41])) fun t47 => opt (fastBin .add (sL [40,99,111,110,115,116,32,99,32,110,117,109,32]) t5) fun t49 => opt (fastBin .add t49 (sL [41,32,40,99,111,110,115,116,32,100,32,110,117,109,32])) fun t50 => opt (fastBin .add t50 t6) fun t52 => opt (fastBin .add t52 (sL [41,32,40,102,117,110,32,102,32,40,41,32,110,117,109,32,49,41])) fun t53 => opt2 (bsliceX 1 eL 7 [(0,t17),(1,t23),(2,t29),(3,t35),(4,t41),(5,t47),(6,t53)] h) fun t54 h1 => opt (lenS t54) fun t58 => opt (fastBin .sub t58 (iL 1)) fun t59 => opt2 (c 11 [t1,(iL 0),t59] h1) fun t60 h2 => opt (indexAddrS 1 t54 t60 h2) fun t61 => opt (loadX none t61 h2) fun t62 => opt2 (c 10 [t62,nL] h2) fun t63 h3 => opt (fieldX none 0 t63) fun t64 => opt (fastBin .eql t64 t7) fun t66 => test t66 (opt2 (c 12 [] h3) fun t68 h4 => some (t68,h4)) (some (fL,h3))
theorem TS3_0 (c : CF) : (rk d3 P0 c 70 c3.s5).1 k3 [] k3 gK = L4 (S3_0 c) 1 5 6 7 := by funext s h; kernel_rfl
noncomputable def S3_1 (c : CF) (t0 t1 t5 t6 t7 : AV) (h : Heap) : Res := test t0 (S3_0 c t1 t6 t5 (iL 44) h) (S3_0 c t1 t5 t6 t7 h)
theorem TS3_1 (c : CF) : (rk d3 P0 c 70 c3.s4).1 k3 [] k3 gK = L5 (S3_1 c) 0 1 5 6 7 := Eq.trans (seq_t (by kernel_rfl) (TS3_0 c) rfl) (by funext s h; kernel_rfl)
noncomputable def S3_2 (c : CF) (t0 t1 t5 t6 : AV) (h : Heap) : Res := S3_1 c t0 t1 t5 t6 (iL 45) h
theorem TS3_2 (c : CF) : (rk d3 P0 c 70 c3.s3).1 k3 [] k3 gK = L4 (S3_2 c) 0 1 5 6 := Eq.trans (seq_t (by kernel_rfl) (TS3_1 c) rfl) (by funext s h; kernel_rfl)
noncomputable def S3_3 (c : CF) (t0 t1 t5 : AV) (h : Heap) : Res := S3_2 c t0 t1 t5 (sL [40,109,117,108,32,49,48,48,48,48,48,48,32,49,48,48,48,48,48,48,41]) h
theorem TS3_3 (c : CF) : (rk d3 P0 c 70 c3.s2).1 k3 [] k3 gK = L3 (S3_3 c) 0 1 5 := Eq.trans (seq_t (by kernel_rfl) (TS3_2 c) rfl) (by funext s h; kernel_rfl)
noncomputable def S3_4 (c : CF) (t0 t1 : AV) (h : Heap) : Res := S3_3 c t0 t1 (sL [40,97,116,32,34,34,32,48,41]) h
theorem TS3_4 (c : CF) : (rk d3 P0 c 70 c3.snd).1 k3 [] k3 gK = L2 (S3_4 c) 0 1 := Eq.trans (seq_t (by kernel_rfl) (TS3_3 c) rfl) (by funext s h; kernel_rfl)
noncomputable def F3 (c : CF) (a0 a1 : AV) (h : Heap) : Res := S3_4 c a0 a1 h
theorem TF3 (c : CF) (a0 a1 : AV) (h : Heap) : (rk d3 P0 c 70 c3).1 k3 [] k3 gK (argsTr gl 0 [a0,a1]) h = F3 c a0 a1 h := Eq.trans (congrFun (congrFun (seq_t (by kernel_rfl) (TS3_4 c) rfl) _) _) (by kernel_rfl)
noncomputable def N3 : FnF := n2 F3
theorem N3_ok [Nu] : FnOk P0 gl 3 N3 := n2_ok namesOk mixedOrders lowOk Tryz.func3 (by kernel_rfl) (by kernel_rfl) (by kernel_rfl) TF3
noncomputable def c4 : Code := codeOf Tryz.f4
noncomputable def k4 : Kt := finK P0 Tryz.f4.results.toList
def d4 : List Nat := []
noncomputable def F4 (c : CF) (a0 a1 a2 : AV) (h : Heap) : Res := opt2 (bsliceX 1 eL 4 [(0,(sL [40,97,116,32,34,34,32,48,41])),(1,(sL [40,109,117,108,32,49,48,48,48,48,48,48,32,49,48,48,48,48,48,48,41])),(2,(sL [40,102,32,120,41])),(3,(sL [40,108,101,110,32,40,99,117,116,32,34,97,34,32,50,32,49,41,41]))] h) fun t10 h1 => opt (lenS t10) fun t14 => opt (fastBin .sub t14 (iL 1)) fun t15 => opt2 (c 11 [a2,(iL 0),t15] h1) fun t16 h2 => opt (indexAddrS 1 t10 t16 h2) fun t17 => opt (loadX none t17 h2) fun t18 => opt (binX P0 .none .rem 3 a0 (iL 3)) fun t20 => opt (binX P0 .none .rem 3 a1 (iL 3)) fun t22 => opt2 (c 13 [t20,t22] h2) fun t23 h3 => opt2 (box (.agg [(iL 0),(iL 0),cL,nL,nL]) h3) fun t9 h4 => optH (storeX 5 t9 t23 h4) fun h5 => opt (fieldAddrX 2 t9) fun t24 => opt (loadX none t24 h5) fun t25 => opt (binX P0 .none .eql 24 t25 cL) fun t26 => test t26 (opt (fastBin .add (sL [40,102,117,110,32,102,32,40,40,120,32,110,117,109,41,41,32,110,117,109,32,40,105,102,32,120,32]) t18) fun t28 => opt (fastBin .add t28 (sL [32,53,41,41])) fun t29 => opt (loadX (some 5) t9 h5) fun t30 => opt2 (bsliceX 5 (.agg [(iL 0),(iL 0),cL,nL,nL]) 1 [(0,t30)] h5) fun t31 h6 => opt2 (c 10 [t29,t31] h6) fun t32 h7 => opt2 (c 13 [(iL 5),(iL 0)] h7) fun t33 h8 => opt2 (c 14 [t32,t33] h8) fun t34 h9 => test t34 (opt2 (c 12 [] h9) fun t36 h10 => some (t36,h10)) (some (fL,h9))) (opt (fastBin .add (sL [40,102,117,110,32,102,32,40,40,120,32,110,117,109,41,41,32,110,117,109,32,40,105,102,32,120,32,54,32]) t18) fun t39 => opt (fastBin .add t39 (sL [41,41])) fun t40 => opt (loadX (some 5) t9 h5) fun t41 => opt2 (bsliceX 5 (.agg [(iL 0),(iL 0),cL,nL,nL]) 1 [(0,t41)] h5) fun t42 h11 => opt2 (c 10 [t40,t42] h11) fun t43 h12 => opt2 (c 13 [(iL 6),(iL 0)] h12) fun t44 h13 => opt2 (c 14 [t43,t44] h13) fun t45 h14 => test t45 (opt2 (c 12 [] h14) fun t47 h15 => some (t47,h15)) (some (fL,h14)))
theorem TF4 (c : CF) (a0 a1 a2 : AV) (h : Heap) : (rk d4 P0 c 49 c4).1 k4 [] k4 gK (argsTr gl 0 [a0,a1,a2]) h = F4 c a0 a1 a2 h := by kernel_rfl
noncomputable def N4 : FnF := n3 F4
theorem N4_ok [Nu] : FnOk P0 gl 4 N4 := n3_ok namesOk mixedOrders lowOk Tryz.func4 (by kernel_rfl) (by kernel_rfl) (by kernel_rfl) TF4
noncomputable def c5 : Code := codeOf Tryz.f5
noncomputable def k5 : Kt := finK P0 Tryz.f5.results.toList
def d5 : List Nat := []
noncomputable def F5 (c : CF) (a0 a1 a2 : AV) (h : Heap) : Res := opt2 (c 15 [a0] h) fun t11 h1 => opt2 (c 15 [a1] h1) fun t13 h2 => opt2 (c 15 [a2] h2) fun t15 h3 => opt2 (bsliceX 1 eL 1 [(0,(sL [40,109,111,100,117,108,101,32,109,32,40,101,120,112,111,114,116,32,102,41,32,40,102,117,110,32,97,100,100,101,114,32,40,40,120,32,110,117,109,41,41,32,40,102,110,32,40,110,117,109,41,32,110,117,109,41,32,40,102,110,32,40,40,121,32,110,117,109,41,41,32,110,117,109,32,40,97,100,100,32,120,32,40,109,117,108,32,121,32,50,41,41,41,41,32,40,102,117,110,32,116,119,105,99,101,32,40,40,103,32,40,102,110,32,40,110,117,109,41,32,110,117,109,41,41,32,40,118,32,110,117,109,41,41,32,110,117,109,32,40,99,97,108,108,32,103,32,40,99,97,108,108,32,103,32,118,41,41,41,32,40,102,117,110,32,102,32,40,40,120,32,110,117,109,41,32,40,121,32,110,117,109,41,32,40,122,32,110,117,109,41,41,32,110,117,109,32,40,108,101,116,32,112,32,40,97,100,100,101,114,32,120,41,32,40,108,101,116,32,113,32,40,97,100,100,101,114,32,121,41,32,40,97,100,100,32,40,99,97,108,108,32,112,32,122,41,32,40,116,119,105,99,101,32,113,32,122,41,41,41,41,41,41]))] h3) fun t17 h4 => opt2 (c 13 [t11,(iL 0)] h4) fun t19 h5 => opt2 (c 13 [t13,(iL 0)] h5) fun t21 h6 => opt2 (c 13 [t15,(iL 0)] h6) fun t23 h7 => opt2 (bsliceX 5 (.agg [(iL 0),(iL 0),cL,nL,nL]) 3 [(0,t19),(1,t21),(2,t23)] h7) fun t24 h8 => opt2 (c 16 [t17,(sL [109,46,102]),t24,(iL 262144),(iL 16384)] h8) fun t25 h9 => opt2 (box (.agg [(iL 0),(iL 0),(iL 0),cL,nL,nL]) h9) fun t8 h10 => optH (storeX 6 t8 t25 h10) fun h11 => opt (fastBin .mul (iL 2) t15) fun t28 => opt (fastBin .add t11 t28) fun t29 => opt (fastBin .add t29 t13) fun t31 => opt (fastBin .mul (iL 2) t15) fun t34 => opt (fastBin .add t13 t34) fun t35 => opt (fastBin .mul (iL 2) t35) fun t36 => opt (fastBin .add t31 t36) fun t37 => opt (loadX (some 6) t8 h11) fun t38 => eqH h11 h11 (opt2 (c 13 [t37,(iL 0)] h11) fun t40 h12 => eqH h12 h11 (opt (buildX [(iL 0),(iL 0),(iL 0),cL,nL,nL] [(0,1),(1,5)] [(1,t40)]) fun t41 => opt2 (c 17 [t38,t41] h11) fun t42 h13 => eqH h13 h11 (test t42 (opt2 (c 12 [] h11) fun t44 h14 => eqH h14 h11 (some (t44,h11))) (some (fL,h11)))))
theorem TF5 (c : CF) (a0 a1 a2 : AV) (h : Heap) : (rk d5 P0 c 46 c5).1 k5 [] k5 gK (argsTr gl 0 [a0,a1,a2]) h = F5 c a0 a1 a2 h := by kernel_rfl
noncomputable def N5 : FnF := n3 F5
theorem N5_ok [Nu] : FnOk P0 gl 5 N5 := n3_ok namesOk mixedOrders lowOk Tryz.func5 (by kernel_rfl) (by kernel_rfl) (by kernel_rfl) TF5
noncomputable def c6 : Code := codeOf Tryz.f6
noncomputable def k6 : Kt := finK P0 Tryz.f6.results.toList
def d6 : List Nat := []
noncomputable def F6 (c : CF) (a0 a1 a2 : AV) (h : Heap) : Res := opt2 (c 15 [a0] h) fun t9 h1 => opt2 (c 15 [a1] h1) fun t11 h2 => opt2 (c 15 [a2] h2) fun t13 h3 => opt2 (c 13 [t9,(iL 0)] h3) fun t16 h4 => opt2 (c 13 [t11,(iL 0)] h4) fun t18 h5 => opt2 (c 13 [t13,(iL 0)] h5) fun t20 h6 => opt2 (bsliceX 5 (.agg [(iL 0),(iL 0),cL,nL,nL]) 3 [(0,t16),(1,t18),(2,t20)] h6) fun t21 h7 => opt2 (c 10 [(sL [40,99,111,110,115,116,32,120,32,110,117,109,32,49,48,48,48,41,32,40,102,117,110,32,103,32,40,41,32,110,117,109,32,120,41,32,40,102,117,110,32,102,32,40,40,120,32,110,117,109,41,32,40,121,32,110,117,109,41,32,40,122,32,110,117,109,41,41,32,110,117,109,32,40,97,100,100,32,40,108,101,116,32,120,32,121,32,40,97,100,100,32,120,32,40,108,101,116,32,120,32,122,32,40,109,117,108,32,120,32,51,41,41,41,41,32,40,97,100,100,32,120,32,40,103,41,41,41,41]),t21] h7) fun t22 h8 => opt (fastBin .mul (iL 3) t13) fun t25 => opt (fastBin .add t11 t25) fun t26 => opt (fastBin .add t26 t9) fun t28 => opt (fastBin .add t28 (iL 1000)) fun t29 => opt2 (c 13 [t29,(iL 0)] h8) fun t30 h9 => opt2 (c 14 [t22,t30] h9) fun t31 h10 => test t31 (opt2 (c 12 [] h10) fun t33 h11 => some (t33,h11)) (some (fL,h10))
theorem TF6 (c : CF) (a0 a1 a2 : AV) (h : Heap) : (rk d6 P0 c 35 c6).1 k6 [] k6 gK (argsTr gl 0 [a0,a1,a2]) h = F6 c a0 a1 a2 h := by kernel_rfl
noncomputable def N6 : FnF := n3 F6
theorem N6_ok [Nu] : FnOk P0 gl 6 N6 := n3_ok namesOk mixedOrders lowOk Tryz.func6 (by kernel_rfl) (by kernel_rfl) (by kernel_rfl) TF6
noncomputable def c7 : Code := codeOf Tryz.f7
noncomputable def k7 : Kt := finK P0 Tryz.f7.results.toList
def d7 : List Nat := []
noncomputable def F7 (c : CF) (a0 a1 a2 a3 : AV) (h : Heap) : Res := opt2 (bsliceX 1 eL 3 [(0,(sL [40,40,65,41,32,49,41])),(1,(sL [40,40,66,32,120,41,32,40,109,117,108,32,120,32,50,41,41])),(2,(sL [40,40,67,32,120,32,121,41,32,40,115,117,98,32,120,32,121,41,41]))] h) fun t16 h1 => opt2 (c 11 [a0,(iL 0),(iL 5)] h1) fun t18 h2 => opt2 (bsliceX 1 (iL 0) 3 [(0,(iL 0)),(1,(iL 1)),(2,(iL 2))] h2) fun t19 h3 => opt2 (bsliceX 1 (iL 0) 3 [(0,(iL 0)),(1,(iL 2)),(2,(iL 1))] h3) fun t20 h4 => opt2 (bsliceX 1 (iL 0) 3 [(0,(iL 1)),(1,(iL 0)),(2,(iL 2))] h4) fun t21 h5 => opt2 (bsliceX 1 (iL 0) 3 [(0,(iL 1)),(1,(iL 2)),(2,(iL 0))] h5) fun t22 h6 => opt2 (bsliceX 1 (iL 0) 3 [(0,(iL 2)),(1,(iL 0)),(2,(iL 1))] h6) fun t23 h7 => opt2 (bsliceX 1 (iL 0) 3 [(0,(iL 2)),(1,(iL 1)),(2,(iL 0))] h7) fun t24 h8 => opt2 (bsliceX 1 nL 6 [(0,t19),(1,t20),(2,t21),(3,t22),(4,t23),(5,t24)] h8) fun t25 h9 => opt (indexAddrS 1 t25 t18 h9) fun t27 => opt (loadX none t27 h9) fun t28 => opt2 (c 15 [a2] h9) fun t30 h10 => opt2 (c 15 [a3] h10) fun t32 h11 => opt2 (c 11 [a1,(iL 0),(iL 2)] h11) fun t34 h12 => opt2 (c 18 [(iL 0),nL] h12) fun t35 h13 => opt2 (c 13 [t30,(iL 0)] h13) fun t37 h14 => opt2 (bsliceX 5 (.agg [(iL 0),(iL 0),cL,nL,nL]) 1 [(0,t37)] h14) fun t38 h15 => opt2 (c 18 [(iL 1),t38] h15) fun t39 h16 => opt2 (c 13 [t30,(iL 0)] h16) fun t41 h17 => opt2 (c 13 [t32,(iL 0)] h17) fun t43 h18 => opt2 (bsliceX 5 (.agg [(iL 0),(iL 0),cL,nL,nL]) 2 [(0,t41),(1,t43)] h18) fun t44 h19 => opt2 (c 18 [(iL 2),t44] h19) fun t45 h20 => opt2 (bsliceX 5 (.agg [(iL 0),(iL 0),cL,nL,nL]) 3 [(0,t35),(1,t39),(2,t45)] h20) fun t46 h21 => opt (indexAddrS 5 t46 t34 h21) fun t48 => opt (loadX (some 5) t48 h21) fun t49 => opt2 (box (.agg [(iL 0),(iL 0),cL,nL,nL]) h21) fun t13 h22 => optH (storeX 5 t13 t49 h22) fun h23 => opt (fastBin .mul (iL 2) t30) fun t51 => opt (fastBin .sub t30 t32) fun t54 => opt2 (bsliceX 1 (iL 0) 3 [(0,(iL 1)),(1,t51),(2,t54)] h23) fun t55 h24 => opt (indexAddrS 1 t55 t34 h24) fun t57 => opt (loadX none t57 h24) fun t58 => opt (indexAddrS 1 t28 (iL 0) h24) fun t61 => eqH h24 h24 (opt (loadX none t61 h24) fun t62 => eqH h24 h24 (opt (indexAddrS 1 t16 t62 h24) fun t63 => eqH h24 h24 (opt (loadX none t63 h24) fun t64 => eqH h24 h24 (opt (fastBin .add (sL [40,116,121,112,101,32,84,32,40,65,41,32,40,66,32,110,117,109,41,32,40,67,32,110,117,109,32,110,117,109,41,41,32,40,102,117,110,32,102,32,40,40,116,32,84,41,41,32,110,117,109,32,40,109,97,116,99,104,32,116,32]) t64) fun t65 => opt (fastBin .add t65 (sL [32])) fun t66 => opt (indexAddrS 1 t28 (iL 1) h24) fun t69 => eqH h24 h24 (opt (loadX none t69 h24) fun t70 => eqH h24 h24 (opt (indexAddrS 1 t16 t70 h24) fun t71 => eqH h24 h24 (opt (loadX none t71 h24) fun t72 => eqH h24 h24 (opt (fastBin .add t66 t72) fun t73 => opt (fastBin .add t73 (sL [32])) fun t74 => opt (indexAddrS 1 t28 (iL 2) h24) fun t77 => eqH h24 h24 (opt (loadX none t77 h24) fun t78 => eqH h24 h24 (opt (indexAddrS 1 t16 t78 h24) fun t79 => eqH h24 h24 (opt (loadX none t79 h24) fun t80 => eqH h24 h24 (opt (fastBin .add t74 t80) fun t81 => opt (fastBin .add t81 (sL [41,41])) fun t82 => opt (loadX (some 5) t13 h24) fun t84 => opt2 (bsliceX 5 (.agg [(iL 0),(iL 0),cL,nL,nL]) 1 [(0,t84)] h24) fun t85 h25 => opt2 (c 10 [t82,t85] h25) fun t86 h26 => opt2 (c 13 [t58,(iL 0)] h26) fun t88 h27 => opt2 (c 14 [t86,t88] h27) fun t89 h28 => test t89 (opt2 (c 12 [] h28) fun t91 h29 => some (t91,h29)) (some (fL,h28))))))))))))))
theorem TF7 (c : CF) (a0 a1 a2 a3 : AV) (h : Heap) : (rk d7 P0 c 93 c7).1 k7 [] k7 gK (argsTr gl 0 [a0,a1,a2,a3]) h = F7 c a0 a1 a2 a3 h := by kernel_rfl
noncomputable def N7 : FnF := n4 F7
theorem N7_ok [Nu] : FnOk P0 gl 7 N7 := n4_ok namesOk mixedOrders lowOk Tryz.func7 (by kernel_rfl) (by kernel_rfl) (by kernel_rfl) TF7
noncomputable def c8 : Code := codeOf Tryz.f8
noncomputable def k8 : Kt := finK P0 Tryz.f8.results.toList
def d8 : List Nat := []
noncomputable def S8_0 (c : CF) (t13 t14 t15 t16 t19 t20 t21 : AV) (h : Heap) : Res := opt2 (c 13 [t13,t14] h) fun t83 h1 => opt2 (c 13 [t15,t16] h1) fun t86 h2 => opt2 (bsliceX 5 (.agg [(iL 0),(iL 0),cL,nL,nL]) 2 [(0,t83),(1,t86)] h2) fun t87 h3 => opt2 (c 10 [t19,t87] h3) fun t88 h4 => opt2 (box (.agg [(iL 0),(iL 0),(iL 0),cL,nL,nL]) h4) fun t22 h5 => optH (storeX 6 t22 t88 h5) fun h6 => opt (fastBin .neq t21 (iL 0)) fun t90 => test t90 (opt (fieldAddrX 0 t22) fun t91 => opt (loadX none t91 h6) fun t92 => opt (fastBin .eql t92 (iL 44)) fun t93 => test t93 (opt2 (c 12 [] h6) fun t95 h7 => some (t95,h7)) (some (fL,h6))) (opt (loadX (some 6) t22 h6) fun t97 => opt (buildX [(iL 0),(iL 0),cL,nL,nL] [(0,1),(1,1),(2,1),(3,1),(4,1)] [(0,(iL 1)),(2,t20)]) fun t99 => opt2 (c 14 [t97,t99] h6) fun t100 h8 => test t100 (opt2 (c 12 [] h8) fun t102 h9 => some (t102,h9)) (some (fL,h8)))
theorem TS8_0 (c : CF) : (rk d8 P0 c 104 c8.s9.s3).1 k8 [] k8 gK = L7 (S8_0 c) 13 14 15 16 19 20 21 := by funext s h; kernel_rfl
noncomputable def S8_1 (c : CF) (t11 t12 t13 t14 t15 t16 t17 t19 t20 t21 : AV) (h : Heap) : Res := opt (fastBin .gtr t12 (iL 2)) fun t64 => test t64 (opt (indexAddrS 1 t11 t12 h) fun t67 => opt (loadX none t67 h) fun t68 => opt (fastBin .add (sL [40,102,117,110,32,102,32,40,40,120,32,110,117,109,41,32,40,121,32,110,117,109,41,41,32,110,117,109,32,40]) t68) fun t69 => opt (fastBin .add t69 (sL [32,120,41,41])) fun t70 => opt (indexAddrS 1 t11 t12 h) fun t74 => opt (loadX none t74 h) fun t75 => opt2 (c 21 [t75,t17] h) fun t77 h1 => opt (extractX t77 0) fun t78 => opt (extractX t77 1) fun t79 => S8_0 c t13 t14 t15 t16 t70 t78 t79 h1) (S8_0 c t13 t14 t15 t16 t19 t20 t21 h)
theorem TS8_1 (c : CF) : (rk d8 P0 c 104 c8.s9.s2).1 k8 [] k8 gK = L10 (S8_1 c) 11 12 13 14 15 16 17 19 20 21 := Eq.trans (seq_t (by kernel_rfl) (TS8_0 c) rfl) (by funext s h; kernel_rfl)
noncomputable def S8_2 (c : CF) (t11 t12 t13 t14 t15 t16 t17 t18 t19 : AV) (h : Heap) : Res := opt (indexAddrS 1 t11 t12 h) fun t56 => opt (loadX none t56 h) fun t57 => opt2 (c 20 [t57,t17,t18] h) fun t60 h1 => opt (extractX t60 0) fun t61 => opt (extractX t60 1) fun t62 => S8_1 c t11 t12 t13 t14 t15 t16 t17 t19 t61 t62 h1
theorem TS8_2 (c : CF) : (rk d8 P0 c 104 c8.s9.snd).1 k8 [] k8 gK = L9 (S8_2 c) 11 12 13 14 15 16 17 18 19 := Eq.trans (seq_t (by kernel_rfl) (TS8_1 c) rfl) (by funext s h; kernel_rfl)
noncomputable def S8_3 (c : CF) (t11 t12 t13 t14 t15 t16 t17 t18 : AV) (h : Heap) : Res := opt (indexAddrS 1 t11 t12 h) fun t49 => opt (loadX none t49 h) fun t50 => opt (fastBin .add (sL [40,102,117,110,32,102,32,40,40,120,32,110,117,109,41,32,40,121,32,110,117,109,41,41,32,110,117,109,32,40]) t50) fun t51 => opt (fastBin .add t51 (sL [32,120,32,121,41,41])) fun t52 => S8_2 c t11 t12 t13 t14 t15 t16 t17 t18 t52 h
theorem TS8_3 (c : CF) : (rk d8 P0 c 104 c8.s9).1 k8 [] k8 gK = L8 (S8_3 c) 11 12 13 14 15 16 17 18 := Eq.trans (seq_t (by kernel_rfl) (TS8_2 c) rfl) (by funext s h; kernel_rfl)
noncomputable def S8_4 (c : CF) (t11 t12 t13 t14 t15 t16 t17 : AV) (h : Heap) : Res := opt (convX P0 3 45 t15 h) fun t43 => opt (convX P0 3 45 t16 h) fun t45 => opt (litBi P0 .complex [45,45] 24 [false,false] [t43,t45]) fun t46 => S8_3 c t11 t12 t13 t14 t15 t16 t17 t46 h
theorem TS8_4 (c : CF) : (rk d8 P0 c 104 c8.s8).1 k8 [] k8 gK = L7 (S8_4 c) 11 12 13 14 15 16 17 := Eq.trans (seq_t (by kernel_rfl) (TS8_3 c) rfl) (by funext s h; kernel_rfl)
noncomputable def S8_5 (c : CF) (t11 t12 t13 t14 t15 t16 : AV) (h : Heap) : Res := opt (convX P0 3 45 t13 h) fun t38 => opt (convX P0 3 45 t14 h) fun t40 => opt (litBi P0 .complex [45,45] 24 [false,false] [t38,t40]) fun t41 => S8_4 c t11 t12 t13 t14 t15 t16 t41 h
theorem TS8_5 (c : CF) : (rk d8 P0 c 104 c8.s7).1 k8 [] k8 gK = L6 (S8_5 c) 11 12 13 14 15 16 := Eq.trans (seq_t (by kernel_rfl) (TS8_4 c) rfl) (by funext s h; kernel_rfl)
noncomputable def S8_6 (c : CF) (t4 t11 t12 t13 t14 t15 : AV) (h : Heap) : Res := opt2 (c 19 [t4] h) fun t36 h1 => S8_5 c t11 t12 t13 t14 t15 t36 h1
theorem TS8_6 (c : CF) : (rk d8 P0 c 104 c8.s6).1 k8 [] k8 gK = L6 (S8_6 c) 4 11 12 13 14 15 := Eq.trans (seq_t (by kernel_rfl) (TS8_5 c) rfl) (by funext s h; kernel_rfl)
noncomputable def S8_7 (c : CF) (t3 t4 t11 t12 t13 t14 : AV) (h : Heap) : Res := opt2 (c 19 [t3] h) fun t34 h1 => S8_6 c t4 t11 t12 t13 t14 t34 h1
theorem TS8_7 (c : CF) : (rk d8 P0 c 104 c8.s5).1 k8 [] k8 gK = L6 (S8_7 c) 3 4 11 12 13 14 := Eq.trans (seq_t (by kernel_rfl) (TS8_6 c) rfl) (by funext s h; kernel_rfl)
noncomputable def S8_8 (c : CF) (t2 t3 t4 t11 t12 t13 : AV) (h : Heap) : Res := opt2 (c 19 [t2] h) fun t32 h1 => S8_7 c t3 t4 t11 t12 t13 t32 h1
theorem TS8_8 (c : CF) : (rk d8 P0 c 104 c8.s4).1 k8 [] k8 gK = L6 (S8_8 c) 2 3 4 11 12 13 := Eq.trans (seq_t (by kernel_rfl) (TS8_7 c) rfl) (by funext s h; kernel_rfl)
noncomputable def S8_9 (c : CF) (t1 t2 t3 t4 t11 t12 : AV) (h : Heap) : Res := opt2 (c 19 [t1] h) fun t30 h1 => S8_8 c t2 t3 t4 t11 t12 t30 h1
theorem TS8_9 (c : CF) : (rk d8 P0 c 104 c8.s3).1 k8 [] k8 gK = L6 (S8_9 c) 1 2 3 4 11 12 := Eq.trans (seq_t (by kernel_rfl) (TS8_8 c) rfl) (by funext s h; kernel_rfl)
noncomputable def S8_10 (c : CF) (t0 t1 t2 t3 t4 t11 : AV) (h : Heap) : Res := opt (lenS t11) fun t26 => opt (fastBin .sub t26 (iL 1)) fun t27 => opt2 (c 11 [t0,(iL 0),t27] h) fun t28 h1 => S8_9 c t1 t2 t3 t4 t11 t28 h1
theorem TS8_10 (c : CF) : (rk d8 P0 c 104 c8.s2).1 k8 [] k8 gK = L6 (S8_10 c) 0 1 2 3 4 11 := Eq.trans (seq_t (by kernel_rfl) (TS8_9 c) rfl) (by funext s h; kernel_rfl)
noncomputable def S8_11 (c : CF) (t0 t1 t2 t3 t4 : AV) (h : Heap) : Res := opt2 (bsliceX 1 eL 7 [(0,(sL [97,100,100])),(1,(sL [115,117,98])),(2,(sL [109,117,108])),(3,(sL [110,101,103])),(4,(sL [99,111,110,106])),(5,(sL [114,101])),(6,(sL [105,109]))] h) fun t23 h1 => S8_10 c t0 t1 t2 t3 t4 t23 h1
theorem TS8_11 (c : CF) : (rk d8 P0 c 104 c8.snd).1 k8 [] k8 gK = L5 (S8_11 c) 0 1 2 3 4 := Eq.trans (seq_t (by kernel_rfl) (TS8_10 c) rfl) (by funext s h; kernel_rfl)
noncomputable def F8 (c : CF) (a0 a1 a2 a3 a4 : AV) (h : Heap) : Res := S8_11 c a0 a1 a2 a3 a4 h
theorem TF8 (c : CF) (a0 a1 a2 a3 a4 : AV) (h : Heap) : (rk d8 P0 c 104 c8).1 k8 [] k8 gK (argsTr gl 0 [a0,a1,a2,a3,a4]) h = F8 c a0 a1 a2 a3 a4 h := Eq.trans (congrFun (congrFun (seq_t (by kernel_rfl) (TS8_11 c) rfl) _) _) (by kernel_rfl)
noncomputable def N8 : FnF := n5 F8
theorem N8_ok [Nu] : FnOk P0 gl 8 N8 := n5_ok namesOk mixedOrders lowOk Tryz.func8 (by kernel_rfl) (by kernel_rfl) (by kernel_rfl) TF8
noncomputable def c9 : Code := codeOf Tryz.f9
noncomputable def k9 : Kt := finK P0 Tryz.f9.results.toList
def d9 : List Nat := []
noncomputable def S9_0 (c : CF) (t9 t10 t11 t12 : AV) (h : Heap) : Res := opt (loadX (some 5) t9 h) fun t50 => opt (loadX (some 5) t10 h) fun t51 => opt2 (bsliceX 5 (.agg [(iL 0),(iL 0),cL,nL,nL]) 2 [(0,t50),(1,t51)] h) fun t52 h1 => opt2 (c 10 [t11,t52] h1) fun t53 h2 => opt2 (c 13 [t12,(iL 0)] h2) fun t55 h3 => opt2 (c 14 [t53,t55] h3) fun t56 h4 => test t56 (opt2 (c 12 [] h4) fun t58 h5 => some (t58,h5)) (some (fL,h4))
theorem TS9_0 (c : CF) : (rk d9 P0 c 60 c9.s6).1 k9 [] k9 gK = L4 (S9_0 c) 9 10 11 12 := by funext s h; kernel_rfl
noncomputable def S9_1 (c : CF) (t9 t10 t11 t12 t23 : AV) (h : Heap) : Res := test t23 (S9_0 c t9 t10 t11 (iL 1) h) (opt (fieldAddrX 2 t9) fun t44 => opt (loadX none t44 h) fun t45 => opt (fieldAddrX 2 t10) fun t46 => opt (loadX none t46 h) fun t47 => opt (binX P0 .none .neq 24 t45 t47) fun t48 => test t48 (S9_0 c t9 t10 t11 (iL 2) h) (S9_0 c t9 t10 t11 t12 h))
theorem TS9_1 (c : CF) : (rk d9 P0 c 60 c9.s5.fst.bd.snd).1 (L4 (S9_0 c) 9 10 11 12) [(0,(L4 (S9_0 c) 9 10 11 12))] k9 gK = L5 (S9_1 c) 9 10 11 12 23 := by funext s h; kernel_rfl
noncomputable def S9_2 (c : CF) (t0 t1 t2 t3 t9 t10 t11 t12 : AV) (h : Heap) : Res := opt (binX P0 .none .rem 3 t0 (iL 5)) fun t25 => opt (binX P0 .none .rem 3 t2 (iL 5)) fun t27 => opt (fastBin .lss t25 t27) fun t28 => test t28 (S9_1 c t9 t10 t11 t12 tL h) (opt (binX P0 .none .rem 3 t0 (iL 5)) fun t31 => opt (binX P0 .none .rem 3 t2 (iL 5)) fun t33 => opt (fastBin .eql t31 t33) fun t34 => test t34 (opt (binX P0 .none .rem 3 t1 (iL 5)) fun t37 => opt (binX P0 .none .rem 3 t3 (iL 5)) fun t39 => opt (fastBin .lss t37 t39) fun t40 => S9_1 c t9 t10 t11 t12 t40 h) (S9_1 c t9 t10 t11 t12 fL h))
theorem TS9_2 (c : CF) : (rk d9 P0 c 60 c9.s5).1 k9 [] k9 gK = L8 (S9_2 c) 0 1 2 3 9 10 11 12 := Eq.trans (seq_t (by kernel_rfl) (TS9_0 c) (block_t (id := 0) (by kernel_rfl) (seq_t (by kernel_rfl) (TS9_1 c) rfl))) (by funext s h; kernel_rfl)
noncomputable def S9_3 (c : CF) (t0 t1 t2 t3 t9 t10 t11 : AV) (h : Heap) : Res := S9_2 c t0 t1 t2 t3 t9 t10 t11 (iL 4) h
theorem TS9_3 (c : CF) : (rk d9 P0 c 60 c9.s4).1 k9 [] k9 gK = L7 (S9_3 c) 0 1 2 3 9 10 11 := Eq.trans (seq_t (by kernel_rfl) (TS9_2 c) rfl) (by funext s h; kernel_rfl)
noncomputable def S9_4 (c : CF) (t0 t1 t2 t3 t9 t10 : AV) (h : Heap) : Res := S9_3 c t0 t1 t2 t3 t9 t10 (sL [40,102,117,110,32,102,32,40,40,120,32,110,117,109,41,32,40,121,32,110,117,109,41,41,32,110,117,109,32,40,97,100,100,32,40,108,116,32,120,32,121,41,32,40,97,100,100,32,40,109,117,108,32,50,32,40,108,116,32,121,32,120,41,41,32,40,109,117,108,32,52,32,40,101,113,32,120,32,121,41,41,41,41,41]) h
theorem TS9_4 (c : CF) : (rk d9 P0 c 60 c9.s3).1 k9 [] k9 gK = L6 (S9_4 c) 0 1 2 3 9 10 := Eq.trans (seq_t (by kernel_rfl) (TS9_3 c) rfl) (by funext s h; kernel_rfl)
noncomputable def S9_5 (c : CF) (t0 t1 t2 t3 t9 : AV) (h : Heap) : Res := opt (binX P0 .none .rem 3 t2 (iL 5)) fun t19 => opt (binX P0 .none .rem 3 t3 (iL 5)) fun t21 => opt2 (c 13 [t19,t21] h) fun t22 h1 => opt2 (box (.agg [(iL 0),(iL 0),cL,nL,nL]) h1) fun t10 h2 => optH (storeX 5 t10 t22 h2) fun h3 => S9_4 c t0 t1 t2 t3 t9 t10 h3
theorem TS9_5 (c : CF) : (rk d9 P0 c 60 c9.s2).1 k9 [] k9 gK = L5 (S9_5 c) 0 1 2 3 9 := Eq.trans (seq_t (by kernel_rfl) (TS9_4 c) rfl) (by funext s h; kernel_rfl)
noncomputable def S9_6 (c : CF) (t0 t1 t2 t3 : AV) (h : Heap) : Res := opt (binX P0 .none .rem 3 t0 (iL 5)) fun t14 => opt (binX P0 .none .rem 3 t1 (iL 5)) fun t16 => opt2 (c 13 [t14,t16] h) fun t17 h1 => opt2 (box (.agg [(iL 0),(iL 0),cL,nL,nL]) h1) fun t9 h2 => optH (storeX 5 t9 t17 h2) fun h3 => S9_5 c t0 t1 t2 t3 t9 h3
theorem TS9_6 (c : CF) : (rk d9 P0 c 60 c9.snd).1 k9 [] k9 gK = L4 (S9_6 c) 0 1 2 3 := Eq.trans (seq_t (by kernel_rfl) (TS9_5 c) rfl) (by funext s h; kernel_rfl)
noncomputable def F9 (c : CF) (a0 a1 a2 a3 : AV) (h : Heap) : Res := S9_6 c a0 a1 a2 a3 h
theorem TF9 (c : CF) (a0 a1 a2 a3 : AV) (h : Heap) : (rk d9 P0 c 60 c9).1 k9 [] k9 gK (argsTr gl 0 [a0,a1,a2,a3]) h = F9 c a0 a1 a2 a3 h := Eq.trans (congrFun (congrFun (seq_t (by kernel_rfl) (TS9_6 c) rfl) _) _) (by kernel_rfl)
noncomputable def N9 : FnF := n4 F9
theorem N9_ok [Nu] : FnOk P0 gl 9 N9 := n4_ok namesOk mixedOrders lowOk Tryz.func9 (by kernel_rfl) (by kernel_rfl) (by kernel_rfl) TF9
noncomputable def c10 : Code := codeOf Tryz.f10
noncomputable def k10 : Kt := finK P0 Tryz.f10.results.toList
def d10 : List Nat := []
noncomputable def F10 (c : CF) (a0 a1 : AV) (h : Heap) : Res := opt2 (box (.agg [(iL 0),(iL 0),(iL 0),cL,nL,nL]) h) fun t4 h1 => opt (fastBin .add (sL [40,109,111,100,117,108,101,32,109,32,40,101,120,112,111,114,116,32,102,41,32]) a0) fun t6 => opt (fastBin .add t6 (sL [41])) fun t7 => opt2 (bsliceX 1 eL 1 [(0,t7)] h1) fun t8 h2 => opt2 (c 16 [t8,(sL [109,46,102]),a1,(iL 262144),(iL 16384)] h2) fun t10 h3 => optH (storeX 6 t4 t10 h3) fun h4 => opt (loadX (some 6) t4 h4) fun res => some (res,h4)
theorem TF10 (c : CF) (a0 a1 : AV) (h : Heap) : (rk d10 P0 c 11 c10).1 k10 [] k10 gK (argsTr gl 0 [a0,a1]) h = F10 c a0 a1 h := by kernel_rfl
noncomputable def N10 : FnF := n2 F10
theorem N10_ok [Nu] : FnOk P0 gl 10 N10 := n2_ok namesOk mixedOrders lowOk Tryz.func10 (by kernel_rfl) (by kernel_rfl) (by kernel_rfl) TF10
noncomputable def c11 : Code := codeOf Tryz.f11
noncomputable def k11 : Kt := finK P0 Tryz.f11.results.toList
def d11 : List Nat := []
noncomputable def S11_0 (c : CF) (t0 t1 : AV) (h : Heap) : Res := opt (fastBin .add t1 t0) fun t23 => some (t23,h)
theorem TS11_0 (c : CF) : (rk d11 P0 c 24 c11.s3).1 k11 [] k11 gK = L2 (S11_0 c) 0 1 := by funext s h; kernel_rfl
noncomputable def S11_1 (c : CF) (t0 t1 t2 : AV) (h : Heap) : Res := opt (fastBin .lss t0 (iL 0)) fun t14 => test t14 (opt (fastBin .add t0 t2) fun t17 => opt (fastBin .sub t17 t1) fun t19 => opt (fastBin .add t19 (iL 1)) fun t20 => S11_0 c t20 t1 h) (S11_0 c t0 t1 h)
theorem TS11_1 (c : CF) : (rk d11 P0 c 24 c11.s2).1 k11 [] k11 gK = L3 (S11_1 c) 0 1 2 := Eq.trans (seq_t (by kernel_rfl) (TS11_0 c) rfl) (by funext s h; kernel_rfl)
noncomputable def S11_2 (c : CF) (t0 t1 t2 : AV) (h : Heap) : Res := opt (fastBin .sub t2 t1) fun t10 => opt (fastBin .add t10 (iL 1)) fun t11 => opt (binX P0 .none .rem 3 t0 t11) fun t12 => S11_1 c t12 t1 t2 h
theorem TS11_2 (c : CF) : (rk d11 P0 c 24 c11.snd).1 k11 [] k11 gK = L3 (S11_2 c) 0 1 2 := Eq.trans (seq_t (by kernel_rfl) (TS11_1 c) rfl) (by funext s h; kernel_rfl)
noncomputable def F11 (c : CF) (a0 a1 a2 : AV) (h : Heap) : Res := S11_2 c a0 a1 a2 h
theorem TF11 (c : CF) (a0 a1 a2 : AV) (h : Heap) : (rk d11 P0 c 24 c11).1 k11 [] k11 gK (argsTr gl 0 [a0,a1,a2]) h = F11 c a0 a1 a2 h := Eq.trans (congrFun (congrFun (seq_t (by kernel_rfl) (TS11_2 c) rfl) _) _) (by kernel_rfl)
noncomputable def N11 : FnF := n3 F11
theorem N11_ok [Nu] : FnOk P0 gl 11 N11 := n3_ok namesOk mixedOrders lowOk Tryz.func11 (by kernel_rfl) (by kernel_rfl) (by kernel_rfl) TF11
noncomputable def c12 : Code := codeOf Tryz.f12
noncomputable def k12 : Kt := finK P0 Tryz.f12.results.toList
def d12 : List Nat := []
noncomputable def F12 (c : CF) (h : Heap) : Res := opt2 (bsliceX 1 eL 1 [(0,(sL [40,109,111,100,117,108,101,32,109,32,40,101,120,112,111,114,116,32,102,41,32,40,102,117,110,32,102,32,40,41,32,110,117,109,32,40,109,117,108,32,49,43,50,105,32,51,41,41,41]))] h) fun t2 h1 => opt2 (c 16 [t2,(sL [109,46,102]),nL,(iL 262144),(iL 16384)] h1) fun t3 h2 => opt2 (box (.agg [(iL 0),(iL 0),(iL 0),cL,nL,nL]) h2) fun t1 h3 => optH (storeX 6 t1 t3 h3) fun h4 => opt (loadX (some 6) t1 h4) fun t4 => eqH h4 h4 (opt2 (c 13 [(iL 3),(iL 6)] h4) fun t5 h5 => eqH h5 h4 (opt (buildX [(iL 0),(iL 0),(iL 0),cL,nL,nL] [(0,1),(1,5)] [(1,t5)]) fun t6 => opt2 (c 17 [t4,t6] h4) fun t7 h6 => eqH h6 h4 (some (t7,h4))))
theorem TF12 (c : CF) (h : Heap) : (rk d12 P0 c 8 c12).1 k12 [] k12 gK (argsTr gl 0 []) h = F12 c h := by kernel_rfl
noncomputable def N12 : FnF := n0 F12
theorem N12_ok [Nu] : FnOk P0 gl 12 N12 := n0_ok namesOk mixedOrders lowOk Tryz.func12 (by kernel_rfl) (by kernel_rfl) (by kernel_rfl) TF12
noncomputable def c13 : Code := codeOf Tryz.f13
noncomputable def k13 : Kt := finK P0 Tryz.f13.results.toList
def d13 : List Nat := []
noncomputable def F13 (c : CF) (a0 a1 : AV) (h : Heap) : Res := opt2 (box (.agg [(iL 0),(iL 0),cL,nL,nL]) h) fun t4 h1 => opt (convX P0 3 45 a0 h1) fun t6 => opt (convX P0 3 45 a1 h1) fun t8 => opt (litBi P0 .complex [45,45] 24 [false,false] [t6,t8]) fun t9 => opt (buildX [(iL 0),(iL 0),cL,nL,nL] [(0,1),(1,1),(2,1),(3,1),(4,1)] [(0,(iL 1)),(2,t9)]) fun t10 => optH (storeX 5 t4 t10 h1) fun h2 => opt (loadX (some 5) t4 h2) fun res => some (res,h2)
theorem TF13 (c : CF) (a0 a1 : AV) (h : Heap) : (rk d13 P0 c 11 c13).1 k13 [] k13 gK (argsTr gl 0 [a0,a1]) h = F13 c a0 a1 h := by kernel_rfl
noncomputable def N13 : FnF := n2 F13
theorem N13_ok [Nu] : FnOk P0 gl 13 N13 := n2_ok namesOk mixedOrders lowOk Tryz.func13 (by kernel_rfl) (by kernel_rfl) (by kernel_rfl) TF13
noncomputable def c14 : Code := codeOf Tryz.f14
noncomputable def k14 : Kt := finK P0 Tryz.f14.results.toList
def d14 : List Nat := []
noncomputable def F14 (c : CF) (a0 a1 : AV) (h : Heap) : Res := opt2 (box a0 h) fun t2 h1 => opt2 (box a1 h1) fun t3 h2 => opt (loadX (some 6) t2 h2) fun t5 => opt (loadX (some 5) t3 h2) fun t6 => opt (buildX [(iL 0),(iL 0),(iL 0),cL,nL,nL] [(0,1),(1,5)] [(1,t6)]) fun t7 => opt2 (c 17 [t5,t7] h2) fun t8 h3 => some (t8,h3)
theorem TF14 (c : CF) (a0 a1 : AV) (h : Heap) : (rk d14 P0 c 9 c14).1 k14 [] k14 gK (argsTr gl 0 [a0,a1]) h = F14 c a0 a1 h := by kernel_rfl
noncomputable def N14 : FnF := n2 F14
theorem N14_ok [Nu] : FnOk P0 gl 14 N14 := n2_ok namesOk mixedOrders lowOk Tryz.func14 (by kernel_rfl) (by kernel_rfl) (by kernel_rfl) TF14
noncomputable def c15 : Code := codeOf Tryz.f15
noncomputable def k15 : Kt := finK P0 Tryz.f15.results.toList
def d15 : List Nat := []
noncomputable def F15 (c : CF) (a0 : AV) (h : Heap) : Res := opt (binX P0 .none .rem 3 a0 (iL 50)) fun t4 => some (t4,h)
theorem TF15 (c : CF) (a0 : AV) (h : Heap) : (rk d15 P0 c 5 c15).1 k15 [] k15 gK (argsTr gl 0 [a0]) h = F15 c a0 h := by kernel_rfl
noncomputable def N15 : FnF := n1 F15
theorem N15_ok [Nu] : FnOk P0 gl 15 N15 := n1_ok namesOk mixedOrders lowOk Tryz.func15 (by kernel_rfl) (by kernel_rfl) (by kernel_rfl) TF15
noncomputable def c16 : Code := codeOf Tryz.f16
noncomputable def k16 : Kt := finK P0 Tryz.f16.results.toList
def d16 : List Nat := [3,6]
noncomputable def F16 (c : CF) (a0 a1 a2 a3 a4 : AV) (h : Heap) : Res := opt2 (box (.agg [(iL 0),(iL 0),(iL 0),cL,nL,nL]) h) fun t10 h1 => opt2 (c 22 [a0] h1) fun t22 h2 => opt (extractX t22 0) fun t23 => opt (extractX t22 1) fun t24 => opt (extractX t22 2) fun t25 => opt (notX t25) fun t27 => test t27 (none) (opt2 (c 23 [t23] h2) fun t31 h3 => opt (extractX t31 0) fun t32 => opt (extractX t31 1) fun t33 => opt (extractX t31 2) fun t34 => opt (extractX t31 3) fun t35 => opt2 (box (.agg [nL,nL,nL,nL,nL]) h3) fun t14 h4 => opt2 (box (.agg [(iL 0),(iL 0)]) h4) fun t15 h5 => opt2 (box (.agg [eL,eL,eL]) h5) fun t17 h6 => optH (storeX 5 t14 t32 h6) fun h7 => optH (storeX 2 t15 t33 h7) fun h8 => optH (storeX 3 t17 t35 h8) fun h9 => opt (fastBin .neq t34 (iL 0)) fun t37 => test t37 (none) (opt (loadX (some 5) t14 h9) fun t41 => opt2 (c 24 [t41,a1,a2,a3,a4] h9) fun t46 h10 => opt (extractX t46 0) fun t47 => opt (extractX t46 1) fun t48 => opt2 (box (.agg [(iL 0),(iL 0),(iL 0),cL,nL,nL]) h10) fun t18 h11 => optH (storeX 6 t18 t47 h11) fun h12 => opt (loadX (some 6) t18 h12) fun t49 => optH (storeX 6 t10 t49 h12) fun h13 => opt (loadX (some 6) t10 h13) fun res => some (res,h13)))
theorem TF16 (c : CF) (a0 a1 a2 a3 a4 : AV) (h : Heap) : (rk d16 P0 c 50 c16).1 k16 [] k16 gK (argsTr gl 0 [a0,a1,a2,a3,a4]) h = F16 c a0 a1 a2 a3 a4 h := by kernel_rfl
noncomputable def N16 : FnF := n5 F16
theorem N16_ok [Nu] : FnOk P0 gl 16 N16 := n5_ok namesOk mixedOrders lowOk Tryz.func16 (by kernel_rfl) (by kernel_rfl) (by kernel_rfl) TF16
noncomputable def c17 : Code := codeOf Tryz.f17
noncomputable def k17 : Kt := finK P0 Tryz.f17.results.toList
def d17 : List Nat := []
noncomputable def F17 (c : CF) (a0 a1 : AV) (h : Heap) : Res := opt2 (box a0 h) fun t2 h1 => opt2 (box a1 h1) fun t3 h2 => opt (fieldAddrX 0 t2) fun t5 => opt (loadX none t5 h2) fun t6 => opt (fieldAddrX 0 t3) fun t7 => opt (loadX none t7 h2) fun t8 => opt (fastBin .eql t6 t8) fun t9 => test t9 (opt (fieldAddrX 1 t2) fun t11 => opt (loadX (some 5) t11 h2) fun t12 => opt (fieldAddrX 1 t3) fun t13 => opt (loadX (some 5) t13 h2) fun t14 => opt2 (c 25 [t12,t14] h2) fun t15 h3 => some (t15,h3)) (some (fL,h2))
theorem TF17 (c : CF) (a0 a1 : AV) (h : Heap) : (rk d17 P0 c 17 c17).1 k17 [] k17 gK (argsTr gl 0 [a0,a1]) h = F17 c a0 a1 h := by kernel_rfl
noncomputable def N17 : FnF := n2 F17
theorem N17_ok [Nu] : FnOk P0 gl 17 N17 := n2_ok namesOk mixedOrders lowOk Tryz.func17 (by kernel_rfl) (by kernel_rfl) (by kernel_rfl) TF17
noncomputable def c18 : Code := codeOf Tryz.f18
noncomputable def k18 : Kt := finK P0 Tryz.f18.results.toList
def d18 : List Nat := []
noncomputable def F18 (c : CF) (a0 a1 : AV) (h : Heap) : Res := opt2 (box (.agg [(iL 0),(iL 0),cL,nL,nL]) h) fun t4 h1 => opt2 (bsliceX 5 (.agg [(iL 0),(iL 0),cL,nL,nL]) 0 [] h1) fun t6 h2 => opt2 (appendX 5 80 t6 a1 h2) fun t8 h3 => opt (buildX [(iL 0),(iL 0),cL,nL,nL] [(0,1),(1,1),(2,1),(3,1),(4,1)] [(0,(iL 4)),(1,a0),(4,t8)]) fun t9 => optH (storeX 5 t4 t9 h3) fun h4 => opt (loadX (some 5) t4 h4) fun res => some (res,h4)
theorem TF18 (c : CF) (a0 a1 : AV) (h : Heap) : (rk d18 P0 c 10 c18).1 k18 [] k18 gK (argsTr gl 0 [a0,a1]) h = F18 c a0 a1 h := by kernel_rfl
noncomputable def N18 : FnF := n2 F18
theorem N18_ok [Nu] : FnOk P0 gl 18 N18 := n2_ok namesOk mixedOrders lowOk Tryz.func18 (by kernel_rfl) (by kernel_rfl) (by kernel_rfl) TF18
noncomputable def c19 : Code := codeOf Tryz.f19
noncomputable def k19 : Kt := finK P0 Tryz.f19.results.toList
def d19 : List Nat := []
noncomputable def F19 (c : CF) (a0 : AV) (h : Heap) : Res := opt (binX P0 .none .rem 3 a0 (iL 1048577)) fun t4 => some (t4,h)
theorem TF19 (c : CF) (a0 : AV) (h : Heap) : (rk d19 P0 c 5 c19).1 k19 [] k19 gK (argsTr gl 0 [a0]) h = F19 c a0 h := by kernel_rfl
noncomputable def N19 : FnF := n1 F19
theorem N19_ok [Nu] : FnOk P0 gl 19 N19 := n1_ok namesOk mixedOrders lowOk Tryz.func19 (by kernel_rfl) (by kernel_rfl) (by kernel_rfl) TF19
noncomputable def c20 : Code := codeOf Tryz.f20
noncomputable def k20 : Kt := finK P0 Tryz.f20.results.toList
def d20 : List Nat := []
noncomputable def S20_0 (c : CF) (t8 : AV) (h : Heap) : Res := opt2 (c 26 [t8] h) fun t34 h1 => opt (notX t34) fun t35 => test t35 (some ((.tup [cL,(iL 44)]),h1)) (opt2 (c 27 [t8] h1) fun t37 h2 => some ((.tup [t37,(iL 0)]),h2))
theorem TS20_0 (c : CF) : (rk d20 P0 c 38 c20.s4).1 k20 [] k20 gK = L1 (S20_0 c) 8 := by funext s h; kernel_rfl
noncomputable def S20_1 (c : CF) (t0 t1 t2 : AV) (h : Heap) : Res := opt (fastBin .eql t0 (sL [97,100,100])) fun t19 => test t19 (opt (binX P0 .none .add 24 t1 t2) fun t22 => S20_0 c t22 h) (opt (fastBin .eql t0 (sL [115,117,98])) fun t24 => test t24 (opt (binX P0 .none .sub 24 t1 t2) fun t27 => S20_0 c t27 h) (opt (fastBin .eql t0 (sL [109,117,108])) fun t29 => test t29 (opt (binX P0 .none .mul 24 t1 t2) fun t32 => S20_0 c t32 h) (some ((.tup [cL,(iL 1)]),h))))
theorem TS20_1 (c : CF) : (rk d20 P0 c 38 c20.s3).1 k20 [] k20 gK = L3 (S20_1 c) 0 1 2 := Eq.trans (seq_t (by kernel_rfl) (TS20_0 c) rfl) (by funext s h; kernel_rfl)
noncomputable def S20_2 (c : CF) (t0 t1 t2 : AV) (h : Heap) : Res := S20_1 c t0 t1 t2 h
theorem TS20_2 (c : CF) : (rk d20 P0 c 38 c20.s2).1 k20 [] k20 gK = L3 (S20_2 c) 0 1 2 := Eq.trans (seq_t (by kernel_rfl) (TS20_1 c) rfl) (by funext s h; kernel_rfl)
noncomputable def S20_3 (c : CF) (t0 t1 t2 t16 : AV) (h : Heap) : Res := test t16 (some ((.tup [cL,(iL 1)]),h)) (S20_2 c t0 t1 t2 h)
theorem TS20_3 (c : CF) : (rk d20 P0 c 38 c20.snd.fst.snd).1 (L3 (S20_2 c) 0 1 2) [] k20 gK = L4 (S20_3 c) 0 1 2 16 := by funext s h; kernel_rfl
noncomputable def S20_4 (c : CF) (t0 t1 t2 : AV) (h : Heap) : Res := opt2 (c 26 [t1] h) fun t10 h1 => opt (notX t10) fun t11 => test t11 (S20_3 c t0 t1 t2 tL h1) (opt2 (c 26 [t2] h1) fun t14 h2 => opt (notX t14) fun t15 => S20_3 c t0 t1 t2 t15 h2)
theorem TS20_4 (c : CF) : (rk d20 P0 c 38 c20.snd).1 k20 [] k20 gK = L3 (S20_4 c) 0 1 2 := Eq.trans (seq_t (by kernel_rfl) (TS20_2 c) (seq_t (by kernel_rfl) (TS20_3 c) rfl)) (by funext s h; kernel_rfl)
noncomputable def F20 (c : CF) (a0 a1 a2 : AV) (h : Heap) : Res := S20_4 c a0 a1 a2 h
theorem TF20 (c : CF) (a0 a1 a2 : AV) (h : Heap) : (rk d20 P0 c 38 c20).1 k20 [] k20 gK (argsTr gl 0 [a0,a1,a2]) h = F20 c a0 a1 a2 h := Eq.trans (congrFun (congrFun (seq_t (by kernel_rfl) (TS20_4 c) rfl) _) _) (by kernel_rfl)
noncomputable def N20 : FnF := n3 F20
theorem N20_ok [Nu] : FnOk P0 gl 20 N20 := n3_ok namesOk mixedOrders lowOk Tryz.func20 (by kernel_rfl) (by kernel_rfl) (by kernel_rfl) TF20
noncomputable def c21 : Code := codeOf Tryz.f21
noncomputable def k21 : Kt := finK P0 Tryz.f21.results.toList
def d21 : List Nat := []
noncomputable def F21 (c : CF) (a0 a1 : AV) (h : Heap) : Res := opt2 (c 26 [a1] h) fun t7 h1 => opt (notX t7) fun t8 => test t8 (some ((.tup [cL,(iL 1)]),h1)) (opt (fastBin .eql a0 (sL [110,101,103])) fun t11 => test t11 (opt (litUn P0 .neg a1) fun t13 => opt2 (c 27 [t13] h1) fun t14 h2 => some ((.tup [t14,(iL 0)]),h2)) (opt (fastBin .eql a0 (sL [99,111,110,106])) fun t16 => test t16 (opt (litBi P0 .real [24] 45 [false] [a1]) fun t18 => opt (litBi P0 .imag [24] 45 [false] [a1]) fun t20 => opt (litUn P0 .neg t20) fun t21 => opt (litBi P0 .complex [45,45] 24 [false,false] [t18,t21]) fun t22 => opt2 (c 27 [t22] h1) fun t23 h3 => some ((.tup [t23,(iL 0)]),h3)) (opt (fastBin .eql a0 (sL [114,101])) fun t25 => test t25 (opt (litBi P0 .real [24] 45 [false] [a1]) fun t27 => opt (litBi P0 .complex [45,45] 24 [false,true] [t27,(.lit (.float .f64 0))]) fun t28 => opt2 (c 27 [t28] h1) fun t29 h4 => some ((.tup [t29,(iL 0)]),h4)) (opt (fastBin .eql a0 (sL [105,109])) fun t31 => test t31 (opt (litBi P0 .imag [24] 45 [false] [a1]) fun t33 => opt (litBi P0 .complex [45,45] 24 [false,true] [t33,(.lit (.float .f64 0))]) fun t34 => opt2 (c 27 [t34] h1) fun t35 h5 => some ((.tup [t35,(iL 0)]),h5)) (some ((.tup [cL,(iL 1)]),h1))))))
theorem TF21 (c : CF) (a0 a1 : AV) (h : Heap) : (rk d21 P0 c 36 c21).1 k21 [] k21 gK (argsTr gl 0 [a0,a1]) h = F21 c a0 a1 h := by kernel_rfl
noncomputable def N21 : FnF := n2 F21
theorem N21_ok [Nu] : FnOk P0 gl 21 N21 := n2_ok namesOk mixedOrders lowOk Tryz.func21 (by kernel_rfl) (by kernel_rfl) (by kernel_rfl) TF21
noncomputable def c22 : Code := codeOf Tryz.f22
noncomputable def k22 : Kt := finK P0 Tryz.f22.results.toList
def d22 : List Nat := [9]
noncomputable def S22_0 (c : CF) (t5 t6 : AV) (h : Heap) : Res := some ((.tup [t5,t6,tL]),h)
theorem TS22_0 (c : CF) : (rk d22 P0 c 50 c22.s4).1 k22 [] k22 gK = L2 (S22_0 c) 5 6 := by funext s h; kernel_rfl
noncomputable def S22_2 (c : CF) (r1 : A4) (t0 t5 t6 t7 : AV) (h : Heap) : Res := opt (fastBin .add t7 (iL 1)) fun t17 => r1 t0 t5 t6 t17 h
theorem TS22_2 (c : CF) (r1 : A4) : (rk d22 P0 c 50 c22.s3.fst.snd.bd.bd.s2).1 (L4 r1 0 5 6 7) [(0,(L2 (S22_0 c) 5 6))] k22 gK = L4 (S22_2 c r1) 0 5 6 7 := by funext s h; kernel_rfl
noncomputable def S22_3 (c : CF) (r1 : A4) (t0 t5 t6 t7 t8 t9 : AV) (h : Heap) : Res := opt (loadX (some 8) t9 h) fun t39 => opt2 (c 30 [t39] h) fun t40 h1 => opt2 (bsliceX 8 (.agg [eL,nL,nL,nL,nL,nL,nL,nL]) 1 [(0,t40)] h1) fun t41 h2 => opt2 (appendX 8 184 t5 t41 h2) fun t42 h3 => opt (fieldAddrX 1 t8) fun t44 => opt (loadX none t44 h3) fun t45 => opt2 (bsliceX 1 nL 1 [(0,t45)] h3) fun t46 h4 => opt2 (appendX 1 24 t6 t46 h4) fun t47 h5 => S22_2 c r1 t0 t42 t47 t7 h5
theorem TS22_3 (c : CF) (r1 : A4) : (rk d22 P0 c 50 c22.s3.fst.snd.bd.bd.snd.fst.bd.s3).1 (L4 (S22_2 c r1) 0 5 6 7) [(1,(L4 (S22_2 c r1) 0 5 6 7)),(0,(L2 (S22_0 c) 5 6))] k22 gK = L6 (S22_3 c r1) 0 5 6 7 8 9 := by funext s h; kernel_rfl
noncomputable def S22_4 (c : CF) (r1 : A4) (t0 t5 t6 t7 t8 t9 t10 : AV) (h : Heap) : Res := opt (fieldAddrX 2 t8) fun t31 => opt (loadX none t31 h) fun t32 => opt (fastBin .neq t32 (iL 0)) fun t33 => test t33 (none) (opt (fastBin .neq t10 (iL 0)) fun t36 => test t36 (none) (S22_3 c r1 t0 t5 t6 t7 t8 t9 h))
theorem TS22_4 (c : CF) (r1 : A4) : (rk d22 P0 c 50 c22.s3.fst.snd.bd.bd.snd.fst.bd.s2).1 (L4 (S22_2 c r1) 0 5 6 7) [(1,(L4 (S22_2 c r1) 0 5 6 7)),(0,(L2 (S22_0 c) 5 6))] k22 gK = L7 (S22_4 c r1) 0 5 6 7 8 9 10 := Eq.trans (seq_t (by kernel_rfl) (TS22_3 c r1) rfl) (by funext s h; kernel_rfl)
noncomputable def S22_5 (c : CF) (r1 : A4) (t0 t5 t6 t7 t8 : AV) (h : Heap) : Res := opt (fieldAddrX 0 t8) fun t25 => opt (loadX none t25 h) fun t26 => opt2 (c 29 [t26] h) fun t27 h1 => opt (extractX t27 0) fun t28 => opt (extractX t27 1) fun t29 => opt (extractX t27 2) fun t30 => opt2 (box (.agg [eL,nL,nL,nL,nL,nL,nL,nL]) h1) fun t9 h2 => optH (storeX 8 t9 t28 h2) fun h3 => S22_4 c r1 t0 t5 t6 t7 t8 t9 t29 h3
theorem TS22_5 (c : CF) (r1 : A4) : (rk d22 P0 c 50 c22.s3.fst.snd.bd.bd.snd.fst.bd.snd).1 (L4 (S22_2 c r1) 0 5 6 7) [(1,(L4 (S22_2 c r1) 0 5 6 7)),(0,(L2 (S22_0 c) 5 6))] k22 gK = L5 (S22_5 c r1) 0 5 6 7 8 := Eq.trans (seq_t (by kernel_rfl) (TS22_4 c r1) rfl) (by funext s h; kernel_rfl)
noncomputable def S22_6 (c : CF) (r1 : A4) (t0 t5 t6 t7 : AV) (h : Heap) : Res := opt (indexAddrS 1 t0 t7 h) fun t20 => opt (loadX none t20 h) fun t21 => opt2 (c 28 [t21,t6] h) fun t23 h1 => opt2 (box (.agg [nL,nL,(iL 0),(iL 0),eL]) h1) fun t8 h2 => optH (storeX 5 t8 t23 h2) fun h3 => S22_5 c r1 t0 t5 t6 t7 t8 h3
theorem TS22_6 (c : CF) (r1 : A4) : (rk d22 P0 c 50 c22.s3.fst.snd.bd.bd.snd).1 (L4 r1 0 5 6 7) [(0,(L2 (S22_0 c) 5 6))] k22 gK = L4 (S22_6 c r1) 0 5 6 7 := Eq.trans (seq_t (by kernel_rfl) (TS22_2 c r1) (block_t (id := 1) (by kernel_rfl) (seq_t (by kernel_rfl) (TS22_5 c r1) rfl))) (by funext s h; kernel_rfl)
noncomputable def S22_7b (c : CF) (r1 : A4) (t0 t5 t6 t7 : AV) (h : Heap) : Res := opt (lenS t0) fun t14 => opt (fastBin .lss t7 t14) fun t15 => test t15 (S22_6 c r1 t0 t5 t6 t7 h) (S22_0 c t5 t6 h)
theorem TS22_7b (c : CF) (r1 : A4) : (rk d22 P0 c 50 c22.s3.fst.snd.bd.bd).1 (L4 r1 0 5 6 7) [(0,(L2 (S22_0 c) 5 6))] k22 gK = L4 (S22_7b c r1) 0 5 6 7 := Eq.trans (seq_t (by kernel_rfl) (TS22_6 c r1) rfl) (by funext s h; kernel_rfl)
noncomputable def S22_1l (c : CF) : Nat → A4
  | 0 => fun _ _ _ _ _ => none
  | k + 1 => S22_7b c (S22_1l c k)
theorem TS22_1l (c : CF) : (rk d22 P0 c 50 c22.s3.fst.snd.bd).1 (L2 (S22_0 c) 5 6) [(0,(L2 (S22_0 c) 5 6))] k22 gK = L4 (S22_1l c rounds) 0 5 6 7 := loop_t (by kernel_rfl) (loop_ind (A := fun m => L4 (S22_1l c m) 0 5 6 7) rfl (fun m => TS22_7b c (S22_1l c m)) rounds)
noncomputable def S22_8 (c : CF) (t0 t5 t6 t7 : AV) (h : Heap) : Res := S22_1l c rounds t0 t5 t6 t7 h
theorem TS22_8 (c : CF) : (rk d22 P0 c 50 c22.s3.fst.snd).1 (L2 (S22_0 c) 5 6) [] k22 gK = L4 (S22_8 c) 0 5 6 7 := Eq.trans (block_t (id := 0) (by kernel_rfl) (TS22_1l c)) (by funext s h; kernel_rfl)
noncomputable def S22_9 (c : CF) (t0 t5 t6 : AV) (h : Heap) : Res := S22_8 c t0 t5 t6 (iL 0) h
theorem TS22_9 (c : CF) : (rk d22 P0 c 50 c22.s3).1 k22 [] k22 gK = L3 (S22_9 c) 0 5 6 := Eq.trans (seq_t (by kernel_rfl) (TS22_0 c) (seq_t (by kernel_rfl) (TS22_8 c) rfl)) (by funext s h; kernel_rfl)
noncomputable def S22_10 (c : CF) (t0 t5 : AV) (h : Heap) : Res := S22_9 c t0 t5 nL h
theorem TS22_10 (c : CF) : (rk d22 P0 c 50 c22.s2).1 k22 [] k22 gK = L2 (S22_10 c) 0 5 := Eq.trans (seq_t (by kernel_rfl) (TS22_9 c) rfl) (by funext s h; kernel_rfl)
noncomputable def S22_11 (c : CF) (t0 : AV) (h : Heap) : Res := S22_10 c t0 nL h
theorem TS22_11 (c : CF) : (rk d22 P0 c 50 c22.snd).1 k22 [] k22 gK = L1 (S22_11 c) 0 := Eq.trans (seq_t (by kernel_rfl) (TS22_10 c) rfl) (by funext s h; kernel_rfl)
noncomputable def F22 (c : CF) (a0 : AV) (h : Heap) : Res := S22_11 c a0 h
theorem TF22 (c : CF) (a0 : AV) (h : Heap) : (rk d22 P0 c 50 c22).1 k22 [] k22 gK (argsTr gl 0 [a0]) h = F22 c a0 h := Eq.trans (congrFun (congrFun (seq_t (by kernel_rfl) (TS22_11 c) rfl) _) _) (by kernel_rfl)
noncomputable def N22 : FnF := n1 F22
theorem N22_ok [Nu] : FnOk P0 gl 22 N22 := n1_ok namesOk mixedOrders lowOk Tryz.func22 (by kernel_rfl) (by kernel_rfl) (by kernel_rfl) TF22
noncomputable def c24 : Code := codeOf Tryz.f24
noncomputable def k24 : Kt := finK P0 Tryz.f24.results.toList
def d24 : List Nat := [3]
noncomputable def S24_1 (c : CF) (r0 : Nat → A2) (t10 t12 : AV) (h : Heap) : Res := opt2 (c 45 [t12] h) fun t43 h1 => opt2 (c 46 [t12] h1) fun t45 h2 => optH (storeX 6 t10 t43 h2) fun h3 => opt (loadX (some 6) t10 h3) fun res => some ((.tup [res,t45]),h3)
theorem TS24_1 (c : CF) (r0 : Nat → A2) : (rk d24 P0 c 46 (c24.snd.bd.at_ 0).s2).1 k24 [] k24 (fun l s h => r0 l (s.rd 10) (s.rd 12) h) = L2 (S24_1 c r0) 10 12 := by funext s h; kernel_rfl
noncomputable def S24_2 (c : CF) (r0 : Nat → A2) (t10 t12 : AV) (h : Heap) : Res := opt2 (c 41 [t12] h) fun t28 h1 => opt (notX t28) fun t29 => test t29 (opt2 (c 42 [t12] h1) fun t32 h2 => test t32 (opt2 (c 43 [t12] h2) fun t36 h3 => test t36 (opt2 (c 44 [t12] h3) fun t40 h4 => test t40 (r0 0 t10 t12 h4) (S24_1 c r0 t10 t12 h4)) (S24_1 c r0 t10 t12 h3)) (S24_1 c r0 t10 t12 h2)) (S24_1 c r0 t10 t12 h1)
theorem TS24_2 (c : CF) (r0 : Nat → A2) : (rk d24 P0 c 46 (c24.snd.bd.at_ 0).snd).1 k24 [] k24 (fun l s h => r0 l (s.rd 10) (s.rd 12) h) = L2 (S24_2 c r0) 10 12 := Eq.trans (seq_t (by kernel_rfl) (TS24_1 c r0) rfl) (by funext s h; kernel_rfl)
noncomputable def S24_3L0_ (c : CF) (r0 : Nat → A2) (t10 t12 : AV) (h : Heap) : Res := S24_2 c r0 t10 t12 h
theorem TS24_3L0_ (c : CF) (r0 : Nat → A2) : (rk d24 P0 c 46 (c24.snd.bd.at_ 0)).1 k24 [] k24 (fun l s h => r0 l (s.rd 10) (s.rd 12) h) = L2 (S24_3L0_ c r0) 10 12 := Eq.trans (seq_t (by kernel_rfl) (TS24_2 c r0) rfl) (by funext s h; kernel_rfl)
noncomputable def S24_0g (c : CF) : Nat → Nat → A2
  | 0 => fun _ _ _ _ => none
  | k + 1 => fun l => match l with
    | 0 => S24_3L0_ c (S24_0g c k)
    | _ => fun _ _ _ => none
theorem TS24_0g (c : CF) : jumpK (fun l kg' => match (rk d24 P0 c 46 c24.snd.bd).2 l with | some f => some (f k24 [] k24 kg') | none => none) gK rounds = fun l s h => S24_0g c rounds l (s.rd 10) (s.rd 12) h := jump_ind (J := fun m => fun l s h => S24_0g c m l (s.rd 10) (s.rd 12) h) rfl (fun m l => match l with
    | 0 => by rw [show findLabel c24.snd.bd 0 = some (c24.snd.bd.at_ 0) by kernel_rfl]; exact TS24_3L0_ c (S24_0g c m)
    | l + 1 => by rw [show findLabel c24.snd.bd (l + 1) = none by kernel_rfl]; rfl) rounds
noncomputable def S24_4 (c : CF) (t10 t12 : AV) (h : Heap) : Res := opt2 (c 45 [t12] h) fun t43 h1 => opt2 (c 46 [t12] h1) fun t45 h2 => optH (storeX 6 t10 t43 h2) fun h3 => opt (loadX (some 6) t10 h3) fun res => some ((.tup [res,t45]),h3)
theorem TS24_4 (c : CF) : (rk d24 P0 c 46 c24.snd.bd.s4).1 k24 [] k24 (fun l s h => S24_0g c rounds l (s.rd 10) (s.rd 12) h) = L2 (S24_4 c) 10 12 := by funext s h; kernel_rfl
noncomputable def S24_5 (c : CF) (t10 t12 : AV) (h : Heap) : Res := opt2 (c 41 [t12] h) fun t28 h1 => opt (notX t28) fun t29 => test t29 (opt2 (c 42 [t12] h1) fun t32 h2 => test t32 (opt2 (c 43 [t12] h2) fun t36 h3 => test t36 (opt2 (c 44 [t12] h3) fun t40 h4 => test t40 (S24_0g c rounds 0 t10 t12 h4) (S24_4 c t10 t12 h4)) (S24_4 c t10 t12 h3)) (S24_4 c t10 t12 h2)) (S24_4 c t10 t12 h1)
theorem TS24_5 (c : CF) : (rk d24 P0 c 46 c24.snd.bd.s3).1 k24 [] k24 (fun l s h => S24_0g c rounds l (s.rd 10) (s.rd 12) h) = L2 (S24_5 c) 10 12 := Eq.trans (seq_t (by kernel_rfl) (TS24_4 c) rfl) (by funext s h; kernel_rfl)
noncomputable def S24_6 (c : CF) (t10 t12 : AV) (h : Heap) : Res := S24_5 c t10 t12 h
theorem TS24_6 (c : CF) : (rk d24 P0 c 46 c24.snd.bd.s2).1 k24 [] k24 (fun l s h => S24_0g c rounds l (s.rd 10) (s.rd 12) h) = L2 (S24_6 c) 10 12 := Eq.trans (seq_t (by kernel_rfl) (TS24_5 c) rfl) (by funext s h; kernel_rfl)
noncomputable def S24_7 (c : CF) (t10 t12 t13 : AV) (h : Heap) : Res := opt (fastBin .neq t13 (iL 0)) fun t24 => test t24 (none) (S24_6 c t10 t12 h)
theorem TS24_7 (c : CF) : (rk d24 P0 c 46 c24.snd.bd.snd).1 k24 [] k24 (fun l s h => S24_0g c rounds l (s.rd 10) (s.rd 12) h) = L3 (S24_7 c) 10 12 13 := Eq.trans (seq_t (by kernel_rfl) (TS24_6 c) rfl) (by funext s h; kernel_rfl)
noncomputable def S24_8 (c : CF) (t1 t2 t3 t4 t5 t10 : AV) (h : Heap) : Res := opt (loadX (some 5) t5 h) fun t15 => opt2 (c 40 [t15,t1,t2,t3,t4] h) fun t20 h1 => opt (extractX t20 0) fun t21 => opt (extractX t20 1) fun t22 => S24_7 c t10 t21 t22 h1
theorem TS24_8 (c : CF) : (rk d24 P0 c 46 c24.snd).1 k24 [] k24 gK = L6 (S24_8 c) 1 2 3 4 5 10 := Eq.trans (scope_t (by kernel_rfl) (TS24_0g c) (seq_t (by kernel_rfl) (TS24_7 c) rfl)) (by funext s h; kernel_rfl)
noncomputable def F24 (c : CF) (a0 a1 a2 a3 a4 : AV) (h : Heap) : Res := opt2 (box a0 h) fun t5 h1 => opt2 (box (.agg [(iL 0),(iL 0),(iL 0),cL,nL,nL]) h1) fun t10 h2 => S24_8 c a1 a2 a3 a4 t5 t10 h2
theorem TF24 (c : CF) (a0 a1 a2 a3 a4 : AV) (h : Heap) : (rk d24 P0 c 46 c24).1 k24 [] k24 gK (argsTr gl 0 [a0,a1,a2,a3,a4]) h = F24 c a0 a1 a2 a3 a4 h := Eq.trans (congrFun (congrFun (seq_t (by kernel_rfl) (TS24_8 c) rfl) _) _) (by kernel_rfl)
noncomputable def N24 : FnF := n5 F24
theorem N24_ok [Nu] : FnOk P0 gl 24 N24 := n5_ok namesOk mixedOrders lowOk Tryz.func24 (by kernel_rfl) (by kernel_rfl) (by kernel_rfl) TF24
noncomputable def c25 : Code := codeOf Tryz.f25
noncomputable def k25 : Kt := finK P0 Tryz.f25.results.toList
def d25 : List Nat := [2,6,7,5]
noncomputable def S25_0 (c : CF) (h : Heap) : Res := some (tL,h)
theorem TS25_0 (c : CF) : (rk d25 P0 c 62 c25.s3).1 k25 [] k25 gK = L0 (S25_0 c) := by funext s h; kernel_rfl
noncomputable def S25_2b (c : CF) (r1 : A2) (t2 t5 : AV) (h : Heap) : Res := opt (fieldAddrX 4 t2) fun t44 => opt (loadX none t44 h) fun t45 => opt (lenS t45) fun t46 => opt (fastBin .lss t5 t46) fun t47 => test t47 (none) (S25_0 c h)
theorem TS25_2b (c : CF) (r1 : A2) : (rk d25 P0 c 62 c25.s2.fst.snd.bd.bd).1 (L2 r1 2 5) [(0,(L0 (S25_0 c)))] k25 gK = L2 (S25_2b c r1) 2 5 := by funext s h; kernel_rfl
noncomputable def S25_1l (c : CF) : Nat → A2
  | 0 => fun _ _ _ => none
  | k + 1 => S25_2b c (S25_1l c k)
theorem TS25_1l (c : CF) : (rk d25 P0 c 62 c25.s2.fst.snd.bd).1 (L0 (S25_0 c)) [(0,(L0 (S25_0 c)))] k25 gK = L2 (S25_1l c rounds) 2 5 := loop_t (by kernel_rfl) (loop_ind (A := fun m => L2 (S25_1l c m) 2 5) rfl (fun m => TS25_2b c (S25_1l c m)) rounds)
noncomputable def S25_3 (c : CF) (t2 t5 : AV) (h : Heap) : Res := S25_1l c rounds t2 t5 h
theorem TS25_3 (c : CF) : (rk d25 P0 c 62 c25.s2.fst.snd).1 (L0 (S25_0 c)) [] k25 gK = L2 (S25_3 c) 2 5 := Eq.trans (block_t (id := 0) (by kernel_rfl) (TS25_1l c)) (by funext s h; kernel_rfl)
noncomputable def S25_4 (c : CF) (t2 : AV) (h : Heap) : Res := S25_3 c t2 (iL 0) h
theorem TS25_4 (c : CF) : (rk d25 P0 c 62 c25.s2).1 k25 [] k25 gK = L1 (S25_4 c) 2 := Eq.trans (seq_t (by kernel_rfl) (TS25_0 c) (seq_t (by kernel_rfl) (TS25_3 c) rfl)) (by funext s h; kernel_rfl)
noncomputable def S25_5 (c : CF) (t2 t3 : AV) (h : Heap) : Res := opt (fieldAddrX 0 t2) fun t6 => opt (loadX none t6 h) fun t7 => opt (fieldAddrX 0 t3) fun t8 => opt (loadX none t8 h) fun t9 => opt (fastBin .neq t7 t9) fun t10 => test t10 (none) (opt (fieldAddrX 1 t2) fun t12 => opt (loadX none t12 h) fun t13 => opt (fieldAddrX 1 t3) fun t14 => opt (loadX none t14 h) fun t15 => opt (fastBin .neq t13 t15) fun t16 => test t16 (none) (opt (fieldAddrX 2 t2) fun t19 => opt (loadX none t19 h) fun t20 => opt (fieldAddrX 2 t3) fun t21 => opt (loadX none t21 h) fun t22 => opt (binX P0 .none .neq 24 t20 t22) fun t23 => test t23 (none) (opt (fieldAddrX 3 t2) fun t26 => opt (loadX none t26 h) fun t27 => opt (b2sX t27 h) fun t28 => opt (fieldAddrX 3 t3) fun t29 => opt (loadX none t29 h) fun t30 => opt (b2sX t30 h) fun t31 => opt (fastBin .neq t28 t31) fun t32 => test t32 (none) (opt (fieldAddrX 4 t2) fun t35 => opt (loadX none t35 h) fun t36 => opt (lenS t36) fun t37 => opt (fieldAddrX 4 t3) fun t38 => opt (loadX none t38 h) fun t39 => opt (lenS t39) fun t40 => opt (fastBin .neq t37 t40) fun t41 => test t41 (none) (S25_4 c t2 h)))))
theorem TS25_5 (c : CF) : (rk d25 P0 c 62 c25.snd).1 k25 [] k25 gK = L2 (S25_5 c) 2 3 := Eq.trans (seq_t (by kernel_rfl) (TS25_4 c) rfl) (by funext s h; kernel_rfl)
noncomputable def F25 (c : CF) (a0 a1 : AV) (h : Heap) : Res := opt2 (box a0 h) fun t2 h1 => opt2 (box a1 h1) fun t3 h2 => S25_5 c t2 t3 h2
theorem TF25 (c : CF) (a0 a1 : AV) (h : Heap) : (rk d25 P0 c 62 c25).1 k25 [] k25 gK (argsTr gl 0 [a0,a1]) h = F25 c a0 a1 h := Eq.trans (congrFun (congrFun (seq_t (by kernel_rfl) (TS25_5 c) rfl) _) _) (by kernel_rfl)
noncomputable def N25 : FnF := n2 F25
theorem N25_ok [Nu] : FnOk P0 gl 25 N25 := n2_ok namesOk mixedOrders lowOk Tryz.func25 (by kernel_rfl) (by kernel_rfl) (by kernel_rfl) TF25
noncomputable def c26 : Code := codeOf Tryz.f26
noncomputable def k26 : Kt := finK P0 Tryz.f26.results.toList
def d26 : List Nat := []
noncomputable def F26 (c : CF) (a0 : AV) (h : Heap) : Res := opt (litBi P0 .real [24] 45 [false] [a0]) fun t4 => opt2 (c 47 [t4] h) fun t5 h1 => test t5 (opt (litBi P0 .imag [24] 45 [false] [a0]) fun t8 => opt2 (c 47 [t8] h1) fun t9 h2 => some (t9,h2)) (some (fL,h1))
theorem TF26 (c : CF) (a0 : AV) (h : Heap) : (rk d26 P0 c 11 c26).1 k26 [] k26 gK (argsTr gl 0 [a0]) h = F26 c a0 h := by kernel_rfl
noncomputable def N26 : FnF := n1 F26
theorem N26_ok [Nu] : FnOk P0 gl 26 N26 := n1_ok namesOk mixedOrders lowOk Tryz.func26 (by kernel_rfl) (by kernel_rfl) (by kernel_rfl) TF26
noncomputable def c27 : Code := codeOf Tryz.f27
noncomputable def k27 : Kt := finK P0 Tryz.f27.results.toList
def d27 : List Nat := []
noncomputable def F27 (c : CF) (a0 : AV) (h : Heap) : Res := opt (litBi P0 .real [24] 45 [false] [a0]) fun t4 => opt (binX P0 .none .add 45 t4 (.lit (.float .f64 0))) fun t5 => opt (litBi P0 .imag [24] 45 [false] [a0]) fun t7 => opt (binX P0 .none .add 45 t7 (.lit (.float .f64 0))) fun t8 => opt (litBi P0 .complex [45,45] 24 [false,false] [t5,t8]) fun t9 => some (t9,h)
theorem TF27 (c : CF) (a0 : AV) (h : Heap) : (rk d27 P0 c 10 c27).1 k27 [] k27 gK (argsTr gl 0 [a0]) h = F27 c a0 h := by kernel_rfl
noncomputable def N27 : FnF := n1 F27
theorem N27_ok [Nu] : FnOk P0 gl 27 N27 := n1_ok namesOk mixedOrders lowOk Tryz.func27 (by kernel_rfl) (by kernel_rfl) (by kernel_rfl) TF27
noncomputable def c28 : Code := codeOf Tryz.f28
noncomputable def k28 : Kt := finK P0 Tryz.f28.results.toList
def d28 : List Nat := [7]
noncomputable def S28_0 (c : CF) (t4 t5 : AV) (h : Heap) : Res := opt (nilCheckX t5) fun t54 => opt (fieldAddrX 9 t54) fun t55 => opt (loadX (some 5) t55 h) fun t56 => optH (storeX 5 t4 t56 h) fun h1 => opt (loadX (some 5) t4 h1) fun res => some (res,h1)
theorem TS28_0 (c : CF) : (rk d28 P0 c 57 c28.s3).1 k28 [] k28 gK = L2 (S28_0 c) 4 5 := by funext s h; kernel_rfl
noncomputable def S28_2b (c : CF) (r1 : A5) (t4 t5 t22 t23 t24 : AV) (h : Heap) : Res := opt (fastBin .lss t24 t23) fun t25 => test t25 (opt (indexAddrS 1 t22 t24 h) fun t26 => opt (loadX none t26 h) fun t27 => opt2 (callV P0 c t27 [] h) fun t29 h1 => opt (nilCheckX t5) fun t31 => opt (fieldAddrX 9 t31) fun t32 => opt (fieldAddrX 2 t32) fun t33 => opt (loadX none t33 h1) fun t34 => opt (fastBin .neq t34 (iL 0)) fun t35 => test t35 (none) (opt (fastBin .add t24 (iL 1)) fun t52 => r1 t4 t5 t22 t23 t52 h1)) (S28_0 c t4 t5 h)
theorem TS28_2b (c : CF) (r1 : A5) : (rk d28 P0 c 57 c28.s2.fst.snd.bd.bd).1 (L5 r1 4 5 22 23 24) [(0,(L2 (S28_0 c) 4 5))] k28 gK = L5 (S28_2b c r1) 4 5 22 23 24 := by funext s h; kernel_rfl
noncomputable def S28_1l (c : CF) : Nat → A5
  | 0 => fun _ _ _ _ _ _ => none
  | k + 1 => S28_2b c (S28_1l c k)
theorem TS28_1l (c : CF) : (rk d28 P0 c 57 c28.s2.fst.snd.bd).1 (L2 (S28_0 c) 4 5) [(0,(L2 (S28_0 c) 4 5))] k28 gK = L5 (S28_1l c rounds) 4 5 22 23 24 := loop_t (by kernel_rfl) (loop_ind (A := fun m => L5 (S28_1l c m) 4 5 22 23 24) rfl (fun m => TS28_2b c (S28_1l c m)) rounds)
noncomputable def S28_3 (c : CF) (t4 t5 t22 t23 t24 : AV) (h : Heap) : Res := S28_1l c rounds t4 t5 t22 t23 t24 h
theorem TS28_3 (c : CF) : (rk d28 P0 c 57 c28.s2.fst.snd).1 (L2 (S28_0 c) 4 5) [] k28 gK = L5 (S28_3 c) 4 5 22 23 24 := Eq.trans (block_t (id := 0) (by kernel_rfl) (TS28_1l c)) (by funext s h; kernel_rfl)
noncomputable def S28_4 (c : CF) (t4 t5 : AV) (h : Heap) : Res := opt2 (bsliceX 1 (.lit .nilFunc) 5 [(0,(.fn (.func 48) [t5] [])),(1,(.fn (.func 49) [t5] [])),(2,(.fn (.func 50) [t5] [])),(3,(.fn (.func 51) [t5] [])),(4,(.fn (.func 52) [t5] []))] h) fun t22 h1 => opt (lenS t22) fun t23 => S28_3 c t4 t5 t22 t23 (iL 0) h1
theorem TS28_4 (c : CF) : (rk d28 P0 c 57 c28.s2).1 k28 [] k28 gK = L2 (S28_4 c) 4 5 := Eq.trans (seq_t (by kernel_rfl) (TS28_0 c) (seq_t (by kernel_rfl) (TS28_3 c) rfl)) (by funext s h; kernel_rfl)
noncomputable def S28_5 (c : CF) (t0 t1 t4 : AV) (h : Heap) : Res := opt (buildX [eL,nL,eL,nL,nL,nL,nL,nL,nL,nL,nL,(iL 0),(iL 0),eL] [(0,1),(1,1),(2,6),(8,1),(9,5)] [(0,t0),(1,t1)]) fun t10 => opt2 (box t10 h) fun t11 h1 => S28_4 c t4 t11 h1
theorem TS28_5 (c : CF) : (rk d28 P0 c 57 c28.snd).1 k28 [] k28 gK = L3 (S28_5 c) 0 1 4 := Eq.trans (seq_t (by kernel_rfl) (TS28_4 c) rfl) (by funext s h; kernel_rfl)
noncomputable def F28 (c : CF) (a0 a1 : AV) (h : Heap) : Res := opt2 (box (.agg [nL,nL,(iL 0),(iL 0),eL]) h) fun t4 h1 => S28_5 c a0 a1 t4 h1
theorem TF28 (c : CF) (a0 a1 : AV) (h : Heap) : (rk d28 P0 c 57 c28).1 k28 [] k28 gK (argsTr gl 0 [a0,a1]) h = F28 c a0 a1 h := Eq.trans (congrFun (congrFun (seq_t (by kernel_rfl) (TS28_5 c) rfl) _) _) (by kernel_rfl)
noncomputable def N28 : FnF := n2 F28
theorem N28_ok [Nu] : FnOk P0 gl 28 N28 := n2_ok namesOk mixedOrders lowOk Tryz.func28 (by kernel_rfl) (by kernel_rfl) (by kernel_rfl) TF28
noncomputable def c37 : Code := codeOf Tryz.f37
noncomputable def k37 : Kt := finK P0 Tryz.f37.results.toList
def d37 : List Nat := []
noncomputable def F37 (c : CF) (a0 a1 : AV) (h : Heap) : Res := opt (lenS a0) fun t6 => opt (convI .u64 t6) fun t10 => opt2 (c 76 [t10] h) fun t11 h1 => opt2 (c 75 [a0,(iL 0),t6,t11,a1] h1) fun t13 h2 => some ((.lit (.tuple #[])),h2)
theorem TF37 (c : CF) (a0 a1 : AV) (h : Heap) : (rk d37 P0 c 14 c37).1 k37 [] k37 gK (argsTr gl 0 [a0,a1]) h = F37 c a0 a1 h := by kernel_rfl
noncomputable def N37 : FnF := n2 F37
theorem N37_ok [Nu] : FnOk P0 gl 37 N37 := n2_ok namesOk mixedOrders lowOk Tryz.func37 (by kernel_rfl) (by kernel_rfl) (by kernel_rfl) TF37
noncomputable def c41 : Code := codeOf Tryz.f41
noncomputable def k41 : Kt := finK P0 Tryz.f41.results.toList
def d41 : List Nat := []
noncomputable def F41 (c : CF) (a0 : AV) (h : Heap) : Res := opt (nilCheckX a0) fun t4 => opt (fieldAddrX 25 t4) fun t5 => opt (loadX none t5 h) fun t6 => some (t6,h)
theorem TF41 (c : CF) (a0 : AV) (h : Heap) : (rk d41 P0 c 7 c41).1 k41 [] k41 gK (argsTr gl 0 [a0]) h = F41 c a0 h := by kernel_rfl
noncomputable def N41 : FnF := n1 F41
theorem N41_ok [Nu] : FnOk P0 gl 41 N41 := n1_ok namesOk mixedOrders lowOk Tryz.func41 (by kernel_rfl) (by kernel_rfl) (by kernel_rfl) TF41
noncomputable def c42 : Code := codeOf Tryz.f42
noncomputable def k42 : Kt := finK P0 Tryz.f42.results.toList
def d42 : List Nat := [2]
noncomputable def F42 (c : CF) (a0 : AV) (h : Heap) : Res := opt (nilCheckX a0) fun t4 => opt (fieldAddrX 7 t4) fun t5 => opt (loadX none t5 h) fun t6 => eqH h h (opt (nilCheckX a0) fun t8 => opt (fieldAddrX 5 t8) fun t9 => opt (loadX none t9 h) fun t10 => eqH h h (opt (fastBin .geq t6 t10) fun t11 => test t11 (none) (opt (nilCheckX a0) fun t15 => opt (fieldAddrX 25 t15) fun t16 => opt (loadX none t16 h) fun t17 => opt (notX t17) fun t18 => some (t18,h))))
theorem TF42 (c : CF) (a0 : AV) (h : Heap) : (rk d42 P0 c 19 c42).1 k42 [] k42 gK (argsTr gl 0 [a0]) h = F42 c a0 h := by kernel_rfl
noncomputable def N42 : FnF := n1 F42
theorem N42_ok [Nu] : FnOk P0 gl 42 N42 := n1_ok namesOk mixedOrders lowOk Tryz.func42 (by kernel_rfl) (by kernel_rfl) (by kernel_rfl) TF42
noncomputable def c43 : Code := codeOf Tryz.f43
noncomputable def k43 : Kt := finK P0 Tryz.f43.results.toList
def d43 : List Nat := [7,8,11,12]
noncomputable def S43_0 (c : CF) (t0 t5 : AV) (h : Heap) : Res := opt (loadX (some 9) t5 h) fun t82 => opt (nilCheckX t0) fun t83 => opt (fieldAddrX 16 t83) fun t84 => optH (storeX 9 t84 t82 h) fun h1 => some (tL,h1)
theorem TS43_0 (c : CF) : (rk d43 P0 c 85 c43.s5).1 k43 [] k43 gK = L2 (S43_0 c) 0 5 := by funext s h; kernel_rfl
noncomputable def S43_1 (c : CF) (t0 t3 t4 t5 t6 : AV) (h : Heap) : Res := opt (notX t6) fun t33 => test t33 (opt (nilCheckX t0) fun t35 => opt (fieldAddrX 0 t35) fun t36 => opt (fieldAddrX 3 t36) fun t37 => opt (loadX none t37 h) fun t38 => eqH h h (opt (nilCheckX t3) fun t40 => opt (fieldAddrX 0 t40) fun t41 => opt (loadX none t41 h) fun t42 => eqH h h (opt (indexAddrS 4 t38 t42 h) fun t43 => eqH h h (opt (fieldAddrX 3 t43) fun t44 => opt (loadX none t44 h) fun t45 => eqH h h (opt (nilCheckX t3) fun t47 => opt (fieldAddrX 1 t47) fun t48 => opt (loadX none t48 h) fun t49 => opt (lenS t45) fun t51 => opt (fastBin .geq t49 t51) fun t52 => test t52 (none) (opt (nilCheckX t3) fun t58 => opt (fieldAddrX 1 t58) fun t59 => opt (loadX none t59 h) fun t60 => opt (cutZ 1 t45 (some t60) none none h) fun t61 => opt2 (c 89 [t61,fL] h) fun t62 h1 => opt (extractX t62 0) fun t63 => opt (extractX t62 1) fun t64 => opt (extractX t62 2) fun t65 => opt (extractX t62 3) fun t66 => opt2 (box (.agg [(iL 0),(iL 0),(iL 0),(iL 0),cL,eL,nL]) h1) fun t8 h2 => optH (storeX 7 t8 t63 h2) fun h3 => opt (fastBin .neq t66 (iL 0)) fun t68 => test t68 (none) (opt (loadX (some 7) t8 h3) fun t71 => opt (buildX [(iL 0),(iL 0),(iL 0),(iL 0),cL,eL,nL,(iL 0),(iL 0)] [(0,7),(7,1),(8,1)] [(0,t71),(1,t64),(2,t65)]) fun t74 => optH (storeX 9 t5 t74 h3) fun h4 => opt (nilCheckX t0) fun t76 => opt (fieldAddrX 15 t76) fun t77 => opt (loadX none t77 h4) fun t78 => eqH h4 h4 (opt (loadX (some 2) t4 h4) fun t79 => eqH h4 h4 (opt (loadX (some 9) t5 h4) fun t80 => eqH h4 h4 (optH (mapSet P0 187 t78 t79 t80 h4) fun h5 => S43_0 c t0 t5 h5)))))))))) (S43_0 c t0 t5 h)
theorem TS43_1 (c : CF) : (rk d43 P0 c 85 c43.s4).1 k43 [] k43 gK = L5 (S43_1 c) 0 3 4 5 6 := Eq.trans (seq_t (by kernel_rfl) (TS43_0 c) rfl) (by funext s h; kernel_rfl)
noncomputable def S43_2 (c : CF) (t0 t3 t4 : AV) (h : Heap) : Res := opt (nilCheckX t0) fun t25 => opt (fieldAddrX 15 t25) fun t26 => opt (loadX none t26 h) fun t27 => eqH h h (opt (loadX (some 2) t4 h) fun t28 => eqH h h (opt (lookupA P0 187 t27 t28 true h) fun t29 => eqH h h (opt (extractX t29 0) fun t30 => opt (extractX t29 1) fun t31 => opt2 (box (.agg [(iL 0),(iL 0),(iL 0),(iL 0),cL,eL,nL,(iL 0),(iL 0)]) h) fun t5 h1 => opt (lookupA P0 187 t27 t28 true h1) fun t29_1 => eqK t29_1 t29 (eqH h1 h1 (opt (loadX (some 2) t4 h1) fun t28_1 => eqK t28_1 t28 (eqH h1 h1 (opt (loadX none t26 h1) fun t27_1 => eqK t27_1 t27 (eqH h1 h1 (optH (storeX 9 t5 t30 h1) fun h2 => S43_1 c t0 t3 t4 t5 t31 h2)))))))))
theorem TS43_2 (c : CF) : (rk d43 P0 c 85 c43.s3).1 k43 [] k43 gK = L3 (S43_2 c) 0 3 4 := Eq.trans (seq_t (by kernel_rfl) (TS43_1 c) rfl) (by funext s h; kernel_rfl)
noncomputable def S43_3 (c : CF) (t0 t3 : AV) (h : Heap) : Res := opt (nilCheckX t3) fun t15 => opt (fieldAddrX 0 t15) fun t16 => opt (loadX none t16 h) fun t17 => eqH h h (opt (nilCheckX t3) fun t19 => opt (fieldAddrX 1 t19) fun t20 => opt (loadX none t20 h) fun t21 => eqH h h (opt (buildXA [(iL 0),(iL 0)] 1 [(0,t17),(1,t21)]) fun t22 => opt2 (box (.agg [(iL 0),(iL 0)]) h) fun t4 h1 => opt (loadX none t20 h1) fun t21_1 => eqK t21_1 t21 (eqH h1 h1 (opt (loadX none t16 h1) fun t17_1 => eqK t17_1 t17 (eqH h1 h1 (optH (storeX 2 t4 t22 h1) fun h2 => S43_2 c t0 t3 t4 h2))))))
theorem TS43_3 (c : CF) : (rk d43 P0 c 85 c43.s2).1 k43 [] k43 gK = L2 (S43_3 c) 0 3 := Eq.trans (seq_t (by kernel_rfl) (TS43_2 c) rfl) (by funext s h; kernel_rfl)
noncomputable def S43_4 (c : CF) (t0 : AV) (h : Heap) : Res := opt2 (c 88 [t0] h) fun t13 h1 => S43_3 c t0 t13 h1
theorem TS43_4 (c : CF) : (rk d43 P0 c 85 c43.snd).1 k43 [] k43 gK = L1 (S43_4 c) 0 := Eq.trans (seq_t (by kernel_rfl) (TS43_3 c) rfl) (by funext s h; kernel_rfl)
noncomputable def F43 (c : CF) (a0 : AV) (h : Heap) : Res := S43_4 c a0 h
theorem TF43 (c : CF) (a0 : AV) (h : Heap) : (rk d43 P0 c 85 c43).1 k43 [] k43 gK (argsTr gl 0 [a0]) h = F43 c a0 h := Eq.trans (congrFun (congrFun (seq_t (by kernel_rfl) (TS43_4 c) rfl) _) _) (by kernel_rfl)
noncomputable def N43 : FnF := n1 F43
theorem N43_ok [Nu] : FnOk P0 gl 43 N43 := n1_ok namesOk mixedOrders lowOk Tryz.func43 (by kernel_rfl) (by kernel_rfl) (by kernel_rfl) TF43
noncomputable def c47 : Code := codeOf Tryz.f47
noncomputable def k47 : Kt := finK P0 Tryz.f47.results.toList
def d47 : List Nat := []
noncomputable def F47 (c : CF) (a0 : AV) (h : Heap) : Res := opt2 (c 101 [a0] h) fun t5 h1 => opt (binX P0 .none .eql 45 a0 t5) fun t6 => test t6 (opt2 (c 102 [a0] h1) fun t9 h2 => opt (binX P0 .none .leq 45 t9 (.lit (.float .f64 4697254411347427328))) fun t10 => some (t10,h2)) (some (fL,h1))
theorem TF47 (c : CF) (a0 : AV) (h : Heap) : (rk d47 P0 c 12 c47).1 k47 [] k47 gK (argsTr gl 0 [a0]) h = F47 c a0 h := by kernel_rfl
noncomputable def N47 : FnF := n1 F47
theorem N47_ok [Nu] : FnOk P0 gl 47 N47 := n1_ok namesOk mixedOrders lowOk Tryz.func47 (by kernel_rfl) (by kernel_rfl) (by kernel_rfl) TF47
noncomputable def c53 : Code := codeOf Tryz.f53
noncomputable def k53 : Kt := finK P0 Tryz.f53.results.toList
def d53 : List Nat := [2]
noncomputable def F53 (c : CF) (a0 a1 : AV) (h : Heap) : Res := opt (fastBin .lss a1 (iL 0)) fun t7 => test t7 (none) (opt (convI .u64 a1) fun t10 => opt2 (c 110 [a0,t10] h) fun t11 h1 => opt (convI .i64 t11) fun t14 => opt2 (c 57 [a0,t14] h1) fun t15 h2 => opt (b2sX t15 h2) fun t16 => some (t16,h2))
theorem TF53 (c : CF) (a0 a1 : AV) (h : Heap) : (rk d53 P0 c 17 c53).1 k53 [] k53 gK (argsTr gl 0 [a0,a1]) h = F53 c a0 a1 h := by kernel_rfl
noncomputable def N53 : FnF := n2 F53
theorem N53_ok [Nu] : FnOk P0 gl 53 N53 := n2_ok namesOk mixedOrders lowOk Tryz.func53 (by kernel_rfl) (by kernel_rfl) (by kernel_rfl) TF53
noncomputable def c54 : Code := codeOf Tryz.f54
noncomputable def k54 : Kt := finK P0 Tryz.f54.results.toList
def d54 : List Nat := []
noncomputable def F54 (c : CF) (a0 : AV) (h : Heap) : Res := opt2 (c 110 [a0,(.lit (.int .u64 65535))] h) fun t4 h1 => opt (convI .i64 t4) fun t5 => some (t5,h1)
theorem TF54 (c : CF) (a0 : AV) (h : Heap) : (rk d54 P0 c 6 c54).1 k54 [] k54 gK (argsTr gl 0 [a0]) h = F54 c a0 h := by kernel_rfl
noncomputable def N54 : FnF := n1 F54
theorem N54_ok [Nu] : FnOk P0 gl 54 N54 := n1_ok namesOk mixedOrders lowOk Tryz.func54 (by kernel_rfl) (by kernel_rfl) (by kernel_rfl) TF54
noncomputable def c56 : Code := codeOf Tryz.f56
noncomputable def k56 : Kt := finK P0 Tryz.f56.results.toList
def d56 : List Nat := []
noncomputable def S56_0 (c : CF) (t5 : AV) (h : Heap) : Res := some (t5,h)
theorem TS56_0 (c : CF) : (rk d56 P0 c 27 c56.s3).1 k56 [] k56 gK = L1 (S56_0 c) 5 := by funext s h; kernel_rfl
noncomputable def S56_2 (c : CF) (r1 : A4) (t0 t1 t5 t6 : AV) (h : Heap) : Res := opt2 (c 53 [t0,t1] h) fun t23 h1 => opt2 (bsliceX 1 eL 1 [(0,t23)] h1) fun t24 h2 => opt2 (appendX 1 16 t5 t24 h2) fun t25 h3 => opt (fastBin .sub t6 (.lit (.int .u64 1))) fun t19 => r1 t0 t1 t25 t19 h3
theorem TS56_2 (c : CF) (r1 : A4) : (rk d56 P0 c 27 c56.s2.fst.snd.bd.bd.snd).1 (L4 r1 0 1 5 6) [(0,(L1 (S56_0 c) 5))] k56 gK = L4 (S56_2 c r1) 0 1 5 6 := by funext s h; kernel_rfl
noncomputable def S56_3b (c : CF) (r1 : A4) (t0 t1 t5 t6 : AV) (h : Heap) : Res := opt (fastBin .gtr t6 (.lit (.int .u64 0))) fun t10 => test t10 (opt (nilCheckX t0) fun t13 => opt (fieldAddrX 2 t13) fun t14 => opt (loadX none t14 h) fun t15 => opt (notX t15) fun t16 => test t16 (S56_2 c r1 t0 t1 t5 t6 h) (S56_0 c t5 h)) (S56_0 c t5 h)
theorem TS56_3b (c : CF) (r1 : A4) : (rk d56 P0 c 27 c56.s2.fst.snd.bd.bd).1 (L4 r1 0 1 5 6) [(0,(L1 (S56_0 c) 5))] k56 gK = L4 (S56_3b c r1) 0 1 5 6 := Eq.trans (seq_t (by kernel_rfl) (TS56_2 c r1) rfl) (by funext s h; kernel_rfl)
noncomputable def S56_1l (c : CF) : Nat → A4
  | 0 => fun _ _ _ _ _ => none
  | k + 1 => S56_3b c (S56_1l c k)
theorem TS56_1l (c : CF) : (rk d56 P0 c 27 c56.s2.fst.snd.bd).1 (L1 (S56_0 c) 5) [(0,(L1 (S56_0 c) 5))] k56 gK = L4 (S56_1l c rounds) 0 1 5 6 := loop_t (by kernel_rfl) (loop_ind (A := fun m => L4 (S56_1l c m) 0 1 5 6) rfl (fun m => TS56_3b c (S56_1l c m)) rounds)
noncomputable def S56_4 (c : CF) (t0 t1 t5 t6 : AV) (h : Heap) : Res := S56_1l c rounds t0 t1 t5 t6 h
theorem TS56_4 (c : CF) : (rk d56 P0 c 27 c56.s2.fst.snd).1 (L1 (S56_0 c) 5) [] k56 gK = L4 (S56_4 c) 0 1 5 6 := Eq.trans (block_t (id := 0) (by kernel_rfl) (TS56_1l c)) (by funext s h; kernel_rfl)
noncomputable def S56_5 (c : CF) (t0 t1 t5 : AV) (h : Heap) : Res := opt2 (c 110 [t0,(.lit (.int .u64 65535))] h) fun t8 h1 => S56_4 c t0 t1 t5 t8 h1
theorem TS56_5 (c : CF) : (rk d56 P0 c 27 c56.s2).1 k56 [] k56 gK = L3 (S56_5 c) 0 1 5 := Eq.trans (seq_t (by kernel_rfl) (TS56_0 c) (seq_t (by kernel_rfl) (TS56_4 c) rfl)) (by funext s h; kernel_rfl)
noncomputable def S56_6 (c : CF) (t0 t1 : AV) (h : Heap) : Res := S56_5 c t0 t1 nL h
theorem TS56_6 (c : CF) : (rk d56 P0 c 27 c56.snd).1 k56 [] k56 gK = L2 (S56_6 c) 0 1 := Eq.trans (seq_t (by kernel_rfl) (TS56_5 c) rfl) (by funext s h; kernel_rfl)
noncomputable def F56 (c : CF) (a0 a1 : AV) (h : Heap) : Res := S56_6 c a0 a1 h
theorem TF56 (c : CF) (a0 a1 : AV) (h : Heap) : (rk d56 P0 c 27 c56).1 k56 [] k56 gK (argsTr gl 0 [a0,a1]) h = F56 c a0 a1 h := Eq.trans (congrFun (congrFun (seq_t (by kernel_rfl) (TS56_6 c) rfl) _) _) (by kernel_rfl)
noncomputable def N56 : FnF := n2 F56
theorem N56_ok [Nu] : FnOk P0 gl 56 N56 := n2_ok namesOk mixedOrders lowOk Tryz.func56 (by kernel_rfl) (by kernel_rfl) (by kernel_rfl) TF56
noncomputable def c57 : Code := codeOf Tryz.f57
noncomputable def k57 : Kt := finK P0 Tryz.f57.results.toList
def d57 : List Nat := [2,4,5]
noncomputable def S57_0 (c : CF) (t0 t1 : AV) (h : Heap) : Res := opt (nilCheckX t0) fun t15 => opt (fieldAddrX 0 t15) fun t16 => opt (loadX none t16 h) fun t17 => eqH h h (opt (lenS t17) fun t18 => opt (nilCheckX t0) fun t20 => opt (fieldAddrX 1 t20) fun t21 => opt (loadX none t21 h) fun t22 => eqH h h (opt (fastBin .sub t18 t22) fun t23 => opt (fastBin .lss t23 t1) fun t25 => test t25 (none) (opt2 (bsliceX 1 (uL 0) 0 [] h) fun t33 h1 => eqH h1 h (opt (nilCheckX t0) fun t35 => opt (fieldAddrX 0 t35) fun t36 => opt (loadX none t36 h) fun t37 => eqH h h (opt (nilCheckX t0) fun t39 => opt (fieldAddrX 1 t39) fun t40 => opt (loadX none t40 h) fun t41 => eqH h h (opt (nilCheckX t0) fun t43 => opt (fieldAddrX 1 t43) fun t44 => opt (loadX none t44 h) fun t45 => eqH h h (opt (fastBin .add t45 t1) fun t47 => opt (cutZ 1 t37 (some t41) (some t47) none h) fun t48 => eqH h h (opt2 (appendX 1 1 t33 t48 h) fun t49 h2 => opt (nilCheckX t0) fun t52 => opt (fieldAddrX 1 t52) fun t53 => opt (loadX none t53 h2) fun t54 => opt (fastBin .add t54 t1) fun t56 => opt (nilCheckX t0) fun t57 => opt (fieldAddrX 1 t57) fun t58 => optH (storeX 1 t58 t56 h2) fun h3 => some (t49,h3)))))))))
theorem TS57_0 (c : CF) : (rk d57 P0 c 60 c57.s2).1 k57 [] k57 gK = L2 (S57_0 c) 0 1 := by funext s h; kernel_rfl
noncomputable def S57_1 (c : CF) (t0 t1 : AV) (h : Heap) : Res := opt (nilCheckX t0) fun t7 => opt (fieldAddrX 2 t7) fun t8 => opt (loadX none t8 h) fun t9 => test t9 (none) (opt (fastBin .lss t1 (iL 0)) fun t12 => test t12 (none) (S57_0 c t0 t1 h))
theorem TS57_1 (c : CF) : (rk d57 P0 c 60 c57.snd).1 k57 [] k57 gK = L2 (S57_1 c) 0 1 := Eq.trans (seq_t (by kernel_rfl) (TS57_0 c) rfl) (by funext s h; kernel_rfl)
noncomputable def F57 (c : CF) (a0 a1 : AV) (h : Heap) : Res := S57_1 c a0 a1 h
theorem TF57 (c : CF) (a0 a1 : AV) (h : Heap) : (rk d57 P0 c 60 c57).1 k57 [] k57 gK (argsTr gl 0 [a0,a1]) h = F57 c a0 a1 h := Eq.trans (congrFun (congrFun (seq_t (by kernel_rfl) (TS57_1 c) rfl) _) _) (by kernel_rfl)
noncomputable def N57 : FnF := n2 F57
theorem N57_ok [Nu] : FnOk P0 gl 57 N57 := n2_ok namesOk mixedOrders lowOk Tryz.func57 (by kernel_rfl) (by kernel_rfl) (by kernel_rfl) TF57
noncomputable def c60 : Code := codeOf Tryz.f60
noncomputable def k60 : Kt := finK P0 Tryz.f60.results.toList
def d60 : List Nat := []
noncomputable def F60 (c : CF) (a0 : AV) (h : Heap) : Res := opt (lenS a0) fun t4 => opt (convI .u64 t4) fun t8 => opt2 (c 76 [t8] h) fun t9 h1 => opt2 (c 118 [a0,(iL 0),t4,t9] h1) fun t10 h2 => some ((.lit (.tuple #[])),h2)
theorem TF60 (c : CF) (a0 : AV) (h : Heap) : (rk d60 P0 c 11 c60).1 k60 [] k60 gK (argsTr gl 0 [a0]) h = F60 c a0 h := by kernel_rfl
noncomputable def N60 : FnF := n1 F60
theorem N60_ok [Nu] : FnOk P0 gl 60 N60 := n1_ok namesOk mixedOrders lowOk Tryz.func60 (by kernel_rfl) (by kernel_rfl) (by kernel_rfl) TF60
noncomputable def c63 : Code := codeOf Tryz.f63
noncomputable def k63 : Kt := finK P0 Tryz.f63.results.toList
def d63 : List Nat := []
noncomputable def F63 (c : CF) (a0 : AV) (h : Heap) : Res := opt (lenS a0) fun t4 => some (t4,h)
theorem TF63 (c : CF) (a0 : AV) (h : Heap) : (rk d63 P0 c 5 c63).1 k63 [] k63 gK (argsTr gl 0 [a0]) h = F63 c a0 h := by kernel_rfl
noncomputable def N63 : FnF := n1 F63
theorem N63_ok [Nu] : FnOk P0 gl 63 N63 := n1_ok namesOk mixedOrders lowOk Tryz.func63 (by kernel_rfl) (by kernel_rfl) (by kernel_rfl) TF63
noncomputable def c71 : Code := codeOf Tryz.f71
noncomputable def k71 : Kt := finK P0 Tryz.f71.results.toList
def d71 : List Nat := []
noncomputable def F71 (c : CF) (a0 : AV) (h : Heap) : Res := opt (binX P0 .slice .eql 25 a0 nL) fun t4 => test t4 (some (nL,h)) (opt2 (bsliceX 1 (uL 0) 0 [] h) fun t5 h1 => opt2 (appendX 1 1 t5 a0 h1) fun t7 h2 => some (t7,h2))
theorem TF71 (c : CF) (a0 : AV) (h : Heap) : (rk d71 P0 c 8 c71).1 k71 [] k71 gK (argsTr gl 0 [a0]) h = F71 c a0 h := by kernel_rfl
noncomputable def N71 : FnF := n1 F71
theorem N71_ok [Nu] : FnOk P0 gl 71 N71 := n1_ok namesOk mixedOrders lowOk Tryz.func71 (by kernel_rfl) (by kernel_rfl) (by kernel_rfl) TF71
noncomputable def c72 : Code := codeOf Tryz.f72
noncomputable def k72 : Kt := finK P0 Tryz.f72.results.toList
def d72 : List Nat := []
noncomputable def F72 (c : CF) (a0 a1 : AV) (h : Heap) : Res := opt2 (c 127 [a0,a1] h) fun t7 h1 => opt (fastBin .geq t7 (iL 0)) fun t8 => some (t8,h1)
theorem TF72 (c : CF) (a0 a1 : AV) (h : Heap) : (rk d72 P0 c 9 c72).1 k72 [] k72 gK (argsTr gl 0 [a0,a1]) h = F72 c a0 a1 h := by kernel_rfl
noncomputable def N72 : FnF := n2 F72
theorem N72_ok [Nu] : FnOk P0 gl 72 N72 := n2_ok namesOk mixedOrders lowOk Tryz.func72 (by kernel_rfl) (by kernel_rfl) (by kernel_rfl) TF72
noncomputable def c73 : Code := codeOf Tryz.f73
noncomputable def k73 : Kt := finK P0 Tryz.f73.results.toList
def d73 : List Nat := []
noncomputable def F73 (c : CF) (a0 : AV) (h : Heap) : Res := opt2 (box a0 h) fun t1 h1 => opt (fieldAddrX 2 t1) fun t4 => opt (loadX none t4 h1) fun t5 => opt (litBi P0 .max [3,3] 3 [false,true] [t5,(iL 0)]) fun t6 => opt (fieldAddrX 1 t1) fun t7 => opt (loadX none t7 h1) fun t8 => opt (lenS t8) fun t9 => opt (litBi P0 .min [3,3] 3 [false,false] [t6,t9]) fun t10 => opt (fieldAddrX 1 t1) fun t11 => opt (loadX none t11 h1) fun t12 => eqH h1 h1 (opt (cutZ 1 t12 (some t10) none none h1) fun t14 => eqH h1 h1 (opt (fieldAddrX 3 t1) fun t15 => opt (loadX none t15 h1) fun t16 => eqH h1 h1 (opt2 (c 128 [t14,t16] h1) fun t17 h2 => eqH h2 h1 (some (t17,h1)))))
theorem TF73 (c : CF) (a0 : AV) (h : Heap) : (rk d73 P0 c 18 c73).1 k73 [] k73 gK (argsTr gl 0 [a0]) h = F73 c a0 h := by kernel_rfl
noncomputable def N73 : FnF := n1 F73
theorem N73_ok [Nu] : FnOk P0 gl 73 N73 := n1_ok namesOk mixedOrders lowOk Tryz.func73 (by kernel_rfl) (by kernel_rfl) (by kernel_rfl) TF73
noncomputable def c75 : Code := codeOf Tryz.f75
noncomputable def k75 : Kt := finK P0 Tryz.f75.results.toList
def d75 : List Nat := [5,6,7,8,9,10,11,12,13,14,15,16,17,18,19,20,21,22,23,24,25,26,27,28,29,30]
noncomputable def S75_1b (c : CF) (r0 : A4) (t0 t1 t2 t4 : AV) (h : Heap) : Res := opt (fastBin .sub t2 t1) fun t23 => opt (fastBin .leq t23 (iL 12)) fun t25 => test t25 (opt2 (c 130 [t0,t1,t2,t4] h) fun t30 h1 => some ((.lit (.tuple #[])),h1)) (none)
theorem TS75_1b (c : CF) (r0 : A4) : (rk d75 P0 c 148 c75.s2.bd.bd).1 (L4 r0 0 1 2 4) [(0,k75)] k75 gK = L4 (S75_1b c r0) 0 1 2 4 := by funext s h; kernel_rfl
noncomputable def S75_0l (c : CF) : Nat → A4
  | 0 => fun _ _ _ _ _ => none
  | k + 1 => S75_1b c (S75_0l c k)
theorem TS75_0l (c : CF) : (rk d75 P0 c 148 c75.s2.bd).1 k75 [(0,k75)] k75 gK = L4 (S75_0l c rounds) 0 1 2 4 := loop_t (by kernel_rfl) (loop_ind (A := fun m => L4 (S75_0l c m) 0 1 2 4) rfl (fun m => TS75_1b c (S75_0l c m)) rounds)
noncomputable def S75_2 (c : CF) (t0 t1 t2 t4 : AV) (h : Heap) : Res := S75_0l c rounds t0 t1 t2 t4 h
theorem TS75_2 (c : CF) : (rk d75 P0 c 148 c75.s2).1 k75 [] k75 gK = L4 (S75_2 c) 0 1 2 4 := Eq.trans (block_t (id := 0) (by kernel_rfl) (TS75_0l c)) (by funext s h; kernel_rfl)
noncomputable def S75_3 (c : CF) (t0 t1 t2 t4 : AV) (h : Heap) : Res := S75_2 c t0 t1 t2 t4 h
theorem TS75_3 (c : CF) : (rk d75 P0 c 148 c75.snd).1 k75 [] k75 gK = L4 (S75_3 c) 0 1 2 4 := Eq.trans (seq_t (by kernel_rfl) (TS75_2 c) rfl) (by funext s h; kernel_rfl)
noncomputable def F75 (c : CF) (a0 a1 a2 a3 a4 : AV) (h : Heap) : Res := S75_3 c a0 a1 a2 a4 h
theorem TF75 (c : CF) (a0 a1 a2 a3 a4 : AV) (h : Heap) : (rk d75 P0 c 148 c75).1 k75 [] k75 gK (argsTr gl 0 [a0,a1,a2,a3,a4]) h = F75 c a0 a1 a2 a3 a4 h := Eq.trans (congrFun (congrFun (seq_t (by kernel_rfl) (TS75_3 c) rfl) _) _) (by kernel_rfl)
noncomputable def N75 : FnF := n5 F75
theorem N75_ok [Nu] : FnOk P0 gl 75 N75 := n5_ok namesOk mixedOrders lowOk Tryz.func75 (by kernel_rfl) (by kernel_rfl) (by kernel_rfl) TF75
noncomputable def c76 : Code := codeOf Tryz.f76
noncomputable def k76 : Kt := finK P0 Tryz.f76.results.toList
def d76 : List Nat := [1]
noncomputable def F76 (c : CF) (a0 : AV) (h : Heap) : Res := opt2 (c 139 [a0] h) fun t7 h1 => some (t7,h1)
theorem TF76 (c : CF) (a0 : AV) (h : Heap) : (rk d76 P0 c 8 c76).1 k76 [] k76 gK (argsTr gl 0 [a0]) h = F76 c a0 h := by kernel_rfl
noncomputable def N76 : FnF := n1 F76
theorem N76_ok [Nu] : FnOk P0 gl 76 N76 := n1_ok namesOk mixedOrders lowOk Tryz.func76 (by kernel_rfl) (by kernel_rfl) (by kernel_rfl) TF76
noncomputable def c80 : Code := codeOf Tryz.f80
noncomputable def k80 : Kt := finK P0 Tryz.f80.results.toList
def d80 : List Nat := []
noncomputable def S80_0 (c : CF) (t0 : AV) (h : Heap) : Res := opt2 (c 148 [t0] h) fun t17 h1 => opt (extractX t17 0) fun t18 => opt (extractX t17 1) fun t19 => opt2 (c 119 [t18] h1) fun t21 h2 => opt (fastCut t0 (some t19) none none) fun t24 => eqH h1 h1 (opt (fastCut t0 (some t19) none none) fun t24_1 => eqK t24_1 t24 (eqH h2 h2 (some ((.tup [t21,t24,tL]),h2))))
theorem TS80_0 (c : CF) : (rk d80 P0 c 25 c80.s2).1 k80 [] k80 gK = L1 (S80_0 c) 0 := by funext s h; kernel_rfl
noncomputable def S80_1 (c : CF) (t0 t14 : AV) (h : Heap) : Res := test t14 (some ((.tup [nL,eL,fL]),h)) (S80_0 c t0 h)
theorem TS80_1 (c : CF) : (rk d80 P0 c 25 c80.snd.fst.snd).1 (L1 (S80_0 c) 0) [] k80 gK = L2 (S80_1 c) 0 14 := by funext s h; kernel_rfl
noncomputable def S80_2 (c : CF) (t0 : AV) (h : Heap) : Res := opt2 (c 147 [t0] h) fun t8 h1 => opt (notX t8) fun t9 => test t9 (S80_1 c t0 tL h1) (opt (fastIndex t0 (iL 0)) fun t12 => opt (fastBin .neq t12 (uL 40)) fun t13 => S80_1 c t0 t13 h1)
theorem TS80_2 (c : CF) : (rk d80 P0 c 25 c80.snd).1 k80 [] k80 gK = L1 (S80_2 c) 0 := Eq.trans (seq_t (by kernel_rfl) (TS80_0 c) (seq_t (by kernel_rfl) (TS80_1 c) rfl)) (by funext s h; kernel_rfl)
noncomputable def F80 (c : CF) (a0 : AV) (h : Heap) : Res := S80_2 c a0 h
theorem TF80 (c : CF) (a0 : AV) (h : Heap) : (rk d80 P0 c 25 c80).1 k80 [] k80 gK (argsTr gl 0 [a0]) h = F80 c a0 h := Eq.trans (congrFun (congrFun (seq_t (by kernel_rfl) (TS80_2 c) rfl) _) _) (by kernel_rfl)
noncomputable def N80 : FnF := n1 F80
theorem N80_ok [Nu] : FnOk P0 gl 80 N80 := n1_ok namesOk mixedOrders lowOk Tryz.func80 (by kernel_rfl) (by kernel_rfl) (by kernel_rfl) TF80
noncomputable def c83 : Code := codeOf Tryz.f83
noncomputable def k83 : Kt := finK P0 Tryz.f83.results.toList
def d83 : List Nat := []
noncomputable def F83 (c : CF) (a0 : AV) (h : Heap) : Res := opt (binX P0 .slice .eql 41 a0 nL) fun t4 => test t4 (some (nL,h)) (opt2 (bsliceX 1 (iL 0) 0 [] h) fun t5 h1 => opt2 (appendX 1 8 t5 a0 h1) fun t7 h2 => some (t7,h2))
theorem TF83 (c : CF) (a0 : AV) (h : Heap) : (rk d83 P0 c 8 c83).1 k83 [] k83 gK (argsTr gl 0 [a0]) h = F83 c a0 h := by kernel_rfl
noncomputable def N83 : FnF := n1 F83
theorem N83_ok [Nu] : FnOk P0 gl 83 N83 := n1_ok namesOk mixedOrders lowOk Tryz.func83 (by kernel_rfl) (by kernel_rfl) (by kernel_rfl) TF83
noncomputable def c88 : Code := codeOf Tryz.f88
noncomputable def k88 : Kt := finK P0 Tryz.f88.results.toList
def d88 : List Nat := []
noncomputable def F88 (c : CF) (a0 : AV) (h : Heap) : Res := opt (nilCheckX a0) fun t4 => opt (fieldAddrX 8 t4) fun t5 => opt (loadX none t5 h) fun t6 => eqH h h (opt (nilCheckX a0) fun t8 => opt (fieldAddrX 8 t8) fun t9 => opt (loadX none t9 h) fun t10 => eqH h h (opt (lenS t10) fun t11 => opt (fastBin .sub t11 (iL 1)) fun t12 => opt (indexAddrS 1 t6 t12 h) fun t13 => eqH h h (opt (loadX none t13 h) fun t14 => eqH h h (some (t14,h)))))
theorem TF88 (c : CF) (a0 : AV) (h : Heap) : (rk d88 P0 c 15 c88).1 k88 [] k88 gK (argsTr gl 0 [a0]) h = F88 c a0 h := by kernel_rfl
noncomputable def N88 : FnF := n1 F88
theorem N88_ok [Nu] : FnOk P0 gl 88 N88 := n1_ok namesOk mixedOrders lowOk Tryz.func88 (by kernel_rfl) (by kernel_rfl) (by kernel_rfl) TF88
noncomputable def c89 : Code := codeOf Tryz.f89
noncomputable def k89 : Kt := finK P0 Tryz.f89.results.toList
def d89 : List Nat := [19,35,36,32]
noncomputable def S89_0 (c : CF) (t4 t9 t15 t18 : AV) (h : Heap) : Res := opt (loadX (some 7) t9 h) fun t174 => optH (storeX 7 t4 t174 h) fun h1 => opt (loadX (some 7) t4 h1) fun res => some ((.tup [res,t18,t15,(iL 0)]),h1)
theorem TS89_0 (c : CF) : (rk d89 P0 c 177 c89.s9.s6).1 k89 [] k89 gK = L4 (S89_0 c) 4 9 15 18 := by funext s h; kernel_rfl
noncomputable def S89_2b (c : CF) (r1 : A6) (t4 t9 t15 t18 t161 t162 : AV) (h : Heap) : Res := opt (fastBin .lss t162 t161) fun t163 => test t163 (opt (fieldAddrX 6 t9) fun t165 => opt (loadX none t165 h) fun t166 => opt (indexAddrS 1 t166 t162 h) fun t168 => opt (loadX none t168 h) fun t169 => opt (fastBin .add t169 t18) fun t171 => opt (indexAddrS 1 t166 t162 h) fun t172 => optH (storeX 1 t172 t171 h) fun h1 => opt (fastBin .add t162 (iL 1)) fun t173 => r1 t4 t9 t15 t18 t161 t173 h1) (S89_0 c t4 t9 t15 t18 h)
theorem TS89_2b (c : CF) (r1 : A6) : (rk d89 P0 c 177 c89.s9.s5.fst.snd.bd.bd).1 (L6 r1 4 9 15 18 161 162) [(4,(L4 (S89_0 c) 4 9 15 18))] k89 gK = L6 (S89_2b c r1) 4 9 15 18 161 162 := by funext s h; kernel_rfl
noncomputable def S89_1l (c : CF) : Nat → A6
  | 0 => fun _ _ _ _ _ _ _ => none
  | k + 1 => S89_2b c (S89_1l c k)
theorem TS89_1l (c : CF) : (rk d89 P0 c 177 c89.s9.s5.fst.snd.bd).1 (L4 (S89_0 c) 4 9 15 18) [(4,(L4 (S89_0 c) 4 9 15 18))] k89 gK = L6 (S89_1l c rounds) 4 9 15 18 161 162 := loop_t (by kernel_rfl) (loop_ind (A := fun m => L6 (S89_1l c m) 4 9 15 18 161 162) rfl (fun m => TS89_2b c (S89_1l c m)) rounds)
noncomputable def S89_3 (c : CF) (t4 t9 t15 t18 t161 t162 : AV) (h : Heap) : Res := S89_1l c rounds t4 t9 t15 t18 t161 t162 h
theorem TS89_3 (c : CF) : (rk d89 P0 c 177 c89.s9.s5.fst.snd).1 (L4 (S89_0 c) 4 9 15 18) [] k89 gK = L6 (S89_3 c) 4 9 15 18 161 162 := Eq.trans (block_t (id := 4) (by kernel_rfl) (TS89_1l c)) (by funext s h; kernel_rfl)
noncomputable def S89_4 (c : CF) (t4 t9 t15 t18 : AV) (h : Heap) : Res := opt (fieldAddrX 6 t9) fun t159 => opt (loadX none t159 h) fun t160 => opt (lenS t160) fun t161 => S89_3 c t4 t9 t15 t18 t161 (iL 0) h
theorem TS89_4 (c : CF) : (rk d89 P0 c 177 c89.s9.s5).1 k89 [] k89 gK = L4 (S89_4 c) 4 9 15 18 := Eq.trans (seq_t (by kernel_rfl) (TS89_0 c) (seq_t (by kernel_rfl) (TS89_3 c) rfl)) (by funext s h; kernel_rfl)
noncomputable def S89_5 (c : CF) (t4 t8 t9 t15 t18 : AV) (h : Heap) : Res := opt (nilCheckX t8) fun t145 => opt (fieldAddrX 0 t145) fun t146 => opt (loadX none t146 h) fun t147 => opt2 (c 163 [t147] h) fun t148 h1 => opt (extractX t148 0) fun t149 => opt (extractX t148 1) fun t150 => opt (fastBin .eql t149 (iL 0)) fun t154 => test t154 (test t154 (S89_4 c t4 t9 t15 t18 h1) (none)) (opt (fastBin .eql t149 (iL 11)) fun t155 => test t155 (S89_4 c t4 t9 t15 t18 h1) (none))
theorem TS89_5 (c : CF) : (rk d89 P0 c 177 c89.s9.s4).1 k89 [] k89 gK = L5 (S89_5 c) 4 8 9 15 18 := Eq.trans (seq_t (by kernel_rfl) (TS89_4 c) rfl) (by funext s h; kernel_rfl)
noncomputable def S89_6 (c : CF) (t0 t4 t8 t9 t15 : AV) (h : Heap) : Res := opt (lenS t0) fun t136 => opt (nilCheckX t8) fun t138 => opt (fieldAddrX 0 t138) fun t139 => opt (loadX none t139 h) fun t140 => opt2 (c 162 [t140] h) fun t141 h1 => opt (fastBin .sub t136 t141) fun t142 => S89_5 c t4 t8 t9 t15 t142 h1
theorem TS89_6 (c : CF) : (rk d89 P0 c 177 c89.s9.s3).1 k89 [] k89 gK = L5 (S89_6 c) 0 4 8 9 15 := Eq.trans (seq_t (by kernel_rfl) (TS89_5 c) rfl) (by funext s h; kernel_rfl)
noncomputable def S89_8b (c : CF) (r7 : A7) (t0 t4 t8 t9 t15 t124 t125 : AV) (h : Heap) : Res := opt (fastBin .lss t125 t124) fun t126 => test t126 (opt (fieldAddrX 6 t9) fun t127 => opt (loadX none t127 h) fun t128 => eqH h h (opt2 (c 161 [t8] h) fun t130 h1 => opt (loadX none t127 h1) fun t128_1 => eqK t128_1 t128 (eqH h1 h1 (opt2 (bsliceX 1 (iL 0) 1 [(0,t130)] h1) fun t131 h2 => eqH h2 h1 (opt2 (appendX 1 8 t128 t131 h1) fun t132 h3 => opt (fieldAddrX 6 t9) fun t133 => optH (storeX 1 t133 t132 h3) fun h4 => opt (fastBin .add t125 (iL 1)) fun t134 => r7 t0 t4 t8 t9 t15 t124 t134 h4))))) (S89_6 c t0 t4 t8 t9 t15 h)
theorem TS89_8b (c : CF) (r7 : A7) : (rk d89 P0 c 177 c89.s9.s2.fst.snd.bd.bd).1 (L7 r7 0 4 8 9 15 124 125) [(1,(L5 (S89_6 c) 0 4 8 9 15))] k89 gK = L7 (S89_8b c r7) 0 4 8 9 15 124 125 := by funext s h; kernel_rfl
noncomputable def S89_7l (c : CF) : Nat → A7
  | 0 => fun _ _ _ _ _ _ _ _ => none
  | k + 1 => S89_8b c (S89_7l c k)
theorem TS89_7l (c : CF) : (rk d89 P0 c 177 c89.s9.s2.fst.snd.bd).1 (L5 (S89_6 c) 0 4 8 9 15) [(1,(L5 (S89_6 c) 0 4 8 9 15))] k89 gK = L7 (S89_7l c rounds) 0 4 8 9 15 124 125 := loop_t (by kernel_rfl) (loop_ind (A := fun m => L7 (S89_7l c m) 0 4 8 9 15 124 125) rfl (fun m => TS89_8b c (S89_7l c m)) rounds)
noncomputable def S89_9 (c : CF) (t0 t4 t8 t9 t15 t124 t125 : AV) (h : Heap) : Res := S89_7l c rounds t0 t4 t8 t9 t15 t124 t125 h
theorem TS89_9 (c : CF) : (rk d89 P0 c 177 c89.s9.s2.fst.snd).1 (L5 (S89_6 c) 0 4 8 9 15) [] k89 gK = L7 (S89_9 c) 0 4 8 9 15 124 125 := Eq.trans (block_t (id := 1) (by kernel_rfl) (TS89_7l c)) (by funext s h; kernel_rfl)
noncomputable def S89_10 (c : CF) (t0 t4 t8 t9 t12 t15 : AV) (h : Heap) : Res := S89_9 c t0 t4 t8 t9 t15 t12 (iL 0) h
theorem TS89_10 (c : CF) : (rk d89 P0 c 177 c89.s9.s2).1 k89 [] k89 gK = L6 (S89_10 c) 0 4 8 9 12 15 := Eq.trans (seq_t (by kernel_rfl) (TS89_6 c) (seq_t (by kernel_rfl) (TS89_9 c) rfl)) (by funext s h; kernel_rfl)
noncomputable def S89_11 (c : CF) (t0 t1 t4 t8 t9 t12 t15 : AV) (h : Heap) : Res := opt (fieldAddrX 1 t9) fun t108 => opt (loadX none t108 h) fun t109 => opt2 (c 160 [t109] h) fun t110 h1 => opt (extractX t110 0) fun t111 => opt (extractX t110 1) fun t112 => test t112 (opt2 (c 161 [t8] h1) fun t115 h2 => opt (notX t1) fun t118 => test t118 (opt2 (c 156 [t8,tL] h2) fun t123 h3 => S89_10 c t0 t4 t8 t9 t12 t115 h3) (opt (fastBin .eql t115 (iL 0)) fun t121 => opt2 (c 156 [t8,t121] h2) fun t123_1 h4 => S89_10 c t0 t4 t8 t9 t12 t115 h4)) (S89_10 c t0 t4 t8 t9 t12 t15 h1)
theorem TS89_11 (c : CF) : (rk d89 P0 c 177 c89.s9.snd).1 k89 [] k89 gK = L7 (S89_11 c) 0 1 4 8 9 12 15 := Eq.trans (seq_t (by kernel_rfl) (TS89_10 c) rfl) (by funext s h; kernel_rfl)
noncomputable def S89_12 (c : CF) (t0 t1 t4 t8 t9 t12 : AV) (h : Heap) : Res := S89_11 c t0 t1 t4 t8 t9 t12 (iL 0) h
theorem TS89_12 (c : CF) : (rk d89 P0 c 177 c89.s9).1 k89 [] k89 gK = L6 (S89_12 c) 0 1 4 8 9 12 := Eq.trans (seq_t (by kernel_rfl) (TS89_11 c) rfl) (by funext s h; kernel_rfl)
noncomputable def S89_13 (c : CF) (t0 t1 t4 t8 t9 t11 t12 : AV) (h : Heap) : Res := test t11 (none) (S89_12 c t0 t1 t4 t8 t9 t12 h)
theorem TS89_13 (c : CF) : (rk d89 P0 c 177 c89.s8).1 k89 [] k89 gK = L7 (S89_13 c) 0 1 4 8 9 11 12 := Eq.trans (seq_t (by kernel_rfl) (TS89_12 c) rfl) (by funext s h; kernel_rfl)
noncomputable def S89_14 (c : CF) (t0 t1 t4 t8 t9 t11 : AV) (h : Heap) : Res := opt (fieldAddrX 2 t9) fun t100 => opt (loadX none t100 h) fun t101 => opt (litBi P0 .min [3,3] 3 [false,true] [t101,(iL 6)]) fun t102 => S89_13 c t0 t1 t4 t8 t9 t11 t102 h
theorem TS89_14 (c : CF) : (rk d89 P0 c 177 c89.s7.fst.snd.thn.snd).1 (L7 (S89_13 c) 0 1 4 8 9 11 12) [] k89 gK = L6 (S89_14 c) 0 1 4 8 9 11 := by funext s h; kernel_rfl
noncomputable def S89_15 (c : CF) (t0 t1 t4 t8 t9 t11 : AV) (h : Heap) : Res := opt (fieldAddrX 2 t9) fun t91 => opt (loadX none t91 h) fun t92 => opt (fastBin .geq t92 (iL 1)) fun t93 => test t93 (opt (fieldAddrX 2 t9) fun t95 => opt (loadX none t95 h) fun t96 => opt (fastBin .leq t96 (iL 6)) fun t97 => opt2 (c 156 [t8,t97] h) fun t99 h1 => S89_14 c t0 t1 t4 t8 t9 t11 h1) (opt2 (c 156 [t8,fL] h) fun t99_1 h2 => S89_14 c t0 t1 t4 t8 t9 t11 h2)
theorem TS89_15 (c : CF) : (rk d89 P0 c 177 c89.s7.fst.snd.thn).1 (L7 (S89_13 c) 0 1 4 8 9 11 12) [] k89 gK = L6 (S89_15 c) 0 1 4 8 9 11 := Eq.trans (seq_t (by kernel_rfl) (TS89_14 c) rfl) (by funext s h; kernel_rfl)
noncomputable def S89_16 (c : CF) (t0 t1 t4 t8 t9 t11 t12 t89 : AV) (h : Heap) : Res := test t89 (S89_15 c t0 t1 t4 t8 t9 t11 h) (S89_13 c t0 t1 t4 t8 t9 t11 t12 h)
theorem TS89_16 (c : CF) : (rk d89 P0 c 177 c89.s7.fst.snd).1 (L7 (S89_13 c) 0 1 4 8 9 11 12) [] k89 gK = L8 (S89_16 c) 0 1 4 8 9 11 12 89 := Eq.trans (cond_t (by kernel_rfl) (TS89_15 c) rfl) (by funext s h; kernel_rfl)
noncomputable def S89_17 (c : CF) (t0 t1 t4 t8 t9 t11 t12 : AV) (h : Heap) : Res := opt (fastBin .lss t12 (iL 0)) fun t89 => S89_16 c t0 t1 t4 t8 t9 t11 t12 t89 h
theorem TS89_17 (c : CF) : (rk d89 P0 c 177 c89.s7).1 k89 [] k89 gK = L7 (S89_17 c) 0 1 4 8 9 11 12 := Eq.trans (seq_t (by kernel_rfl) (TS89_13 c) (seq_t (by kernel_rfl) (TS89_16 c) rfl)) (by funext s h; kernel_rfl)
noncomputable def S89_18 (c : CF) (t0 t1 t4 t8 t9 t10 t11 t12 : AV) (h : Heap) : Res := test t10 (opt2 (c 155 [t8] h) fun t86 h1 => opt (fieldAddrX 2 t9) fun t87 => optH (storeX 1 t87 t86 h1) fun h2 => S89_17 c t0 t1 t4 t8 t9 t11 t12 h2) (S89_17 c t0 t1 t4 t8 t9 t11 t12 h)
theorem TS89_18 (c : CF) : (rk d89 P0 c 177 c89.s6).1 k89 [] k89 gK = L8 (S89_18 c) 0 1 4 8 9 10 11 12 := Eq.trans (seq_t (by kernel_rfl) (TS89_17 c) rfl) (by funext s h; kernel_rfl)
noncomputable def S89_19 (c : CF) (t0 t1 t4 t8 t9 t10 t11 t12 : AV) (h : Heap) : Res := opt (fieldAddrX 1 t9) fun t51 => opt (loadX none t51 h) fun t52 => opt (fastBin .eql t52 (iL 1)) fun t54 => test t54 (opt (nilCheckX t8) fun t56 => opt (fieldAddrX 0 t56) fun t57 => opt (loadX none t57 h) fun t58 => opt2 (c 158 [t58] h) fun t59 h1 => opt (nilCheckX t8) fun t61 => opt (fieldAddrX 0 t61) fun t62 => opt (loadX none t62 h1) fun t63 => opt2 (c 158 [t63] h1) fun t64 h2 => opt (convX P0 2 45 t59 h2) fun t66 => opt (convX P0 2 45 t64 h2) fun t68 => opt (litBi P0 .complex [45,45] 24 [false,false] [t66,t68]) fun t69 => opt (fieldAddrX 4 t9) fun t70 => optH (storeX 1 t70 t69 h2) fun h3 => opt (fieldAddrX 4 t9) fun t72 => opt (loadX none t72 h3) fun t73 => opt2 (c 26 [t73] h3) fun t74 h4 => opt2 (c 156 [t8,t74] h4) fun t75 h5 => S89_18 c t0 t1 t4 t8 t9 t10 t11 t12 h5) (opt (fastBin .eql t52 (iL 2)) fun t77 => test t77 (opt (nilCheckX t8) fun t79 => opt (fieldAddrX 0 t79) fun t80 => opt (loadX none t80 h) fun t81 => opt2 (c 159 [t81,(iL 200)] h) fun t82 h6 => opt (fieldAddrX 5 t9) fun t83 => optH (storeX 1 t83 t82 h6) fun h7 => S89_18 c t0 t1 t4 t8 t9 t10 t11 t12 h7) (S89_18 c t0 t1 t4 t8 t9 t10 t11 t12 h))
theorem TS89_19 (c : CF) : (rk d89 P0 c 177 c89.s5).1 k89 [] k89 gK = L8 (S89_19 c) 0 1 4 8 9 10 11 12 := Eq.trans (seq_t (by kernel_rfl) (TS89_18 c) rfl) (by funext s h; kernel_rfl)
noncomputable def S89_20 (c : CF) (t0 t1 t4 t8 t9 : AV) (h : Heap) : Res := opt (fieldAddrX 1 t9) fun t45 => opt (loadX none t45 h) fun t46 => opt2 (c 157 [t46] h) fun t47 h1 => opt (extractX t47 0) fun t48 => opt (extractX t47 1) fun t49 => opt (extractX t47 2) fun t50 => S89_19 c t0 t1 t4 t8 t9 t48 t49 t50 h1
theorem TS89_20 (c : CF) : (rk d89 P0 c 177 c89.s4).1 k89 [] k89 gK = L5 (S89_20 c) 0 1 4 8 9 := Eq.trans (seq_t (by kernel_rfl) (TS89_19 c) rfl) (by funext s h; kernel_rfl)
noncomputable def S89_21 (c : CF) (t0 t1 t4 t8 t9 : AV) (h : Heap) : Res := opt (lenS t0) fun t31 => opt (fastBin .eql t31 (iL 0)) fun t32 => test t32 (opt2 (c 156 [t8,tL] h) fun t43 h1 => S89_20 c t0 t1 t4 t8 t9 h1) (opt (fieldAddrX 1 t9) fun t34 => opt (loadX none t34 h) fun t35 => opt (fastBin .geq t35 (iL 1)) fun t36 => test t36 (opt (fieldAddrX 1 t9) fun t38 => opt (loadX none t38 h) fun t39 => opt (fastBin .leq t39 (iL 15)) fun t40 => opt2 (c 156 [t8,t40] h) fun t43_1 h2 => S89_20 c t0 t1 t4 t8 t9 h2) (opt2 (c 156 [t8,fL] h) fun t43_2 h3 => S89_20 c t0 t1 t4 t8 t9 h3))
theorem TS89_21 (c : CF) : (rk d89 P0 c 177 c89.s3).1 k89 [] k89 gK = L5 (S89_21 c) 0 1 4 8 9 := Eq.trans (seq_t (by kernel_rfl) (TS89_20 c) rfl) (by funext s h; kernel_rfl)
noncomputable def S89_22 (c : CF) (t0 t1 t4 t8 : AV) (h : Heap) : Res := opt2 (c 155 [t8] h) fun t27 h1 => opt (buildX [(iL 0),(iL 0),(iL 0),(iL 0),cL,eL,nL] [(0,1),(1,1),(2,1),(3,1),(4,1),(5,1),(6,1)] [(1,t27)]) fun t28 => opt2 (box (.agg [(iL 0),(iL 0),(iL 0),(iL 0),cL,eL,nL]) h1) fun t9 h2 => optH (storeX 7 t9 t28 h2) fun h3 => S89_21 c t0 t1 t4 t8 t9 h3
theorem TS89_22 (c : CF) : (rk d89 P0 c 177 c89.s2).1 k89 [] k89 gK = L4 (S89_22 c) 0 1 4 8 := Eq.trans (seq_t (by kernel_rfl) (TS89_21 c) rfl) (by funext s h; kernel_rfl)
noncomputable def S89_23 (c : CF) (t0 t1 t4 : AV) (h : Heap) : Res := opt2 (c 154 [t0] h) fun t23 h1 => opt (buildX [pL,fL] [(0,1),(1,1)] [(0,t23)]) fun t24 => opt2 (box t24 h1) fun t25 h2 => S89_22 c t0 t1 t4 t25 h2
theorem TS89_23 (c : CF) : (rk d89 P0 c 177 c89.snd).1 k89 [] k89 gK = L3 (S89_23 c) 0 1 4 := Eq.trans (seq_t (by kernel_rfl) (TS89_22 c) rfl) (by funext s h; kernel_rfl)
noncomputable def F89 (c : CF) (a0 a1 : AV) (h : Heap) : Res := opt2 (box (.agg [(iL 0),(iL 0),(iL 0),(iL 0),cL,eL,nL]) h) fun t4 h1 => S89_23 c a0 a1 t4 h1
theorem TF89 (c : CF) (a0 a1 : AV) (h : Heap) : (rk d89 P0 c 177 c89).1 k89 [] k89 gK (argsTr gl 0 [a0,a1]) h = F89 c a0 a1 h := Eq.trans (congrFun (congrFun (seq_t (by kernel_rfl) (TS89_23 c) rfl) _) _) (by kernel_rfl)
noncomputable def N89 : FnF := n2 F89
theorem N89_ok [Nu] : FnOk P0 gl 89 N89 := n2_ok namesOk mixedOrders lowOk Tryz.func89 (by kernel_rfl) (by kernel_rfl) (by kernel_rfl) TF89
noncomputable def c90 : Code := codeOf Tryz.f90
noncomputable def k90 : Kt := finK P0 Tryz.f90.results.toList
def d90 : List Nat := []
noncomputable def F90 (c : CF) (a0 a1 : AV) (h : Heap) : Res := opt2 (box a1 h) fun t3 h1 => opt2 (c 88 [a0] h1) fun t6 h2 => opt (nilCheckX t6) fun t8 => opt (fieldAddrX 3 t8) fun t9 => opt (loadX none t9 h2) fun t10 => eqH h2 h2 (opt (loadX (some 5) t3 h2) fun t11 => eqH h2 h2 (opt (lenS t10) fun t12 => opt2 (bsliceX 5 (.agg [(iL 0),(iL 0),cL,nL,nL]) 1 [(0,(.agg [(iL 0),(iL 0),cL,nL,nL]))] h2) fun t13 h3 => opt (loadX (some 5) t3 h3) fun t11_1 => eqK t11_1 t11 (eqH h3 h3 (opt (loadX none t9 h3) fun t10_1 => eqK t10_1 t10 (eqH h3 h3 (opt2 (appendX 5 80 t10 t13 h3) fun t14 h4 => opt (indexAddrS 5 t14 t12 h4) fun t15 => eqH h4 h4 (optH (storeX 5 t15 t11 h4) fun h5 => opt (nilCheckX t6) fun t16 => opt (fieldAddrX 3 t16) fun t17 => optH (storeX 1 t17 t14 h4) fun h6 => optH (storeX 1 t17 t14 h5) fun h7 => eqK dL dL (optH (storeX 5 t15 t11 h6) fun h8 => eqK dL dL (eqH h8 h7 (opt (indexAddrS 5 t14 t12 h6) fun t15_1 => eqK t15_1 t15 (eqH h6 h6 (some ((.lit (.tuple #[])),h7)))))))))))))
theorem TF90 (c : CF) (a0 a1 : AV) (h : Heap) : (rk d90 P0 c 18 c90).1 k90 [] k90 gK (argsTr gl 0 [a0,a1]) h = F90 c a0 a1 h := by kernel_rfl
noncomputable def N90 : FnF := n2 F90
theorem N90_ok [Nu] : FnOk P0 gl 90 N90 := n2_ok namesOk mixedOrders lowOk Tryz.func90 (by kernel_rfl) (by kernel_rfl) (by kernel_rfl) TF90
noncomputable def c92 : Code := codeOf Tryz.f92
noncomputable def k92 : Kt := finK P0 Tryz.f92.results.toList
def d92 : List Nat := [2]
noncomputable def F92 (c : CF) (a0 a1 : AV) (h : Heap) : Res := opt (notX a1) fun t6 => test t6 (none) (opt (nilCheckX a0) fun t10 => opt (fieldAddrX 25 t10) fun t11 => opt (loadX none t11 h) fun t12 => opt (notX t12) fun t13 => some (t13,h))
theorem TF92 (c : CF) (a0 a1 : AV) (h : Heap) : (rk d92 P0 c 14 c92).1 k92 [] k92 gK (argsTr gl 0 [a0,a1]) h = F92 c a0 a1 h := by kernel_rfl
noncomputable def N92 : FnF := n2 F92
theorem N92_ok [Nu] : FnOk P0 gl 92 N92 := n2_ok namesOk mixedOrders lowOk Tryz.func92 (by kernel_rfl) (by kernel_rfl) (by kernel_rfl) TF92
noncomputable def c101 : Code := codeOf Tryz.f101
noncomputable def k101 : Kt := finK P0 Tryz.f101.results.toList
def d101 : List Nat := []
noncomputable def F101 (c : CF) (a0 : AV) (h : Heap) : Res := opt (litCall P0 [a0] 177) fun t4 => some (t4,h)
theorem TF101 (c : CF) (a0 : AV) (h : Heap) : (rk d101 P0 c 7 c101).1 k101 [] k101 gK (argsTr gl 0 [a0]) h = F101 c a0 h := by kernel_rfl
noncomputable def N101 : FnF := n1 F101
theorem N101_ok [Nu] : FnOk P0 gl 101 N101 := n1_ok namesOk mixedOrders lowOk Tryz.func101 (by kernel_rfl) (by kernel_rfl) (by kernel_rfl) TF101
noncomputable def c102 : Code := codeOf Tryz.f102
noncomputable def k102 : Kt := finK P0 Tryz.f102.results.toList
def d102 : List Nat := []
noncomputable def F102 (c : CF) (a0 : AV) (h : Heap) : Res := opt (litCall P0 [a0] 180) fun t4 => opt (binX P0 .none .andNot 237 t4 (.lit (.int .u64 9223372036854775808))) fun t5 => opt (litCall P0 [t5] 179) fun t6 => some (t6,h)
theorem TF102 (c : CF) (a0 : AV) (h : Heap) : (rk d102 P0 c 7 c102).1 k102 [] k102 gK (argsTr gl 0 [a0]) h = F102 c a0 h := by kernel_rfl
noncomputable def N102 : FnF := n1 F102
theorem N102_ok [Nu] : FnOk P0 gl 102 N102 := n1_ok namesOk mixedOrders lowOk Tryz.func102 (by kernel_rfl) (by kernel_rfl) (by kernel_rfl) TF102
noncomputable def c107 : Code := codeOf Tryz.f107
noncomputable def k107 : Kt := finK P0 Tryz.f107.results.toList
def d107 : List Nat := [3,15]
noncomputable def F107 (c : CF) (a0 : AV) (h : Heap) : Res := opt2 (box a0 h) fun t1 h1 => opt (loadX (some 8) t1 h1) fun t9 => opt2 (c 199 [t9] h1) fun t10 h2 => opt (extractX t10 0) fun t11 => opt (extractX t10 1) fun t12 => opt (fastBin .neq t11 (iL 0)) fun t14 => test t14 (none) (opt2 (c 200 [] h2) fun t16 h3 => opt (buildX [pL] [(0,1)] [(0,t16)]) fun t17 => opt2 (box (.agg [pL]) h3) fun t6 h4 => optH (storeX 1 t6 t17 h4) fun h5 => opt (fieldAddrX 0 t6) fun t18 => opt (loadX none t18 h5) fun t19 => opt (fieldAddrX 0 t1) fun t20 => opt (loadX none t20 h5) fun t21 => opt2 (c 201 [t19,t21] h5) fun t22 h6 => opt (loadX (some 1) t6 h6) fun t23 => opt (fieldAddrX 1 t1) fun t24 => opt (loadX none t24 h6) fun t25 => opt (loadX (some 1) t6 h6) fun t26 => opt2 (c 202 [t23,t25,(.fn (.func 203) [t26] [])] h6) fun t28 h7 => opt (loadX (some 1) t6 h7) fun t29 => opt (fieldAddrX 2 t1) fun t30 => opt (loadX none t30 h7) fun t31 => opt (fieldAddrX 0 t6) fun t32 => opt (loadX none t32 h7) fun t33 => opt2 (c 204 [t29,t31,(.fn (.func 201) [t33] [])] h7) fun t35 h8 => opt (loadX (some 1) t6 h8) fun t36 => opt (fieldAddrX 3 t1) fun t37 => opt (loadX none t37 h8) fun t38 => opt (loadX (some 1) t6 h8) fun t39 => opt2 (c 205 [t36,t38,(.fn (.func 206) [t39] [])] h8) fun t41 h9 => opt (loadX (some 1) t6 h9) fun t42 => opt (fieldAddrX 4 t1) fun t43 => opt (loadX none t43 h9) fun t44 => opt (loadX (some 1) t6 h9) fun t45 => opt2 (c 207 [t42,t44,(.fn (.func 208) [t45] [])] h9) fun t47 h10 => opt (loadX (some 1) t6 h10) fun t48 => opt (fieldAddrX 5 t1) fun t49 => opt (loadX none t49 h10) fun t50 => opt (fieldAddrX 0 t6) fun t51 => opt (loadX none t51 h10) fun t52 => opt2 (c 204 [t48,t50,(.fn (.func 201) [t52] [])] h10) fun t54 h11 => opt (loadX (some 1) t6 h11) fun t55 => opt (fieldAddrX 6 t1) fun t56 => opt (loadX none t56 h11) fun t57 => opt (loadX (some 1) t6 h11) fun t58 => opt2 (c 209 [t55,t57,(.fn (.func 210) [t58] [])] h11) fun t60 h12 => opt (loadX (some 1) t6 h12) fun t61 => opt (fieldAddrX 7 t1) fun t62 => opt (loadX none t62 h12) fun t63 => opt (loadX (some 1) t6 h12) fun t64 => opt2 (c 211 [t61,t63,(.fn (.func 212) [t64] [])] h12) fun t66 h13 => opt (fieldAddrX 0 t6) fun t67 => opt (loadX none t67 h13) fun t68 => opt2 (c 213 [t68] h13) fun t69 h14 => opt (lenS t69) fun t71 => opt (fastBin .gtr t71 (iL 8192)) fun t72 => test t72 (none) (some ((.tup [t69,(iL 0)]),h14)))
theorem TF107 (c : CF) (a0 : AV) (h : Heap) : (rk d107 P0 c 74 c107).1 k107 [] k107 gK (argsTr gl 0 [a0]) h = F107 c a0 h := by kernel_rfl
noncomputable def N107 : FnF := n1 F107
theorem N107_ok [Nu] : FnOk P0 gl 107 N107 := n1_ok namesOk mixedOrders lowOk Tryz.func107 (by kernel_rfl) (by kernel_rfl) (by kernel_rfl) TF107
noncomputable def c108 : Code := codeOf Tryz.f108
noncomputable def k108 : Kt := finK P0 Tryz.f108.results.toList
def d108 : List Nat := [7,9,15]
noncomputable def S108_0 (c : CF) (t2 t4 : AV) (h : Heap) : Res := opt (fieldAddrX 1 t4) fun t47 => opt (loadX none t47 h) fun t48 => opt2 (c 216 [t48,(.fn (.func 217) [] [])] h) fun t49 h1 => opt (loadX (some 2) t4 h1) fun t50 => opt2 (c 218 [t50] h1) fun t51 h2 => opt (fastBin .neq t51 (iL 0)) fun t53 => test t53 (none) (opt (loadX (some 2) t4 h2) fun t56 => optH (storeX 2 t2 t56 h2) fun h3 => opt (loadX (some 2) t2 h3) fun res => some ((.tup [res,(iL 0)]),h3))
theorem TS108_0 (c : CF) : (rk d108 P0 c 57 c108.s3).1 k108 [] k108 gK = L2 (S108_0 c) 2 4 := by funext s h; kernel_rfl
noncomputable def S108_2b (c : CF) (r1 : A6) (t1 t2 t4 t14 t15 t16 : AV) (h : Heap) : Res := opt (fastBin .lss t16 t15) fun t17 => test t17 (opt (indexAddrS 1 t14 t16 h) fun t19 => opt (loadX none t19 h) fun t20 => opt (loadX (some 6) t1 h) fun t22 => opt2 (c 214 [t22,t20] h) fun t24 h1 => opt (extractX t24 0) fun t25 => opt (extractX t24 1) fun t26 => opt2 (box (.agg [(iL 0),eL,eL,nL]) h1) fun t7 h2 => optH (storeX 4 t7 t25 h2) fun h3 => opt (notX t26) fun t29 => test t29 (none) (opt (fieldAddrX 2 t1) fun t32 => opt (loadX none t32 h3) fun t33 => opt (cutZ 1 t33 none (some t16) none h3) fun t35 => opt2 (c 72 [t35,t20] h3) fun t37 h4 => test t37 (none) (opt (fieldAddrX 1 t4) fun t39 => opt (loadX none t39 h4) fun t40 => eqH h4 h4 (opt (loadX (some 4) t7 h4) fun t41 => eqH h4 h4 (opt2 (c 215 [t41] h4) fun t42 h5 => eqH h5 h4 (opt2 (bsliceX 4 (.agg [(iL 0),eL,eL,nL]) 1 [(0,t42)] h4) fun t43 h6 => opt (loadX none t39 h6) fun t40_1 => eqK t40_1 t40 (eqH h6 h6 (opt2 (appendX 4 64 t40 t43 h6) fun t44 h7 => opt (fieldAddrX 1 t4) fun t45 => optH (storeX 1 t45 t44 h7) fun h8 => opt (fastBin .add t16 (iL 1)) fun t46 => r1 t1 t2 t4 t14 t15 t46 h8)))))))) (S108_0 c t2 t4 h)
theorem TS108_2b (c : CF) (r1 : A6) : (rk d108 P0 c 57 c108.s2.fst.snd.bd.bd).1 (L6 r1 1 2 4 14 15 16) [(0,(L2 (S108_0 c) 2 4))] k108 gK = L6 (S108_2b c r1) 1 2 4 14 15 16 := by funext s h; kernel_rfl
noncomputable def S108_1l (c : CF) : Nat → A6
  | 0 => fun _ _ _ _ _ _ _ => none
  | k + 1 => S108_2b c (S108_1l c k)
theorem TS108_1l (c : CF) : (rk d108 P0 c 57 c108.s2.fst.snd.bd).1 (L2 (S108_0 c) 2 4) [(0,(L2 (S108_0 c) 2 4))] k108 gK = L6 (S108_1l c rounds) 1 2 4 14 15 16 := loop_t (by kernel_rfl) (loop_ind (A := fun m => L6 (S108_1l c m) 1 2 4 14 15 16) rfl (fun m => TS108_2b c (S108_1l c m)) rounds)
noncomputable def S108_3 (c : CF) (t1 t2 t4 t14 t15 t16 : AV) (h : Heap) : Res := S108_1l c rounds t1 t2 t4 t14 t15 t16 h
theorem TS108_3 (c : CF) : (rk d108 P0 c 57 c108.s2.fst.snd).1 (L2 (S108_0 c) 2 4) [] k108 gK = L6 (S108_3 c) 1 2 4 14 15 16 := Eq.trans (block_t (id := 0) (by kernel_rfl) (TS108_1l c)) (by funext s h; kernel_rfl)
noncomputable def S108_4 (c : CF) (t1 t2 t4 : AV) (h : Heap) : Res := opt (fieldAddrX 2 t1) fun t13 => opt (loadX none t13 h) fun t14 => opt (lenS t14) fun t15 => S108_3 c t1 t2 t4 t14 t15 (iL 0) h
theorem TS108_4 (c : CF) : (rk d108 P0 c 57 c108.s2).1 k108 [] k108 gK = L3 (S108_4 c) 1 2 4 := Eq.trans (seq_t (by kernel_rfl) (TS108_0 c) (seq_t (by kernel_rfl) (TS108_3 c) rfl)) (by funext s h; kernel_rfl)
noncomputable def S108_5 (c : CF) (t1 t2 : AV) (h : Heap) : Res := opt (fieldAddrX 0 t1) fun t10 => opt (loadX none t10 h) fun t11 => opt (buildX [eL,nL] [(0,1),(1,1)] [(0,t11)]) fun t12 => opt2 (box (.agg [eL,nL]) h) fun t4 h1 => optH (storeX 2 t4 t12 h1) fun h2 => S108_4 c t1 t2 t4 h2
theorem TS108_5 (c : CF) : (rk d108 P0 c 57 c108.snd).1 k108 [] k108 gK = L2 (S108_5 c) 1 2 := Eq.trans (seq_t (by kernel_rfl) (TS108_4 c) rfl) (by funext s h; kernel_rfl)
noncomputable def F108 (c : CF) (a0 : AV) (h : Heap) : Res := opt2 (box a0 h) fun t1 h1 => opt2 (box (.agg [eL,nL]) h1) fun t2 h2 => S108_5 c t1 t2 h2
theorem TF108 (c : CF) (a0 : AV) (h : Heap) : (rk d108 P0 c 57 c108).1 k108 [] k108 gK (argsTr gl 0 [a0]) h = F108 c a0 h := Eq.trans (congrFun (congrFun (seq_t (by kernel_rfl) (TS108_5 c) rfl) _) _) (by kernel_rfl)
noncomputable def N108 : FnF := n1 F108
theorem N108_ok [Nu] : FnOk P0 gl 108 N108 := n1_ok namesOk mixedOrders lowOk Tryz.func108 (by kernel_rfl) (by kernel_rfl) (by kernel_rfl) TF108
noncomputable def c110 : Code := codeOf Tryz.f110
noncomputable def k110 : Kt := finK P0 Tryz.f110.results.toList
def d110 : List Nat := [8,10,11,12,5,16,17]
noncomputable def S110_0 (c : CF) (t0 t1 t6 : AV) (h : Heap) : Res := opt (nilCheckX t0) fun t71 => opt (fieldAddrX 2 t71) fun t72 => opt (loadX none t72 h) fun t73 => opt (notX t73) fun t74 => test t74 (opt (fastBin .gtr t6 t1) fun t78 => test t78 (none) (some (t6,h))) (some (t6,h))
theorem TS110_0 (c : CF) : (rk d110 P0 c 84 c110.s4).1 k110 [] k110 gK = L3 (S110_0 c) 0 1 6 := by funext s h; kernel_rfl
noncomputable def S110_2 (c : CF) (r1 : A4) (t0 t1 t6 t7 t8 : AV) (h : Heap) : Res := opt (indexAddrS 1 t8 (iL 0) h) fun t57 => opt (loadX none t57 h) fun t58 => opt (binX P0 .none .and 5 t58 (uL 127)) fun t59 => opt (convI .u64 t59) fun t60 => opt (fastBin .mul (iL 7) t7) fun t62 => opt (convI .u64 t62) fun t63 => opt (binX P0 .none .shl 237 t60 t63) fun t64 => opt (binX P0 .none .or 237 t6 t64) fun t65 => opt (indexAddrS 1 t8 (iL 0) h) fun t67 => opt (loadX none t67 h) fun t68 => opt (fastBin .lss t68 (uL 128)) fun t69 => test t69 (S110_0 c t0 t1 t65 h) (none)
theorem TS110_2 (c : CF) (r1 : A4) : (rk d110 P0 c 84 c110.s3.fst.snd.bd.bd.snd.fst.bd.s3).1 ((rk d110 P0 c 84 c110.s3.fst.snd.bd.bd.s2).1 (L4 r1 0 1 6 7) [(0,(L3 (S110_0 c) 0 1 6))] k110 gK) [(1,((rk d110 P0 c 84 c110.s3.fst.snd.bd.bd.s2).1 (L4 r1 0 1 6 7) [(0,(L3 (S110_0 c) 0 1 6))] k110 gK)),(0,(L3 (S110_0 c) 0 1 6))] k110 gK = L5 (S110_2 c r1) 0 1 6 7 8 := by funext s h; kernel_rfl
noncomputable def S110_3 (c : CF) (r1 : A4) (t0 t1 t6 t7 t8 : AV) (h : Heap) : Res := opt (fastBin .gtr t7 (iL 9)) fun t27 => test t27 (none) (opt (fastBin .eql t7 (iL 9)) fun t30 => test t30 (opt (indexAddrS 1 t8 (iL 0) h) fun t33 => opt (loadX none t33 h) fun t34 => opt (fastBin .gtr t34 (uL 1)) fun t35 => test t35 (none) (opt (fastBin .gtr t7 (iL 0)) fun t40 => test t40 (opt (indexAddrS 1 t8 (iL 0) h) fun t43 => opt (loadX none t43 h) fun t44 => opt (fastBin .eql t44 (uL 0)) fun t45 => test t45 (none) (S110_2 c r1 t0 t1 t6 t7 t8 h)) (S110_2 c r1 t0 t1 t6 t7 t8 h))) (opt (fastBin .gtr t7 (iL 0)) fun t40_1 => test t40_1 (opt (indexAddrS 1 t8 (iL 0) h) fun t43_1 => opt (loadX none t43_1 h) fun t44_1 => opt (fastBin .eql t44_1 (uL 0)) fun t45_1 => test t45_1 (none) (S110_2 c r1 t0 t1 t6 t7 t8 h)) (S110_2 c r1 t0 t1 t6 t7 t8 h)))
theorem TS110_3 (c : CF) (r1 : A4) : (rk d110 P0 c 84 c110.s3.fst.snd.bd.bd.snd.fst.bd.s2).1 ((rk d110 P0 c 84 c110.s3.fst.snd.bd.bd.s2).1 (L4 r1 0 1 6 7) [(0,(L3 (S110_0 c) 0 1 6))] k110 gK) [(1,((rk d110 P0 c 84 c110.s3.fst.snd.bd.bd.s2).1 (L4 r1 0 1 6 7) [(0,(L3 (S110_0 c) 0 1 6))] k110 gK)),(0,(L3 (S110_0 c) 0 1 6))] k110 gK = L5 (S110_3 c r1) 0 1 6 7 8 := Eq.trans (seq_t (by kernel_rfl) (TS110_2 c r1) rfl) (by funext s h; kernel_rfl)
noncomputable def S110_4 (c : CF) (r1 : A4) (t0 t1 t6 t7 t8 : AV) (h : Heap) : Res := opt (nilCheckX t0) fun t23 => opt (fieldAddrX 2 t23) fun t24 => opt (loadX none t24 h) fun t25 => test t25 (none) (S110_3 c r1 t0 t1 t6 t7 t8 h)
theorem TS110_4 (c : CF) (r1 : A4) : (rk d110 P0 c 84 c110.s3.fst.snd.bd.bd.snd.fst.bd.snd).1 ((rk d110 P0 c 84 c110.s3.fst.snd.bd.bd.s2).1 (L4 r1 0 1 6 7) [(0,(L3 (S110_0 c) 0 1 6))] k110 gK) [(1,((rk d110 P0 c 84 c110.s3.fst.snd.bd.bd.s2).1 (L4 r1 0 1 6 7) [(0,(L3 (S110_0 c) 0 1 6))] k110 gK)),(0,(L3 (S110_0 c) 0 1 6))] k110 gK = L5 (S110_4 c r1) 0 1 6 7 8 := Eq.trans (seq_t (by kernel_rfl) (TS110_3 c r1) rfl) (by funext s h; kernel_rfl)
noncomputable def S110_5 (c : CF) (r1 : A4) (t0 t1 t6 t7 : AV) (h : Heap) : Res := opt2 (c 57 [t0,(iL 1)] h) fun t21 h1 => S110_4 c r1 t0 t1 t6 t7 t21 h1
theorem TS110_5 (c : CF) (r1 : A4) : (rk d110 P0 c 84 c110.s3.fst.snd.bd.bd.snd).1 (L4 r1 0 1 6 7) [(0,(L3 (S110_0 c) 0 1 6))] k110 gK = L4 (S110_5 c r1) 0 1 6 7 := Eq.trans (seq_t (by kernel_rfl) rfl (block_t (id := 1) (by kernel_rfl) (seq_t (by kernel_rfl) (TS110_4 c r1) rfl))) (by funext s h; kernel_rfl)
noncomputable def S110_6b (c : CF) (r1 : A4) (t0 t1 t6 t7 : AV) (h : Heap) : Res := opt (nilCheckX t0) fun t14 => opt (fieldAddrX 2 t14) fun t15 => opt (loadX none t15 h) fun t16 => opt (notX t16) fun t17 => test t17 (S110_5 c r1 t0 t1 t6 t7 h) (S110_0 c t0 t1 t6 h)
theorem TS110_6b (c : CF) (r1 : A4) : (rk d110 P0 c 84 c110.s3.fst.snd.bd.bd).1 (L4 r1 0 1 6 7) [(0,(L3 (S110_0 c) 0 1 6))] k110 gK = L4 (S110_6b c r1) 0 1 6 7 := Eq.trans (seq_t (by kernel_rfl) (TS110_5 c r1) rfl) (by funext s h; kernel_rfl)
noncomputable def S110_1l (c : CF) : Nat → A4
  | 0 => fun _ _ _ _ _ => none
  | k + 1 => S110_6b c (S110_1l c k)
theorem TS110_1l (c : CF) : (rk d110 P0 c 84 c110.s3.fst.snd.bd).1 (L3 (S110_0 c) 0 1 6) [(0,(L3 (S110_0 c) 0 1 6))] k110 gK = L4 (S110_1l c rounds) 0 1 6 7 := loop_t (by kernel_rfl) (loop_ind (A := fun m => L4 (S110_1l c m) 0 1 6 7) rfl (fun m => TS110_6b c (S110_1l c m)) rounds)
noncomputable def S110_7 (c : CF) (t0 t1 t6 t7 : AV) (h : Heap) : Res := S110_1l c rounds t0 t1 t6 t7 h
theorem TS110_7 (c : CF) : (rk d110 P0 c 84 c110.s3.fst.snd).1 (L3 (S110_0 c) 0 1 6) [] k110 gK = L4 (S110_7 c) 0 1 6 7 := Eq.trans (block_t (id := 0) (by kernel_rfl) (TS110_1l c)) (by funext s h; kernel_rfl)
noncomputable def S110_8 (c : CF) (t0 t1 t6 : AV) (h : Heap) : Res := S110_7 c t0 t1 t6 (iL 0) h
theorem TS110_8 (c : CF) : (rk d110 P0 c 84 c110.s3).1 k110 [] k110 gK = L3 (S110_8 c) 0 1 6 := Eq.trans (seq_t (by kernel_rfl) (TS110_0 c) (seq_t (by kernel_rfl) (TS110_7 c) rfl)) (by funext s h; kernel_rfl)
noncomputable def S110_9 (c : CF) (t0 t1 : AV) (h : Heap) : Res := S110_8 c t0 t1 (.lit (.int .u64 0)) h
theorem TS110_9 (c : CF) : (rk d110 P0 c 84 c110.s2).1 k110 [] k110 gK = L2 (S110_9 c) 0 1 := Eq.trans (seq_t (by kernel_rfl) (TS110_8 c) rfl) (by funext s h; kernel_rfl)
noncomputable def S110_10 (c : CF) (t0 t1 : AV) (h : Heap) : Res := opt (nilCheckX t0) fun t10 => opt (fieldAddrX 1 t10) fun t11 => opt (loadX none t11 h) fun t12 => S110_9 c t0 t1 h
theorem TS110_10 (c : CF) : (rk d110 P0 c 84 c110.snd).1 k110 [] k110 gK = L2 (S110_10 c) 0 1 := Eq.trans (seq_t (by kernel_rfl) (TS110_9 c) rfl) (by funext s h; kernel_rfl)
noncomputable def F110 (c : CF) (a0 a1 : AV) (h : Heap) : Res := S110_10 c a0 a1 h
theorem TF110 (c : CF) (a0 a1 : AV) (h : Heap) : (rk d110 P0 c 84 c110).1 k110 [] k110 gK (argsTr gl 0 [a0,a1]) h = F110 c a0 a1 h := Eq.trans (congrFun (congrFun (seq_t (by kernel_rfl) (TS110_10 c) rfl) _) _) (by kernel_rfl)
noncomputable def N110 : FnF := n2 F110
theorem N110_ok [Nu] : FnOk P0 gl 110 N110 := n2_ok namesOk mixedOrders lowOk Tryz.func110 (by kernel_rfl) (by kernel_rfl) (by kernel_rfl) TF110
noncomputable def c113 : Code := codeOf Tryz.f113
noncomputable def k113 : Kt := finK P0 Tryz.f113.results.toList
def d113 : List Nat := []
noncomputable def F113 (c : CF) (a0 : AV) (h : Heap) : Res := opt2 (c 221 [a0] h) fun t4 h1 => test t4 (opt2 (c 222 [a0] h1) fun t7 h2 => opt (notX t7) fun t8 => some (t8,h2)) (some (fL,h1))
theorem TF113 (c : CF) (a0 : AV) (h : Heap) : (rk d113 P0 c 10 c113).1 k113 [] k113 gK (argsTr gl 0 [a0]) h = F113 c a0 h := by kernel_rfl
noncomputable def N113 : FnF := n1 F113
theorem N113_ok [Nu] : FnOk P0 gl 113 N113 := n1_ok namesOk mixedOrders lowOk Tryz.func113 (by kernel_rfl) (by kernel_rfl) (by kernel_rfl) TF113
noncomputable def c118 : Code := codeOf Tryz.f118
noncomputable def k118 : Kt := finK P0 Tryz.f118.results.toList
def d118 : List Nat := [5,6,7,8,9,10,11,12,13,14,15,16,17,18,19,20,21,22,23,24,25,26,27,28,29,30]
noncomputable def S118_1b (c : CF) (r0 : A3) (t0 t1 t2 : AV) (h : Heap) : Res := opt (fastBin .sub t2 t1) fun t21 => opt (fastBin .leq t21 (iL 12)) fun t23 => test t23 (opt2 (c 229 [t0,t1,t2] h) fun t27 h1 => some ((.lit (.tuple #[])),h1)) (none)
theorem TS118_1b (c : CF) (r0 : A3) : (rk d118 P0 c 134 c118.s2.bd.bd).1 (L3 r0 0 1 2) [(0,k118)] k118 gK = L3 (S118_1b c r0) 0 1 2 := by funext s h; kernel_rfl
noncomputable def S118_0l (c : CF) : Nat → A3
  | 0 => fun _ _ _ _ => none
  | k + 1 => S118_1b c (S118_0l c k)
theorem TS118_0l (c : CF) : (rk d118 P0 c 134 c118.s2.bd).1 k118 [(0,k118)] k118 gK = L3 (S118_0l c rounds) 0 1 2 := loop_t (by kernel_rfl) (loop_ind (A := fun m => L3 (S118_0l c m) 0 1 2) rfl (fun m => TS118_1b c (S118_0l c m)) rounds)
noncomputable def S118_2 (c : CF) (t0 t1 t2 : AV) (h : Heap) : Res := S118_0l c rounds t0 t1 t2 h
theorem TS118_2 (c : CF) : (rk d118 P0 c 134 c118.s2).1 k118 [] k118 gK = L3 (S118_2 c) 0 1 2 := Eq.trans (block_t (id := 0) (by kernel_rfl) (TS118_0l c)) (by funext s h; kernel_rfl)
noncomputable def S118_3 (c : CF) (t0 t1 t2 : AV) (h : Heap) : Res := S118_2 c t0 t1 t2 h
theorem TS118_3 (c : CF) : (rk d118 P0 c 134 c118.snd).1 k118 [] k118 gK = L3 (S118_3 c) 0 1 2 := Eq.trans (seq_t (by kernel_rfl) (TS118_2 c) rfl) (by funext s h; kernel_rfl)
noncomputable def F118 (c : CF) (a0 a1 a2 a3 : AV) (h : Heap) : Res := S118_3 c a0 a1 a2 h
theorem TF118 (c : CF) (a0 a1 a2 a3 : AV) (h : Heap) : (rk d118 P0 c 134 c118).1 k118 [] k118 gK (argsTr gl 0 [a0,a1,a2,a3]) h = F118 c a0 a1 a2 a3 h := Eq.trans (congrFun (congrFun (seq_t (by kernel_rfl) (TS118_3 c) rfl) _) _) (by kernel_rfl)
noncomputable def N118 : FnF := n4 F118
theorem N118_ok [Nu] : FnOk P0 gl 118 N118 := n4_ok namesOk mixedOrders lowOk Tryz.func118 (by kernel_rfl) (by kernel_rfl) (by kernel_rfl) TF118
noncomputable def c119 : Code := codeOf Tryz.f119
noncomputable def k119 : Kt := finK P0 Tryz.f119.results.toList
def d119 : List Nat := []
noncomputable def F119 (c : CF) (a0 : AV) (h : Heap) : Res := opt (binX P0 .slice .eql 23 a0 nL) fun t4 => test t4 (some (nL,h)) (opt2 (bsliceX 1 eL 0 [] h) fun t5 h1 => opt2 (appendX 1 16 t5 a0 h1) fun t7 h2 => some (t7,h2))
theorem TF119 (c : CF) (a0 : AV) (h : Heap) : (rk d119 P0 c 8 c119).1 k119 [] k119 gK (argsTr gl 0 [a0]) h = F119 c a0 h := by kernel_rfl
noncomputable def N119 : FnF := n1 F119
theorem N119_ok [Nu] : FnOk P0 gl 119 N119 := n1_ok namesOk mixedOrders lowOk Tryz.func119 (by kernel_rfl) (by kernel_rfl) (by kernel_rfl) TF119
noncomputable def c122 : Code := codeOf Tryz.f122
noncomputable def k122 : Kt := finK P0 Tryz.f122.results.toList
def d122 : List Nat := [3,4,6,7,8,9,11,12,13,10,14,15,5,16]
noncomputable def F122 (c : CF) (a0 : AV) (h : Heap) : Res := opt (lenS a0) fun t7 => opt (fastBin .lss t7 (iL 2)) fun t8 => test t8 (some (a0,h)) (none)
theorem TF122 (c : CF) (a0 : AV) (h : Heap) : (rk d122 P0 c 61 c122).1 k122 [] k122 gK (argsTr gl 0 [a0]) h = F122 c a0 h := by kernel_rfl
noncomputable def N122 : FnF := n1 F122
theorem N122_ok [Nu] : FnOk P0 gl 122 N122 := n1_ok namesOk mixedOrders lowOk Tryz.func122 (by kernel_rfl) (by kernel_rfl) (by kernel_rfl) TF122
noncomputable def c127 : Code := codeOf Tryz.f127
noncomputable def k127 : Kt := finK P0 Tryz.f127.results.toList
def d127 : List Nat := []
noncomputable def S127_0 (c : CF) (h : Heap) : Res := some ((iL (-1)),h)
theorem TS127_0 (c : CF) : (rk d127 P0 c 19 c127.s2).1 k127 [] k127 gK = L0 (S127_0 c) := by funext s h; kernel_rfl
noncomputable def S127_2b (c : CF) (r1 : A4) (t0 t1 t7 t8 : AV) (h : Heap) : Res := opt (fastBin .lss t8 t7) fun t9 => test t9 (opt (indexAddrS 1 t0 t8 h) fun t14 => opt (loadX none t14 h) fun t15 => opt (fastBin .eql t1 t15) fun t16 => test t16 (some (t8,h)) (opt (fastBin .add t8 (iL 1)) fun t18 => r1 t0 t1 t7 t18 h)) (S127_0 c h)
theorem TS127_2b (c : CF) (r1 : A4) : (rk d127 P0 c 19 c127.snd.fst.snd.bd.bd).1 (L4 r1 0 1 7 8) [(0,(L0 (S127_0 c)))] k127 gK = L4 (S127_2b c r1) 0 1 7 8 := by funext s h; kernel_rfl
noncomputable def S127_1l (c : CF) : Nat → A4
  | 0 => fun _ _ _ _ _ => none
  | k + 1 => S127_2b c (S127_1l c k)
theorem TS127_1l (c : CF) : (rk d127 P0 c 19 c127.snd.fst.snd.bd).1 (L0 (S127_0 c)) [(0,(L0 (S127_0 c)))] k127 gK = L4 (S127_1l c rounds) 0 1 7 8 := loop_t (by kernel_rfl) (loop_ind (A := fun m => L4 (S127_1l c m) 0 1 7 8) rfl (fun m => TS127_2b c (S127_1l c m)) rounds)
noncomputable def S127_3 (c : CF) (t0 t1 t7 t8 : AV) (h : Heap) : Res := S127_1l c rounds t0 t1 t7 t8 h
theorem TS127_3 (c : CF) : (rk d127 P0 c 19 c127.snd.fst.snd).1 (L0 (S127_0 c)) [] k127 gK = L4 (S127_3 c) 0 1 7 8 := Eq.trans (block_t (id := 0) (by kernel_rfl) (TS127_1l c)) (by funext s h; kernel_rfl)
noncomputable def S127_4 (c : CF) (t0 t1 : AV) (h : Heap) : Res := opt (lenS t0) fun t7 => S127_3 c t0 t1 t7 (iL 0) h
theorem TS127_4 (c : CF) : (rk d127 P0 c 19 c127.snd).1 k127 [] k127 gK = L2 (S127_4 c) 0 1 := Eq.trans (seq_t (by kernel_rfl) (TS127_0 c) (seq_t (by kernel_rfl) (TS127_3 c) rfl)) (by funext s h; kernel_rfl)
noncomputable def F127 (c : CF) (a0 a1 : AV) (h : Heap) : Res := S127_4 c a0 a1 h
theorem TF127 (c : CF) (a0 a1 : AV) (h : Heap) : (rk d127 P0 c 19 c127).1 k127 [] k127 gK (argsTr gl 0 [a0,a1]) h = F127 c a0 a1 h := Eq.trans (congrFun (congrFun (seq_t (by kernel_rfl) (TS127_4 c) rfl) _) _) (by kernel_rfl)
noncomputable def N127 : FnF := n2 F127
theorem N127_ok [Nu] : FnOk P0 gl 127 N127 := n2_ok namesOk mixedOrders lowOk Tryz.func127 (by kernel_rfl) (by kernel_rfl) (by kernel_rfl) TF127
noncomputable def c128 : Code := codeOf Tryz.f128
noncomputable def k128 : Kt := finK P0 Tryz.f128.results.toList
def d128 : List Nat := []
noncomputable def F128 (c : CF) (a0 a1 : AV) (h : Heap) : Res := opt2 (c 243 [a0,(sL [44])] h) fun t6 h1 => opt (fastBin .add (sL [40]) t6) fun t7 => opt (fastBin .add t7 (sL [41])) fun t8 => opt (fastBin .add t8 a1) fun t10 => some (t10,h1)
theorem TF128 (c : CF) (a0 a1 : AV) (h : Heap) : (rk d128 P0 c 11 c128).1 k128 [] k128 gK (argsTr gl 0 [a0,a1]) h = F128 c a0 a1 h := by kernel_rfl
noncomputable def N128 : FnF := n2 F128
theorem N128_ok [Nu] : FnOk P0 gl 128 N128 := n2_ok namesOk mixedOrders lowOk Tryz.func128 (by kernel_rfl) (by kernel_rfl) (by kernel_rfl) TF128
noncomputable def c139 : Code := codeOf Tryz.f139
noncomputable def k139 : Kt := finK P0 Tryz.f139.results.toList
def d139 : List Nat := [2,3,5,6,8,9]
noncomputable def F139 (c : CF) (a0 : AV) (h : Heap) : Res := opt (fastBin .geq a0 (.lit (.int .u64 4294967296))) fun t4 => test t4 (none) (opt (fastBin .geq a0 (.lit (.int .u64 65536))) fun t8 => test t8 (none) (opt (fastBin .geq a0 (.lit (.int .u64 256))) fun t14 => test t14 (none) (opt (convI .u8 a0) fun t21 => opt (fastIndex (sL [0,1,2,2,3,3,3,3,4,4,4,4,4,4,4,4,5,5,5,5,5,5,5,5,5,5,5,5,5,5,5,5,6,6,6,6,6,6,6,6,6,6,6,6,6,6,6,6,6,6,6,6,6,6,6,6,6,6,6,6,6,6,6,6,7,7,7,7,7,7,7,7,7,7,7,7,7,7,7,7,7,7,7,7,7,7,7,7,7,7,7,7,7,7,7,7,7,7,7,7,7,7,7,7,7,7,7,7,7,7,7,7,7,7,7,7,7,7,7,7,7,7,7,7,7,7,7,7,8,8,8,8,8,8,8,8,8,8,8,8,8,8,8,8,8,8,8,8,8,8,8,8,8,8,8,8,8,8,8,8,8,8,8,8,8,8,8,8,8,8,8,8,8,8,8,8,8,8,8,8,8,8,8,8,8,8,8,8,8,8,8,8,8,8,8,8,8,8,8,8,8,8,8,8,8,8,8,8,8,8,8,8,8,8,8,8,8,8,8,8,8,8,8,8,8,8,8,8,8,8,8,8,8,8,8,8,8,8,8,8,8,8,8,8,8,8,8,8,8,8,8,8,8,8,8,8]) t21) fun t22 => opt (convI .i64 t22) fun t23 => opt (fastBin .add (iL 0) t23) fun t24 => some (t24,h))))
theorem TF139 (c : CF) (a0 : AV) (h : Heap) : (rk d139 P0 c 25 c139).1 k139 [] k139 gK (argsTr gl 0 [a0]) h = F139 c a0 h := by kernel_rfl
noncomputable def N139 : FnF := n1 F139
theorem N139_ok [Nu] : FnOk P0 gl 139 N139 := n1_ok namesOk mixedOrders lowOk Tryz.func139 (by kernel_rfl) (by kernel_rfl) (by kernel_rfl) TF139
noncomputable def c142 : Code := codeOf Tryz.f142
noncomputable def k142 : Kt := finK P0 Tryz.f142.results.toList
def d142 : List Nat := []
noncomputable def F142 (c : CF) (a0 a1 : AV) (h : Heap) : Res := opt2 (c 253 [a0,a1] h) fun t7 h1 => opt (fastBin .geq t7 (iL 0)) fun t8 => some (t8,h1)
theorem TF142 (c : CF) (a0 a1 : AV) (h : Heap) : (rk d142 P0 c 9 c142).1 k142 [] k142 gK (argsTr gl 0 [a0,a1]) h = F142 c a0 a1 h := by kernel_rfl
noncomputable def N142 : FnF := n2 F142
theorem N142_ok [Nu] : FnOk P0 gl 142 N142 := n2_ok namesOk mixedOrders lowOk Tryz.func142 (by kernel_rfl) (by kernel_rfl) (by kernel_rfl) TF142
noncomputable def c145 : Code := codeOf Tryz.f145
noncomputable def k145 : Kt := finK P0 Tryz.f145.results.toList
def d145 : List Nat := []
noncomputable def S145_0 (c : CF) (h : Heap) : Res := some ((iL (-1)),h)
theorem TS145_0 (c : CF) : (rk d145 P0 c 19 c145.s2).1 k145 [] k145 gK = L0 (S145_0 c) := by funext s h; kernel_rfl
noncomputable def S145_2b (c : CF) (r1 : A4) (t0 t1 t7 t8 : AV) (h : Heap) : Res := opt (fastBin .lss t8 t7) fun t9 => test t9 (opt (indexAddrS 3 t0 t8 h) fun t14 => opt (loadX (some 3) t14 h) fun t15 => opt2 (callV P0 c t1 [t15] h) fun t16 h1 => test t16 (some (t8,h1)) (opt (fastBin .add t8 (iL 1)) fun t18 => r1 t0 t1 t7 t18 h1)) (S145_0 c h)
theorem TS145_2b (c : CF) (r1 : A4) : (rk d145 P0 c 19 c145.snd.fst.snd.bd.bd).1 (L4 r1 0 1 7 8) [(0,(L0 (S145_0 c)))] k145 gK = L4 (S145_2b c r1) 0 1 7 8 := by funext s h; kernel_rfl
noncomputable def S145_1l (c : CF) : Nat → A4
  | 0 => fun _ _ _ _ _ => none
  | k + 1 => S145_2b c (S145_1l c k)
theorem TS145_1l (c : CF) : (rk d145 P0 c 19 c145.snd.fst.snd.bd).1 (L0 (S145_0 c)) [(0,(L0 (S145_0 c)))] k145 gK = L4 (S145_1l c rounds) 0 1 7 8 := loop_t (by kernel_rfl) (loop_ind (A := fun m => L4 (S145_1l c m) 0 1 7 8) rfl (fun m => TS145_2b c (S145_1l c m)) rounds)
noncomputable def S145_3 (c : CF) (t0 t1 t7 t8 : AV) (h : Heap) : Res := S145_1l c rounds t0 t1 t7 t8 h
theorem TS145_3 (c : CF) : (rk d145 P0 c 19 c145.snd.fst.snd).1 (L0 (S145_0 c)) [] k145 gK = L4 (S145_3 c) 0 1 7 8 := Eq.trans (block_t (id := 0) (by kernel_rfl) (TS145_1l c)) (by funext s h; kernel_rfl)
noncomputable def S145_4 (c : CF) (t0 t1 : AV) (h : Heap) : Res := opt (lenS t0) fun t7 => S145_3 c t0 t1 t7 (iL 0) h
theorem TS145_4 (c : CF) : (rk d145 P0 c 19 c145.snd).1 k145 [] k145 gK = L2 (S145_4 c) 0 1 := Eq.trans (seq_t (by kernel_rfl) (TS145_0 c) (seq_t (by kernel_rfl) (TS145_3 c) rfl)) (by funext s h; kernel_rfl)
noncomputable def F145 (c : CF) (a0 a1 : AV) (h : Heap) : Res := S145_4 c a0 a1 h
theorem TF145 (c : CF) (a0 a1 : AV) (h : Heap) : (rk d145 P0 c 19 c145).1 k145 [] k145 gK (argsTr gl 0 [a0,a1]) h = F145 c a0 a1 h := Eq.trans (congrFun (congrFun (seq_t (by kernel_rfl) (TS145_4 c) rfl) _) _) (by kernel_rfl)
noncomputable def N145 : FnF := n2 F145
theorem N145_ok [Nu] : FnOk P0 gl 145 N145 := n2_ok namesOk mixedOrders lowOk Tryz.func145 (by kernel_rfl) (by kernel_rfl) (by kernel_rfl) TF145
noncomputable def c147 : Code := codeOf Tryz.f147
noncomputable def k147 : Kt := finK P0 Tryz.f147.results.toList
def d147 : List Nat := []
noncomputable def F147 (c : CF) (a0 : AV) (h : Heap) : Res := opt (fastBin .neq a0 eL) fun t4 => test t4 (opt (lenStr a0) fun t7 => opt (fastBin .leq t7 (iL 200)) fun t8 => test t8 (opt2 (c 254 [a0] h) fun t12 h1 => opt (lenStr a0) fun t14 => opt (fastBin .eql t12 t14) fun t15 => some (t15,h1)) (some (fL,h))) (some (fL,h))
theorem TF147 (c : CF) (a0 : AV) (h : Heap) : (rk d147 P0 c 17 c147).1 k147 [] k147 gK (argsTr gl 0 [a0]) h = F147 c a0 h := by kernel_rfl
noncomputable def N147 : FnF := n1 F147
theorem N147_ok [Nu] : FnOk P0 gl 147 N147 := n1_ok namesOk mixedOrders lowOk Tryz.func147 (by kernel_rfl) (by kernel_rfl) (by kernel_rfl) TF147
noncomputable def c148 : Code := codeOf Tryz.f148
noncomputable def k148 : Kt := finK P0 Tryz.f148.results.toList
def d148 : List Nat := [9,17]
noncomputable def S148_1 (c : CF) (r0 : Nat → A3) (t0 t4 t5 t6 : AV) (h : Heap) : Res := opt (fastBin .add t5 t6) fun t37 => opt (fastCut t0 (some t5) (some t37) none) fun t38 => opt2 (bsliceX 1 eL 1 [(0,t38)] h) fun t39 h1 => opt2 (appendX 1 16 t4 t39 h1) fun t40 h2 => opt (fastBin .add t5 t6) fun t43 => opt (fastIndex t0 t43) fun t46 => opt (fastBin .eql t46 (uL 44)) fun t48 => test t48 (opt (fastBin .add t43 (iL 1)) fun t50 => r0 0 t0 t40 t50 h2) (opt (fastBin .eql t46 (uL 41)) fun t52 => test t52 (opt (fastBin .add t43 (iL 1)) fun t55 => some ((.tup [t40,t55]),h2)) (none))
theorem TS148_1 (c : CF) (r0 : Nat → A3) : (rk d148 P0 c 56 (c148.snd.bd.at_ 0).s4).1 k148 [] k148 (fun l s h => r0 l (s.rd 0) (s.rd 4) (s.rd 5) h) = L4 (S148_1 c r0) 0 4 5 6 := by funext s h; kernel_rfl
noncomputable def S148_2 (c : CF) (r0 : Nat → A3) (t0 t4 t5 t6 : AV) (h : Heap) : Res := opt (fastBin .eql t6 (iL 0)) fun t18 => test t18 (none) (opt (fastBin .add t5 t6) fun t22 => opt (lenStr t0) fun t24 => opt (fastBin .geq t22 t24) fun t25 => test t25 (none) (opt (lenS t4) fun t29 => opt (fastBin .eql t29 (iL 6)) fun t30 => test t30 (none) (S148_1 c r0 t0 t4 t5 t6 h)))
theorem TS148_2 (c : CF) (r0 : Nat → A3) : (rk d148 P0 c 56 (c148.snd.bd.at_ 0).s3).1 k148 [] k148 (fun l s h => r0 l (s.rd 0) (s.rd 4) (s.rd 5) h) = L4 (S148_2 c r0) 0 4 5 6 := Eq.trans (seq_t (by kernel_rfl) (TS148_1 c r0) rfl) (by funext s h; kernel_rfl)
noncomputable def S148_3 (c : CF) (r0 : Nat → A3) (t0 t4 t5 t6 : AV) (h : Heap) : Res := opt (lenStr t0) fun t11 => opt (fastBin .lss t5 t11) fun t12 => test t12 (opt (fastCut t0 (some t5) none none) fun t15 => opt2 (c 254 [t15] h) fun t16 h1 => S148_2 c r0 t0 t4 t5 t16 h1) (S148_2 c r0 t0 t4 t5 t6 h)
theorem TS148_3 (c : CF) (r0 : Nat → A3) : (rk d148 P0 c 56 (c148.snd.bd.at_ 0).s2).1 k148 [] k148 (fun l s h => r0 l (s.rd 0) (s.rd 4) (s.rd 5) h) = L4 (S148_3 c r0) 0 4 5 6 := Eq.trans (seq_t (by kernel_rfl) (TS148_2 c r0) rfl) (by funext s h; kernel_rfl)
noncomputable def S148_4 (c : CF) (r0 : Nat → A3) (t0 t4 t5 : AV) (h : Heap) : Res := S148_3 c r0 t0 t4 t5 (iL 0) h
theorem TS148_4 (c : CF) (r0 : Nat → A3) : (rk d148 P0 c 56 (c148.snd.bd.at_ 0).snd).1 k148 [] k148 (fun l s h => r0 l (s.rd 0) (s.rd 4) (s.rd 5) h) = L3 (S148_4 c r0) 0 4 5 := Eq.trans (seq_t (by kernel_rfl) (TS148_3 c r0) rfl) (by funext s h; kernel_rfl)
noncomputable def S148_5L0_ (c : CF) (r0 : Nat → A3) (t0 t4 t5 : AV) (h : Heap) : Res := S148_4 c r0 t0 t4 t5 h
theorem TS148_5L0_ (c : CF) (r0 : Nat → A3) : (rk d148 P0 c 56 (c148.snd.bd.at_ 0)).1 k148 [] k148 (fun l s h => r0 l (s.rd 0) (s.rd 4) (s.rd 5) h) = L3 (S148_5L0_ c r0) 0 4 5 := Eq.trans (seq_t (by kernel_rfl) (TS148_4 c r0) rfl) (by funext s h; kernel_rfl)
noncomputable def S148_0g (c : CF) : Nat → Nat → A3
  | 0 => fun _ _ _ _ _ => none
  | k + 1 => fun l => match l with
    | 0 => S148_5L0_ c (S148_0g c k)
    | _ => fun _ _ _ _ => none
theorem TS148_0g (c : CF) : jumpK (fun l kg' => match (rk d148 P0 c 56 c148.snd.bd).2 l with | some f => some (f k148 [] k148 kg') | none => none) gK rounds = fun l s h => S148_0g c rounds l (s.rd 0) (s.rd 4) (s.rd 5) h := jump_ind (J := fun m => fun l s h => S148_0g c m l (s.rd 0) (s.rd 4) (s.rd 5) h) rfl (fun m l => match l with
    | 0 => by rw [show findLabel c148.snd.bd 0 = some (c148.snd.bd.at_ 0) by kernel_rfl]; exact TS148_5L0_ c (S148_0g c m)
    | l + 1 => by rw [show findLabel c148.snd.bd (l + 1) = none by kernel_rfl]; rfl) rounds
noncomputable def S148_6 (c : CF) (t0 t4 t5 t6 : AV) (h : Heap) : Res := opt (fastBin .add t5 t6) fun t37 => opt (fastCut t0 (some t5) (some t37) none) fun t38 => opt2 (bsliceX 1 eL 1 [(0,t38)] h) fun t39 h1 => opt2 (appendX 1 16 t4 t39 h1) fun t40 h2 => opt (fastBin .add t5 t6) fun t43 => opt (fastIndex t0 t43) fun t46 => opt (fastBin .eql t46 (uL 44)) fun t48 => test t48 (opt (fastBin .add t43 (iL 1)) fun t50 => S148_0g c rounds 0 t0 t40 t50 h2) (opt (fastBin .eql t46 (uL 41)) fun t52 => test t52 (opt (fastBin .add t43 (iL 1)) fun t55 => some ((.tup [t40,t55]),h2)) (none))
theorem TS148_6 (c : CF) : (rk d148 P0 c 56 c148.snd.bd.s7).1 k148 [] k148 (fun l s h => S148_0g c rounds l (s.rd 0) (s.rd 4) (s.rd 5) h) = L4 (S148_6 c) 0 4 5 6 := by funext s h; kernel_rfl
noncomputable def S148_7 (c : CF) (t0 t4 t5 t6 : AV) (h : Heap) : Res := opt (fastBin .eql t6 (iL 0)) fun t18 => test t18 (none) (opt (fastBin .add t5 t6) fun t22 => opt (lenStr t0) fun t24 => opt (fastBin .geq t22 t24) fun t25 => test t25 (none) (opt (lenS t4) fun t29 => opt (fastBin .eql t29 (iL 6)) fun t30 => test t30 (none) (S148_6 c t0 t4 t5 t6 h)))
theorem TS148_7 (c : CF) : (rk d148 P0 c 56 c148.snd.bd.s6).1 k148 [] k148 (fun l s h => S148_0g c rounds l (s.rd 0) (s.rd 4) (s.rd 5) h) = L4 (S148_7 c) 0 4 5 6 := Eq.trans (seq_t (by kernel_rfl) (TS148_6 c) rfl) (by funext s h; kernel_rfl)
noncomputable def S148_8 (c : CF) (t0 t4 t5 t6 : AV) (h : Heap) : Res := opt (lenStr t0) fun t11 => opt (fastBin .lss t5 t11) fun t12 => test t12 (opt (fastCut t0 (some t5) none none) fun t15 => opt2 (c 254 [t15] h) fun t16 h1 => S148_7 c t0 t4 t5 t16 h1) (S148_7 c t0 t4 t5 t6 h)
theorem TS148_8 (c : CF) : (rk d148 P0 c 56 c148.snd.bd.s5).1 k148 [] k148 (fun l s h => S148_0g c rounds l (s.rd 0) (s.rd 4) (s.rd 5) h) = L4 (S148_8 c) 0 4 5 6 := Eq.trans (seq_t (by kernel_rfl) (TS148_7 c) rfl) (by funext s h; kernel_rfl)
noncomputable def S148_9 (c : CF) (t0 t4 t5 : AV) (h : Heap) : Res := S148_8 c t0 t4 t5 (iL 0) h
theorem TS148_9 (c : CF) : (rk d148 P0 c 56 c148.snd.bd.s4).1 k148 [] k148 (fun l s h => S148_0g c rounds l (s.rd 0) (s.rd 4) (s.rd 5) h) = L3 (S148_9 c) 0 4 5 := Eq.trans (seq_t (by kernel_rfl) (TS148_8 c) rfl) (by funext s h; kernel_rfl)
noncomputable def S148_10 (c : CF) (t0 t4 t5 : AV) (h : Heap) : Res := S148_9 c t0 t4 t5 h
theorem TS148_10 (c : CF) : (rk d148 P0 c 56 c148.snd.bd.s3).1 k148 [] k148 (fun l s h => S148_0g c rounds l (s.rd 0) (s.rd 4) (s.rd 5) h) = L3 (S148_10 c) 0 4 5 := Eq.trans (seq_t (by kernel_rfl) (TS148_9 c) rfl) (by funext s h; kernel_rfl)
noncomputable def S148_11 (c : CF) (t0 t4 t5 : AV) (h : Heap) : Res := opt2 (c 255 [t0,(sL [40,41])] h) fun t8 h1 => test t8 (some ((.tup [nL,(iL 2)]),h1)) (S148_10 c t0 t4 t5 h1)
theorem TS148_11 (c : CF) : (rk d148 P0 c 56 c148.snd.bd.s2).1 k148 [] k148 (fun l s h => S148_0g c rounds l (s.rd 0) (s.rd 4) (s.rd 5) h) = L3 (S148_11 c) 0 4 5 := Eq.trans (seq_t (by kernel_rfl) (TS148_10 c) rfl) (by funext s h; kernel_rfl)
noncomputable def S148_12 (c : CF) (t0 t4 : AV) (h : Heap) : Res := S148_11 c t0 t4 (iL 1) h
theorem TS148_12 (c : CF) : (rk d148 P0 c 56 c148.snd.bd.snd).1 k148 [] k148 (fun l s h => S148_0g c rounds l (s.rd 0) (s.rd 4) (s.rd 5) h) = L2 (S148_12 c) 0 4 := Eq.trans (seq_t (by kernel_rfl) (TS148_11 c) rfl) (by funext s h; kernel_rfl)
noncomputable def S148_13 (c : CF) (t0 : AV) (h : Heap) : Res := S148_12 c t0 nL h
theorem TS148_13 (c : CF) : (rk d148 P0 c 56 c148.snd).1 k148 [] k148 gK = L1 (S148_13 c) 0 := Eq.trans (scope_t (by kernel_rfl) (TS148_0g c) (seq_t (by kernel_rfl) (TS148_12 c) rfl)) (by funext s h; kernel_rfl)
noncomputable def F148 (c : CF) (a0 : AV) (h : Heap) : Res := S148_13 c a0 h
theorem TF148 (c : CF) (a0 : AV) (h : Heap) : (rk d148 P0 c 56 c148).1 k148 [] k148 gK (argsTr gl 0 [a0]) h = F148 c a0 h := Eq.trans (congrFun (congrFun (seq_t (by kernel_rfl) (TS148_13 c) rfl) _) _) (by kernel_rfl)
noncomputable def N148 : FnF := n1 F148
theorem N148_ok [Nu] : FnOk P0 gl 148 N148 := n1_ok namesOk mixedOrders lowOk Tryz.func148 (by kernel_rfl) (by kernel_rfl) (by kernel_rfl) TF148
noncomputable def c149 : Code := codeOf Tryz.f149
noncomputable def k149 : Kt := finK P0 Tryz.f149.results.toList
def d149 : List Nat := []
noncomputable def F149 (c : CF) (a0 a1 : AV) (h : Heap) : Res := opt2 (c 256 [a0,a1] h) fun t9 h1 => opt (extractX t9 0) fun t10 => opt (extractX t9 1) fun t11 => opt (extractX t9 2) fun t12 => some ((.tup [t10,t11,t12]),h1)
theorem TF149 (c : CF) (a0 a1 : AV) (h : Heap) : (rk d149 P0 c 13 c149).1 k149 [] k149 gK (argsTr gl 0 [a0,a1]) h = F149 c a0 a1 h := by kernel_rfl
noncomputable def N149 : FnF := n2 F149
theorem N149_ok [Nu] : FnOk P0 gl 149 N149 := n2_ok namesOk mixedOrders lowOk Tryz.func149 (by kernel_rfl) (by kernel_rfl) (by kernel_rfl) TF149
noncomputable def c154 : Code := codeOf Tryz.f154
noncomputable def k154 : Kt := finK P0 Tryz.f154.results.toList
def d154 : List Nat := []
noncomputable def F154 (c : CF) (a0 : AV) (h : Heap) : Res := opt2 (c 71 [a0] h) fun t4 h1 => opt (buildX [nL,(iL 0),(iL 0),(iL 0)] [(0,1),(1,1),(2,1),(3,1)] [(0,t4)]) fun t5 => opt2 (box t5 h1) fun t6 h2 => some (t6,h2)
theorem TF154 (c : CF) (a0 : AV) (h : Heap) : (rk d154 P0 c 7 c154).1 k154 [] k154 gK (argsTr gl 0 [a0]) h = F154 c a0 h := by kernel_rfl
noncomputable def N154 : FnF := n1 F154
theorem N154_ok [Nu] : FnOk P0 gl 154 N154 := n1_ok namesOk mixedOrders lowOk Tryz.func154 (by kernel_rfl) (by kernel_rfl) (by kernel_rfl) TF154
noncomputable def c155 : Code := codeOf Tryz.f155
noncomputable def k155 : Kt := finK P0 Tryz.f155.results.toList
def d155 : List Nat := [3]
noncomputable def F155 (c : CF) (a0 : AV) (h : Heap) : Res := opt (nilCheckX a0) fun t5 => opt (fieldAddrX 0 t5) fun t6 => opt (loadX none t6 h) fun t7 => opt2 (c 262 [t7,(iL 1)] h) fun t8 h1 => opt (lenS t8) fun t10 => opt (fastBin .eql t10 (iL 0)) fun t11 => test t11 (none) (opt (indexAddrS 1 t8 (iL 0) h1) fun t13 => opt (loadX none t13 h1) fun t14 => opt (convI .i64 t14) fun t15 => some (t15,h1))
theorem TF155 (c : CF) (a0 : AV) (h : Heap) : (rk d155 P0 c 16 c155).1 k155 [] k155 gK (argsTr gl 0 [a0]) h = F155 c a0 h := by kernel_rfl
noncomputable def N155 : FnF := n1 F155
theorem N155_ok [Nu] : FnOk P0 gl 155 N155 := n1_ok namesOk mixedOrders lowOk Tryz.func155 (by kernel_rfl) (by kernel_rfl) (by kernel_rfl) TF155
noncomputable def c156 : Code := codeOf Tryz.f156
noncomputable def k156 : Kt := finK P0 Tryz.f156.results.toList
def d156 : List Nat := [1]
noncomputable def F156 (c : CF) (a0 a1 : AV) (h : Heap) : Res := opt (notX a1) fun t5 => test t5 (none) (some ((.lit (.tuple #[])),h))
theorem TF156 (c : CF) (a0 a1 : AV) (h : Heap) : (rk d156 P0 c 11 c156).1 k156 [] k156 gK (argsTr gl 0 [a0,a1]) h = F156 c a0 a1 h := by kernel_rfl
noncomputable def N156 : FnF := n2 F156
theorem N156_ok [Nu] : FnOk P0 gl 156 N156 := n2_ok namesOk mixedOrders lowOk Tryz.func156 (by kernel_rfl) (by kernel_rfl) (by kernel_rfl) TF156
noncomputable def c157 : Code := codeOf Tryz.f157
noncomputable def k157 : Kt := finK P0 Tryz.f157.results.toList
def d157 : List Nat := []
noncomputable def S157_0 (c : CF) (h : Heap) : Res := some ((.tup [fL,fL,(iL 0)]),h)
theorem TS157_0 (c : CF) : (rk d157 P0 c 20 c157.s2).1 k157 [] k157 gK = L0 (S157_0 c) := by funext s h; kernel_rfl
noncomputable def S157_1 (c : CF) (t5 t15 : AV) (h : Heap) : Res := test t15 (some ((.tup [fL,fL,(iL 1)]),h)) (opt (fastBin .eql t5 (iL 10)) fun t19 => test t19 (some ((.tup [tL,fL,(iL (-1))]),h)) (S157_0 c h))
theorem TS157_1 (c : CF) : (rk d157 P0 c 20 c157.snd.fst.snd.bd.snd.els.snd.els.snd).1 (L0 (S157_0 c)) [(0,(L0 (S157_0 c)))] k157 gK = L2 (S157_1 c) 5 15 := by funext s h; kernel_rfl
noncomputable def S157_2 (c : CF) (t5 : AV) (h : Heap) : Res := opt (fastBin .eql t5 (iL 5)) fun t16 => test t16 (S157_1 c t5 t16 h) (opt (fastBin .eql t5 (iL 6)) fun t17 => S157_1 c t5 t17 h)
theorem TS157_2 (c : CF) : (rk d157 P0 c 20 c157.snd.fst.snd.bd.snd.els.snd.els).1 (L0 (S157_0 c)) [(0,(L0 (S157_0 c)))] k157 gK = L1 (S157_2 c) 5 := Eq.trans (seq_t (by kernel_rfl) (TS157_1 c) rfl) (by funext s h; kernel_rfl)
noncomputable def S157_3 (c : CF) (t5 t13 : AV) (h : Heap) : Res := test t13 (some ((.tup [tL,tL,(iL 0)]),h)) (S157_2 c t5 h)
theorem TS157_3 (c : CF) : (rk d157 P0 c 20 c157.snd.fst.snd.bd.snd.els.snd).1 (L0 (S157_0 c)) [(0,(L0 (S157_0 c)))] k157 gK = L2 (S157_3 c) 5 13 := Eq.trans (cond_t (by kernel_rfl) rfl (TS157_2 c)) (by funext s h; kernel_rfl)
noncomputable def S157_4 (c : CF) (t5 : AV) (h : Heap) : Res := opt (fastBin .eql t5 (iL 8)) fun t14 => S157_3 c t5 t14 h
theorem TS157_4 (c : CF) : (rk d157 P0 c 20 c157.snd.fst.snd.bd.snd.els).1 (L0 (S157_0 c)) [(0,(L0 (S157_0 c)))] k157 gK = L1 (S157_4 c) 5 := Eq.trans (seq_t (by kernel_rfl) (TS157_3 c) rfl) (by funext s h; kernel_rfl)
noncomputable def S157_5 (c : CF) (t5 t6 : AV) (h : Heap) : Res := test t6 (some ((.tup [tL,fL,(iL 0)]),h)) (S157_4 c t5 h)
theorem TS157_5 (c : CF) : (rk d157 P0 c 20 c157.snd.fst.snd.bd.snd).1 (L0 (S157_0 c)) [(0,(L0 (S157_0 c)))] k157 gK = L2 (S157_5 c) 5 6 := Eq.trans (cond_t (by kernel_rfl) rfl (TS157_4 c)) (by funext s h; kernel_rfl)
noncomputable def S157_6 (c : CF) (t5 : AV) (h : Heap) : Res := opt (fastBin .eql t5 (iL 3)) fun t7 => test t7 (S157_5 c t5 t7 h) (opt (fastBin .eql t5 (iL 4)) fun t8 => test t8 (S157_5 c t5 t8 h) (opt (fastBin .eql t5 (iL 7)) fun t9 => test t9 (S157_5 c t5 t9 h) (opt (fastBin .eql t5 (iL 14)) fun t10 => test t10 (S157_5 c t5 t10 h) (opt (fastBin .eql t5 (iL 9)) fun t11 => test t11 (S157_5 c t5 t11 h) (opt (fastBin .eql t5 (iL 13)) fun t12 => S157_5 c t5 t12 h)))))
theorem TS157_6 (c : CF) : (rk d157 P0 c 20 c157.snd.fst.snd).1 (L0 (S157_0 c)) [] k157 gK = L1 (S157_6 c) 5 := Eq.trans (block_t (id := 0) (by kernel_rfl) (seq_t (by kernel_rfl) (TS157_5 c) rfl)) (by funext s h; kernel_rfl)
noncomputable def S157_7 (c : CF) (t0 : AV) (h : Heap) : Res := S157_6 c t0 h
theorem TS157_7 (c : CF) : (rk d157 P0 c 20 c157.snd).1 k157 [] k157 gK = L1 (S157_7 c) 0 := Eq.trans (seq_t (by kernel_rfl) (TS157_0 c) (seq_t (by kernel_rfl) (TS157_6 c) rfl)) (by funext s h; kernel_rfl)
noncomputable def F157 (c : CF) (a0 : AV) (h : Heap) : Res := S157_7 c a0 h
theorem TF157 (c : CF) (a0 : AV) (h : Heap) : (rk d157 P0 c 20 c157).1 k157 [] k157 gK (argsTr gl 0 [a0]) h = F157 c a0 h := Eq.trans (congrFun (congrFun (seq_t (by kernel_rfl) (TS157_7 c) rfl) _) _) (by kernel_rfl)
noncomputable def N157 : FnF := n1 F157
theorem N157_ok [Nu] : FnOk P0 gl 157 N157 := n1_ok namesOk mixedOrders lowOk Tryz.func157 (by kernel_rfl) (by kernel_rfl) (by kernel_rfl) TF157
noncomputable def c158 : Code := codeOf Tryz.f158
noncomputable def k158 : Kt := finK P0 Tryz.f158.results.toList
def d158 : List Nat := []
noncomputable def F158 (c : CF) (a0 : AV) (h : Heap) : Res := opt2 (c 264 [a0,(.lit (.int .u64 18446744073709551615))] h) fun t5 h1 => opt (binX P0 .none .shr 237 t5 (.lit (.int .u64 1))) fun t7 => opt (convI .i64 t7) fun t8 => opt (binX P0 .none .and 237 t5 (.lit (.int .u64 1))) fun t10 => opt (convI .i64 t10) fun t11 => opt (litUn P0 .neg t11) fun t12 => opt (binX P0 .none .xor 2 t8 t12) fun t13 => some (t13,h1)
theorem TF158 (c : CF) (a0 : AV) (h : Heap) : (rk d158 P0 c 14 c158).1 k158 [] k158 gK (argsTr gl 0 [a0]) h = F158 c a0 h := by kernel_rfl
noncomputable def N158 : FnF := n1 F158
theorem N158_ok [Nu] : FnOk P0 gl 158 N158 := n1_ok namesOk mixedOrders lowOk Tryz.func158 (by kernel_rfl) (by kernel_rfl) (by kernel_rfl) TF158
noncomputable def c160 : Code := codeOf Tryz.f160
noncomputable def k160 : Kt := finK P0 Tryz.f160.results.toList
def d160 : List Nat := []
noncomputable def S160_0 (c : CF) (t9 : AV) (h : Heap) : Res := test t9 (some ((.tup [(iL 1),tL]),h)) (some ((.tup [(iL 0),fL]),h))
theorem TS160_0 (c : CF) : (rk d160 P0 c 12 c160.snd.fst.snd.bd.snd.els.snd).1 ((rk d160 P0 c 12 c160.s2).1 k160 [] k160 gK) [(0,((rk d160 P0 c 12 c160.s2).1 k160 [] k160 gK))] k160 gK = L1 (S160_0 c) 9 := by funext s h; kernel_rfl
noncomputable def S160_1 (c : CF) (t4 : AV) (h : Heap) : Res := opt (fastBin .eql t4 (iL 11)) fun t10 => test t10 (S160_0 c t10 h) (opt (fastBin .eql t4 (iL 12)) fun t11 => S160_0 c t11 h)
theorem TS160_1 (c : CF) : (rk d160 P0 c 12 c160.snd.fst.snd.bd.snd.els).1 ((rk d160 P0 c 12 c160.s2).1 k160 [] k160 gK) [(0,((rk d160 P0 c 12 c160.s2).1 k160 [] k160 gK))] k160 gK = L1 (S160_1 c) 4 := Eq.trans (seq_t (by kernel_rfl) (TS160_0 c) rfl) (by funext s h; kernel_rfl)
noncomputable def S160_2 (c : CF) (t4 t5 : AV) (h : Heap) : Res := test t5 (some ((.tup [(iL 2),tL]),h)) (S160_1 c t4 h)
theorem TS160_2 (c : CF) : (rk d160 P0 c 12 c160.snd.fst.snd.bd.snd).1 ((rk d160 P0 c 12 c160.s2).1 k160 [] k160 gK) [(0,((rk d160 P0 c 12 c160.s2).1 k160 [] k160 gK))] k160 gK = L2 (S160_2 c) 4 5 := Eq.trans (cond_t (by kernel_rfl) rfl (TS160_1 c)) (by funext s h; kernel_rfl)
noncomputable def S160_3 (c : CF) (t4 : AV) (h : Heap) : Res := opt (fastBin .eql t4 (iL 9)) fun t6 => test t6 (S160_2 c t4 t6 h) (opt (fastBin .eql t4 (iL 10)) fun t7 => test t7 (S160_2 c t4 t7 h) (opt (fastBin .eql t4 (iL 13)) fun t8 => S160_2 c t4 t8 h))
theorem TS160_3 (c : CF) : (rk d160 P0 c 12 c160.snd.fst.snd).1 ((rk d160 P0 c 12 c160.s2).1 k160 [] k160 gK) [] k160 gK = L1 (S160_3 c) 4 := Eq.trans (block_t (id := 0) (by kernel_rfl) (seq_t (by kernel_rfl) (TS160_2 c) rfl)) (by funext s h; kernel_rfl)
noncomputable def S160_4 (c : CF) (t0 : AV) (h : Heap) : Res := S160_3 c t0 h
theorem TS160_4 (c : CF) : (rk d160 P0 c 12 c160.snd).1 k160 [] k160 gK = L1 (S160_4 c) 0 := Eq.trans (seq_t (by kernel_rfl) rfl (seq_t (by kernel_rfl) (TS160_3 c) rfl)) (by funext s h; kernel_rfl)
noncomputable def F160 (c : CF) (a0 : AV) (h : Heap) : Res := S160_4 c a0 h
theorem TF160 (c : CF) (a0 : AV) (h : Heap) : (rk d160 P0 c 12 c160).1 k160 [] k160 gK (argsTr gl 0 [a0]) h = F160 c a0 h := Eq.trans (congrFun (congrFun (seq_t (by kernel_rfl) (TS160_4 c) rfl) _) _) (by kernel_rfl)
noncomputable def N160 : FnF := n1 F160
theorem N160_ok [Nu] : FnOk P0 gl 160 N160 := n1_ok namesOk mixedOrders lowOk Tryz.func160 (by kernel_rfl) (by kernel_rfl) (by kernel_rfl) TF160
noncomputable def c162 : Code := codeOf Tryz.f162
noncomputable def k162 : Kt := finK P0 Tryz.f162.results.toList
def d162 : List Nat := [2]
noncomputable def F162 (c : CF) (a0 : AV) (h : Heap) : Res := opt (nilCheckX a0) fun t4 => opt (fieldAddrX 2 t4) fun t5 => opt (loadX none t5 h) fun t6 => opt (fastBin .neq t6 (iL 0)) fun t7 => test t7 (none) (opt (nilCheckX a0) fun t9 => opt (fieldAddrX 0 t9) fun t10 => opt (loadX none t10 h) fun t11 => eqH h h (opt (lenS t11) fun t12 => opt (nilCheckX a0) fun t14 => opt (fieldAddrX 1 t14) fun t15 => opt (loadX none t15 h) fun t16 => eqH h h (opt (fastBin .sub t12 t16) fun t17 => some (t17,h))))
theorem TF162 (c : CF) (a0 : AV) (h : Heap) : (rk d162 P0 c 18 c162).1 k162 [] k162 gK (argsTr gl 0 [a0]) h = F162 c a0 h := by kernel_rfl
noncomputable def N162 : FnF := n1 F162
theorem N162_ok [Nu] : FnOk P0 gl 162 N162 := n1_ok namesOk mixedOrders lowOk Tryz.func162 (by kernel_rfl) (by kernel_rfl) (by kernel_rfl) TF162
noncomputable def c163 : Code := codeOf Tryz.f163
noncomputable def k163 : Kt := finK P0 Tryz.f163.results.toList
def d163 : List Nat := [2]
noncomputable def F163 (c : CF) (a0 : AV) (h : Heap) : Res := opt (nilCheckX a0) fun t6 => opt (fieldAddrX 2 t6) fun t7 => opt (loadX none t7 h) fun t8 => opt (fastBin .neq t8 (iL 0)) fun t9 => test t9 (none) (opt (nilCheckX a0) fun t20 => opt (fieldAddrX 1 t20) fun t21 => opt (loadX none t21 h) fun t22 => eqH h h (opt (nilCheckX a0) fun t24 => opt (fieldAddrX 0 t24) fun t25 => opt (loadX none t25 h) fun t26 => eqH h h (opt (lenS t26) fun t27 => opt (fastBin .lss t22 t27) fun t28 => test t28 (opt (nilCheckX a0) fun t30 => opt (fieldAddrX 1 t30) fun t31 => opt (loadX none t31 h) fun t32 => eqH h h (some ((.tup [(iL 11),t32]),h))) (some ((.tup [(iL 0),(iL 0)]),h)))))
theorem TF163 (c : CF) (a0 : AV) (h : Heap) : (rk d163 P0 c 33 c163).1 k163 [] k163 gK (argsTr gl 0 [a0]) h = F163 c a0 h := by kernel_rfl
noncomputable def N163 : FnF := n1 F163
theorem N163_ok [Nu] : FnOk P0 gl 163 N163 := n1_ok namesOk mixedOrders lowOk Tryz.func163 (by kernel_rfl) (by kernel_rfl) (by kernel_rfl) TF163
noncomputable def c164 : Code := codeOf Tryz.f164
noncomputable def k164 : Kt := finK P0 Tryz.f164.results.toList
def d164 : List Nat := []
noncomputable def F164 (c : CF) (a0 : AV) (h : Heap) : Res := opt (binX P0 .slice .eql 189 a0 nL) fun t4 => test t4 (some (nL,h)) (opt2 (bsliceX 5 (.agg [(iL 0),(iL 0),cL,nL,nL]) 0 [] h) fun t5 h1 => opt2 (appendX 5 80 t5 a0 h1) fun t7 h2 => some (t7,h2))
theorem TF164 (c : CF) (a0 : AV) (h : Heap) : (rk d164 P0 c 8 c164).1 k164 [] k164 gK (argsTr gl 0 [a0]) h = F164 c a0 h := by kernel_rfl
noncomputable def N164 : FnF := n1 F164
theorem N164_ok [Nu] : FnOk P0 gl 164 N164 := n1_ok namesOk mixedOrders lowOk Tryz.func164 (by kernel_rfl) (by kernel_rfl) (by kernel_rfl) TF164
noncomputable def c165 : Code := codeOf Tryz.f165
noncomputable def k165 : Kt := finK P0 Tryz.f165.results.toList
def d165 : List Nat := []
noncomputable def F165 (c : CF) (a0 a1 : AV) (h : Heap) : Res := opt2 (c 266 [a0,a1] h) fun t7 h1 => opt (fastBin .geq t7 (iL 0)) fun t8 => some (t8,h1)
theorem TF165 (c : CF) (a0 a1 : AV) (h : Heap) : (rk d165 P0 c 9 c165).1 k165 [] k165 gK (argsTr gl 0 [a0,a1]) h = F165 c a0 a1 h := by kernel_rfl
noncomputable def N165 : FnF := n2 F165
theorem N165_ok [Nu] : FnOk P0 gl 165 N165 := n2_ok namesOk mixedOrders lowOk Tryz.func165 (by kernel_rfl) (by kernel_rfl) (by kernel_rfl) TF165
noncomputable def c166 : Code := codeOf Tryz.f166
noncomputable def k166 : Kt := finK P0 Tryz.f166.results.toList
def d166 : List Nat := []
noncomputable def F166 (c : CF) (a0 a1 : AV) (h : Heap) : Res := opt2 (box a0 h) fun t2 h1 => opt (fieldAddrX 0 t2) fun t4 => opt (loadX none t4 h1) fun t5 => opt (loadX none a1 h1) fun t6 => opt (fastBin .neq t5 t6) fun t7 => some (t7,h1)
theorem TF166 (c : CF) (a0 a1 : AV) (h : Heap) : (rk d166 P0 c 8 c166).1 k166 [] k166 gK (argsTr gl 0 [a0,a1]) h = F166 c a0 a1 h := by kernel_rfl
noncomputable def N166 : FnF := n2 F166
theorem N166_ok [Nu] : FnOk P0 gl 166 N166 := n2_ok namesOk mixedOrders lowOk Tryz.func166 (by kernel_rfl) (by kernel_rfl) (by kernel_rfl) TF166
noncomputable def c168 : Code := codeOf Tryz.f168
noncomputable def k168 : Kt := finK P0 Tryz.f168.results.toList
def d168 : List Nat := [18]
noncomputable def S168_0 (c : CF) (t3 t4 : AV) (h : Heap) : Res := test t4 (some ((iL 1),h)) (opt (fastBin .eql t3 (sL [99,117,116])) fun t11 => test t11 (some ((iL 3),h)) (opt (fastBin .eql t3 (sL [97,100,100])) fun t13 => test t13 (test t13 (some ((iL 2),h)) (none)) (opt (fastBin .eql t3 (sL [115,117,98])) fun t14 => test t14 (test t14 (some ((iL 2),h)) (none)) (opt (fastBin .eql t3 (sL [109,117,108])) fun t15 => test t15 (test t15 (some ((iL 2),h)) (none)) (opt (fastBin .eql t3 (sL [101,113])) fun t16 => test t16 (test t16 (some ((iL 2),h)) (none)) (opt (fastBin .eql t3 (sL [108,116])) fun t17 => test t17 (test t17 (some ((iL 2),h)) (none)) (opt (fastBin .eql t3 (sL [99,97,116])) fun t18 => test t18 (test t18 (some ((iL 2),h)) (none)) (opt (fastBin .eql t3 (sL [97,116])) fun t19 => test t19 (some ((iL 2),h)) (none)))))))))
theorem TS168_0 (c : CF) : (rk d168 P0 c 20 c168.snd.fst.snd.bd.snd).1 ((rk d168 P0 c 20 c168.s2).1 k168 [] k168 gK) [(0,((rk d168 P0 c 20 c168.s2).1 k168 [] k168 gK))] k168 gK = L2 (S168_0 c) 3 4 := by funext s h; kernel_rfl
noncomputable def S168_1 (c : CF) (t3 : AV) (h : Heap) : Res := opt (fastBin .eql t3 (sL [110,101,103])) fun t5 => test t5 (S168_0 c t3 t5 h) (opt (fastBin .eql t3 (sL [99,111,110,106])) fun t6 => test t6 (S168_0 c t3 t6 h) (opt (fastBin .eql t3 (sL [114,101])) fun t7 => test t7 (S168_0 c t3 t7 h) (opt (fastBin .eql t3 (sL [105,109])) fun t8 => test t8 (S168_0 c t3 t8 h) (opt (fastBin .eql t3 (sL [108,101,110])) fun t9 => S168_0 c t3 t9 h))))
theorem TS168_1 (c : CF) : (rk d168 P0 c 20 c168.snd.fst.snd).1 ((rk d168 P0 c 20 c168.s2).1 k168 [] k168 gK) [] k168 gK = L1 (S168_1 c) 3 := Eq.trans (block_t (id := 0) (by kernel_rfl) (seq_t (by kernel_rfl) (TS168_0 c) rfl)) (by funext s h; kernel_rfl)
noncomputable def S168_2 (c : CF) (t0 : AV) (h : Heap) : Res := S168_1 c t0 h
theorem TS168_2 (c : CF) : (rk d168 P0 c 20 c168.snd).1 k168 [] k168 gK = L1 (S168_2 c) 0 := Eq.trans (seq_t (by kernel_rfl) rfl (seq_t (by kernel_rfl) (TS168_1 c) rfl)) (by funext s h; kernel_rfl)
noncomputable def F168 (c : CF) (a0 : AV) (h : Heap) : Res := S168_2 c a0 h
theorem TF168 (c : CF) (a0 : AV) (h : Heap) : (rk d168 P0 c 20 c168).1 k168 [] k168 gK (argsTr gl 0 [a0]) h = F168 c a0 h := Eq.trans (congrFun (congrFun (seq_t (by kernel_rfl) (TS168_2 c) rfl) _) _) (by kernel_rfl)
noncomputable def N168 : FnF := n1 F168
theorem N168_ok [Nu] : FnOk P0 gl 168 N168 := n1_ok namesOk mixedOrders lowOk Tryz.func168 (by kernel_rfl) (by kernel_rfl) (by kernel_rfl) TF168
noncomputable def c171 : Code := codeOf Tryz.f171
noncomputable def k171 : Kt := finK P0 Tryz.f171.results.toList
def d171 : List Nat := []
noncomputable def S171_0 (c : CF) (t0 t1 : AV) (h : Heap) : Res := opt (litBi P0 .real [24] 45 [false] [t0]) fun t14 => opt (litBi P0 .real [24] 45 [false] [t1]) fun t16 => opt (binX P0 .none .lss 45 t14 t16) fun t17 => test t17 (some (tL,h)) (opt (litBi P0 .real [24] 45 [false] [t0]) fun t20 => opt (litBi P0 .real [24] 45 [false] [t1]) fun t22 => opt (binX P0 .none .eql 45 t20 t22) fun t23 => test t23 (opt (litBi P0 .imag [24] 45 [false] [t0]) fun t26 => opt (litBi P0 .imag [24] 45 [false] [t1]) fun t28 => opt (binX P0 .none .lss 45 t26 t28) fun t29 => some (t29,h)) (some (fL,h)))
theorem TS171_0 (c : CF) : (rk d171 P0 c 32 c171.s2).1 k171 [] k171 gK = L2 (S171_0 c) 0 1 := by funext s h; kernel_rfl
noncomputable def S171_1 (c : CF) (t0 t1 : AV) (h : Heap) : Res := opt2 (c 26 [t0] h) fun t6 h1 => opt (notX t6) fun t7 => test t7 (some (fL,h1)) (opt2 (c 26 [t1] h1) fun t10 h2 => opt (notX t10) fun t11 => test t11 (some (fL,h2)) (S171_0 c t0 t1 h2))
theorem TS171_1 (c : CF) : (rk d171 P0 c 32 c171.snd).1 k171 [] k171 gK = L2 (S171_1 c) 0 1 := Eq.trans (seq_t (by kernel_rfl) (TS171_0 c) rfl) (by funext s h; kernel_rfl)
noncomputable def F171 (c : CF) (a0 a1 : AV) (h : Heap) : Res := S171_1 c a0 a1 h
theorem TF171 (c : CF) (a0 a1 : AV) (h : Heap) : (rk d171 P0 c 32 c171).1 k171 [] k171 gK (argsTr gl 0 [a0,a1]) h = F171 c a0 a1 h := Eq.trans (congrFun (congrFun (seq_t (by kernel_rfl) (TS171_1 c) rfl) _) _) (by kernel_rfl)
noncomputable def N171 : FnF := n2 F171
theorem N171_ok [Nu] : FnOk P0 gl 171 N171 := n2_ok namesOk mixedOrders lowOk Tryz.func171 (by kernel_rfl) (by kernel_rfl) (by kernel_rfl) TF171
noncomputable def c181 : Code := codeOf Tryz.f181
noncomputable def k181 : Kt := finK P0 Tryz.f181.results.toList
def d181 : List Nat := [3,5,14,16,18,30]
noncomputable def S181_0 (c : CF) (t2 t8 t9 : AV) (h : Heap) : Res := opt (lenS t8) fun t125 => opt (fastBin .gtr t125 (iL 0)) fun t126 => test t126 (none) (opt (indexAddrS 4 t9 (iL 0) h) fun t131 => opt (loadX (some 4) t131 h) fun t132 => optH (storeX 4 t2 t132 h) fun h1 => opt (loadX (some 4) t2 h1) fun res => some ((.tup [res,(iL 0),(iL 0)]),h1))
theorem TS181_0 (c : CF) : (rk d181 P0 c 133 c181.s7).1 k181 [] k181 gK = L3 (S181_0 c) 2 8 9 := by funext s h; kernel_rfl
noncomputable def S181_2 (c : CF) (r1 : A6) (t2 t8 t9 t12 t31 t32 t33 : AV) (h : Heap) : Res := opt (lenS t8) fun t101 => opt (fastBin .eql t101 (iL 0)) fun t102 => test t102 (opt (loadX (some 4) t12 h) fun t104 => opt2 (bsliceX 4 (.agg [(iL 0),(iL 0),eL,nL]) 1 [(0,t104)] h) fun t105 h1 => opt2 (appendX 4 56 t9 t105 h1) fun t106 h2 => opt (fastBin .add t33 (iL 1)) fun t123 => r1 t2 t8 t106 t31 t32 t123 h2) (opt (lenS t8) fun t109 => opt (fastBin .sub t109 (iL 1)) fun t110 => opt (indexAddrS 4 t8 t110 h) fun t111 => opt (nilCheckX t111) fun t113 => opt (fieldAddrX 3 t113) fun t114 => opt (loadX none t114 h) fun t115 => eqH h h (opt (loadX (some 4) t12 h) fun t116 => eqH h h (opt (lenS t115) fun t117 => opt2 (bsliceX 4 (.agg [(iL 0),(iL 0),eL,nL]) 1 [(0,(.agg [(iL 0),(iL 0),eL,nL]))] h) fun t118 h3 => opt (loadX (some 4) t12 h3) fun t116_1 => eqK t116_1 t116 (eqH h3 h3 (opt (loadX none t114 h3) fun t115_1 => eqK t115_1 t115 (eqH h3 h3 (opt2 (appendX 4 56 t115 t118 h3) fun t119 h4 => opt (indexAddrS 4 t119 t117 h4) fun t120 => eqH h4 h4 (optH (storeX 4 t120 t116 h4) fun h5 => opt (nilCheckX t111) fun t121 => opt (fieldAddrX 3 t121) fun t122 => optH (storeX 1 t122 t119 h4) fun h6 => optH (storeX 1 t122 t119 h5) fun h7 => eqK dL dL (optH (storeX 4 t120 t116 h6) fun h8 => eqK dL dL (eqH h8 h7 (opt (indexAddrS 4 t119 t117 h6) fun t120_1 => eqK t120_1 t120 (eqH h6 h6 (opt (fastBin .add t33 (iL 1)) fun t123_1 => r1 t2 t8 t9 t31 t32 t123_1 h7)))))))))))))
theorem TS181_2 (c : CF) (r1 : A6) : (rk d181 P0 c 133 c181.s6.fst.snd.bd.bd.s2.fst.bd.s3).1 ((rk d181 P0 c 133 c181.s6.fst.snd.bd.bd.s3).1 (L6 r1 2 8 9 31 32 33) [(0,(L3 (S181_0 c) 2 8 9))] k181 gK) [(1,((rk d181 P0 c 133 c181.s6.fst.snd.bd.bd.s3).1 (L6 r1 2 8 9 31 32 33) [(0,(L3 (S181_0 c) 2 8 9))] k181 gK)),(0,(L3 (S181_0 c) 2 8 9))] k181 gK = L7 (S181_2 c r1) 2 8 9 12 31 32 33 := by funext s h; kernel_rfl
noncomputable def S181_3 (c : CF) (r1 : A6) (t2 t8 t9 t11 t12 t31 t32 t33 t56 : AV) (h : Heap) : Res := test t56 (none) (opt (lenS t9) fun t70 => opt (fastBin .gtr t70 (iL 0)) fun t71 => test t71 (none) (opt (fieldAddrX 0 t11) fun t76 => opt (loadX none t76 h) fun t77 => opt (fastBin .eql t77 (iL 1)) fun t78 => test t78 (opt (fieldAddrX 1 t11) fun t80 => opt (loadX none t80 h) fun t81 => opt (buildX [(iL 0),(iL 0),eL,nL] [(0,1),(1,1),(2,1),(3,1)] [(0,(iL 1)),(1,t81)]) fun t82 => opt2 (bsliceX 4 (.agg [(iL 0),(iL 0),eL,nL]) 1 [(0,t82)] h) fun t83 h1 => opt2 (appendX 4 56 t8 t83 h1) fun t84 h2 => opt (fastBin .add t33 (iL 1)) fun t123 => r1 t2 t84 t9 t31 t32 t123 h2) (opt (fieldAddrX 0 t11) fun t86 => opt (loadX none t86 h) fun t87 => opt (fastBin .eql t87 (iL 2)) fun t88 => test t88 (opt (lenS t8) fun t91 => opt (fastBin .sub t91 (iL 1)) fun t92 => opt (indexAddrS 4 t8 t92 h) fun t93 => opt (loadX (some 4) t93 h) fun t94 => optH (storeX 4 t12 t94 h) fun h3 => opt (lenS t8) fun t97 => opt (fastBin .sub t97 (iL 1)) fun t98 => opt (cutZ 4 t8 none (some t98) none h3) fun t99 => S181_2 c r1 t2 t99 t9 t12 t31 t32 t33 h3) (opt (fieldAddrX 0 t11) fun t37 => opt (loadX none t37 h) fun t38 => opt (fieldAddrX 1 t11) fun t39 => opt (loadX none t39 h) fun t40 => opt (fieldAddrX 2 t11) fun t41 => opt (loadX none t41 h) fun t42 => opt (buildX [(iL 0),(iL 0),eL,nL] [(0,1),(1,1),(2,1),(3,1)] [(0,t38),(1,t40),(2,t42)]) fun t43 => optH (storeX 4 t12 t43 h) fun h4 => S181_2 c r1 t2 t8 t9 t12 t31 t32 t33 h4))))
theorem TS181_3 (c : CF) (r1 : A6) : (rk d181 P0 c 133 c181.s6.fst.snd.bd.bd.s2.fst.bd.s2.fst.bd.snd.els.snd).1 (L7 (S181_2 c r1) 2 8 9 12 31 32 33) [(2,(L7 (S181_2 c r1) 2 8 9 12 31 32 33)),(1,((rk d181 P0 c 133 c181.s6.fst.snd.bd.bd.s3).1 (L6 r1 2 8 9 31 32 33) [(0,(L3 (S181_0 c) 2 8 9))] k181 gK)),(0,(L3 (S181_0 c) 2 8 9))] k181 gK = L9 (S181_3 c r1) 2 8 9 11 12 31 32 33 56 := by funext s h; kernel_rfl
noncomputable def S181_4 (c : CF) (r1 : A6) (t2 t8 t9 t11 t12 t31 t32 t33 : AV) (h : Heap) : Res := opt (fieldAddrX 0 t11) fun t57 => opt (loadX none t57 h) fun t58 => opt (fastBin .eql t58 (iL 2)) fun t59 => test t59 (opt (lenS t8) fun t62 => opt (fastBin .eql t62 (iL 0)) fun t63 => S181_3 c r1 t2 t8 t9 t11 t12 t31 t32 t33 t63 h) (S181_3 c r1 t2 t8 t9 t11 t12 t31 t32 t33 fL h)
theorem TS181_4 (c : CF) (r1 : A6) : (rk d181 P0 c 133 c181.s6.fst.snd.bd.bd.s2.fst.bd.s2.fst.bd.snd.els).1 (L7 (S181_2 c r1) 2 8 9 12 31 32 33) [(2,(L7 (S181_2 c r1) 2 8 9 12 31 32 33)),(1,((rk d181 P0 c 133 c181.s6.fst.snd.bd.bd.s3).1 (L6 r1 2 8 9 31 32 33) [(0,(L3 (S181_0 c) 2 8 9))] k181 gK)),(0,(L3 (S181_0 c) 2 8 9))] k181 gK = L8 (S181_4 c r1) 2 8 9 11 12 31 32 33 := Eq.trans (seq_t (by kernel_rfl) (TS181_3 c r1) rfl) (by funext s h; kernel_rfl)
noncomputable def S181_5 (c : CF) (r1 : A6) (t2 t8 t9 t11 t12 t31 t32 t33 t44 : AV) (h : Heap) : Res := test t44 (none) (S181_4 c r1 t2 t8 t9 t11 t12 t31 t32 t33 h)
theorem TS181_5 (c : CF) (r1 : A6) : (rk d181 P0 c 133 c181.s6.fst.snd.bd.bd.s2.fst.bd.s2.fst.bd.snd).1 (L7 (S181_2 c r1) 2 8 9 12 31 32 33) [(2,(L7 (S181_2 c r1) 2 8 9 12 31 32 33)),(1,((rk d181 P0 c 133 c181.s6.fst.snd.bd.bd.s3).1 (L6 r1 2 8 9 31 32 33) [(0,(L3 (S181_0 c) 2 8 9))] k181 gK)),(0,(L3 (S181_0 c) 2 8 9))] k181 gK = L9 (S181_5 c r1) 2 8 9 11 12 31 32 33 44 := Eq.trans (cond_t (by kernel_rfl) rfl (TS181_4 c r1)) (by funext s h; kernel_rfl)
noncomputable def S181_6 (c : CF) (r1 : A6) (t2 t8 t9 t11 t12 t31 t32 t33 : AV) (h : Heap) : Res := opt (fieldAddrX 0 t11) fun t45 => opt (loadX none t45 h) fun t46 => opt (fastBin .eql t46 (iL 1)) fun t47 => test t47 (opt (lenS t8) fun t50 => opt (fastBin .geq t50 (iL 40)) fun t51 => S181_5 c r1 t2 t8 t9 t11 t12 t31 t32 t33 t51 h) (S181_5 c r1 t2 t8 t9 t11 t12 t31 t32 t33 fL h)
theorem TS181_6 (c : CF) (r1 : A6) : (rk d181 P0 c 133 c181.s6.fst.snd.bd.bd.s2.fst.bd.s2).1 ((rk d181 P0 c 133 c181.s6.fst.snd.bd.bd.s3).1 (L6 r1 2 8 9 31 32 33) [(0,(L3 (S181_0 c) 2 8 9))] k181 gK) [(1,((rk d181 P0 c 133 c181.s6.fst.snd.bd.bd.s3).1 (L6 r1 2 8 9 31 32 33) [(0,(L3 (S181_0 c) 2 8 9))] k181 gK)),(0,(L3 (S181_0 c) 2 8 9))] k181 gK = L8 (S181_6 c r1) 2 8 9 11 12 31 32 33 := Eq.trans (seq_t (by kernel_rfl) (TS181_2 c r1) (block_t (id := 2) (by kernel_rfl) (seq_t (by kernel_rfl) (TS181_5 c r1) rfl))) (by funext s h; kernel_rfl)
noncomputable def S181_7 (c : CF) (r1 : A6) (t2 t8 t9 t11 t31 t32 t33 : AV) (h : Heap) : Res := opt2 (box (.agg [(iL 0),(iL 0),eL,nL]) h) fun t12 h1 => S181_6 c r1 t2 t8 t9 t11 t12 t31 t32 t33 h1
theorem TS181_7 (c : CF) (r1 : A6) : (rk d181 P0 c 133 c181.s6.fst.snd.bd.bd.s2.fst.bd.snd).1 ((rk d181 P0 c 133 c181.s6.fst.snd.bd.bd.s3).1 (L6 r1 2 8 9 31 32 33) [(0,(L3 (S181_0 c) 2 8 9))] k181 gK) [(1,((rk d181 P0 c 133 c181.s6.fst.snd.bd.bd.s3).1 (L6 r1 2 8 9 31 32 33) [(0,(L3 (S181_0 c) 2 8 9))] k181 gK)),(0,(L3 (S181_0 c) 2 8 9))] k181 gK = L7 (S181_7 c r1) 2 8 9 11 31 32 33 := Eq.trans (seq_t (by kernel_rfl) (TS181_6 c r1) rfl) (by funext s h; kernel_rfl)
noncomputable def S181_8 (c : CF) (r1 : A6) (t2 t8 t9 t31 t32 t33 : AV) (h : Heap) : Res := opt (indexAddrS 3 t31 t33 h) fun t35 => opt (loadX (some 3) t35 h) fun t36 => opt2 (box (.agg [(iL 0),(iL 0),eL]) h) fun t11 h1 => optH (storeX 3 t11 t36 h1) fun h2 => S181_7 c r1 t2 t8 t9 t11 t31 t32 t33 h2
theorem TS181_8 (c : CF) (r1 : A6) : (rk d181 P0 c 133 c181.s6.fst.snd.bd.bd.s2).1 (L6 r1 2 8 9 31 32 33) [(0,(L3 (S181_0 c) 2 8 9))] k181 gK = L6 (S181_8 c r1) 2 8 9 31 32 33 := Eq.trans (seq_t (by kernel_rfl) rfl (block_t (id := 1) (by kernel_rfl) (seq_t (by kernel_rfl) (TS181_7 c r1) rfl))) (by funext s h; kernel_rfl)
noncomputable def S181_9 (c : CF) (r1 : A6) (t2 t8 t9 t31 t32 t33 t34 : AV) (h : Heap) : Res := test t34 (S181_8 c r1 t2 t8 t9 t31 t32 t33 h) (S181_0 c t2 t8 t9 h)
theorem TS181_9 (c : CF) (r1 : A6) : (rk d181 P0 c 133 c181.s6.fst.snd.bd.bd.snd).1 (L6 r1 2 8 9 31 32 33) [(0,(L3 (S181_0 c) 2 8 9))] k181 gK = L7 (S181_9 c r1) 2 8 9 31 32 33 34 := Eq.trans (seq_t (by kernel_rfl) (TS181_8 c r1) rfl) (by funext s h; kernel_rfl)
noncomputable def S181_10b (c : CF) (r1 : A6) (t2 t8 t9 t31 t32 t33 : AV) (h : Heap) : Res := opt (fastBin .lss t33 t32) fun t34 => S181_9 c r1 t2 t8 t9 t31 t32 t33 t34 h
theorem TS181_10b (c : CF) (r1 : A6) : (rk d181 P0 c 133 c181.s6.fst.snd.bd.bd).1 (L6 r1 2 8 9 31 32 33) [(0,(L3 (S181_0 c) 2 8 9))] k181 gK = L6 (S181_10b c r1) 2 8 9 31 32 33 := Eq.trans (seq_t (by kernel_rfl) (TS181_9 c r1) rfl) (by funext s h; kernel_rfl)
noncomputable def S181_1l (c : CF) : Nat → A6
  | 0 => fun _ _ _ _ _ _ _ => none
  | k + 1 => S181_10b c (S181_1l c k)
theorem TS181_1l (c : CF) : (rk d181 P0 c 133 c181.s6.fst.snd.bd).1 (L3 (S181_0 c) 2 8 9) [(0,(L3 (S181_0 c) 2 8 9))] k181 gK = L6 (S181_1l c rounds) 2 8 9 31 32 33 := loop_t (by kernel_rfl) (loop_ind (A := fun m => L6 (S181_1l c m) 2 8 9 31 32 33) rfl (fun m => TS181_10b c (S181_1l c m)) rounds)
noncomputable def S181_11 (c : CF) (t2 t8 t9 t31 t32 t33 : AV) (h : Heap) : Res := S181_1l c rounds t2 t8 t9 t31 t32 t33 h
theorem TS181_11 (c : CF) : (rk d181 P0 c 133 c181.s6.fst.snd).1 (L3 (S181_0 c) 2 8 9) [] k181 gK = L6 (S181_11 c) 2 8 9 31 32 33 := Eq.trans (block_t (id := 0) (by kernel_rfl) (TS181_1l c)) (by funext s h; kernel_rfl)
noncomputable def S181_12 (c : CF) (t2 t5 t8 t9 : AV) (h : Heap) : Res := opt (lenS t5) fun t32 => S181_11 c t2 t8 t9 t5 t32 (iL 0) h
theorem TS181_12 (c : CF) : (rk d181 P0 c 133 c181.s6).1 k181 [] k181 gK = L4 (S181_12 c) 2 5 8 9 := Eq.trans (seq_t (by kernel_rfl) (TS181_0 c) (seq_t (by kernel_rfl) (TS181_11 c) rfl)) (by funext s h; kernel_rfl)
noncomputable def S181_13 (c : CF) (t2 t5 t8 : AV) (h : Heap) : Res := S181_12 c t2 t5 t8 nL h
theorem TS181_13 (c : CF) : (rk d181 P0 c 133 c181.s5).1 k181 [] k181 gK = L3 (S181_13 c) 2 5 8 := Eq.trans (seq_t (by kernel_rfl) (TS181_12 c) rfl) (by funext s h; kernel_rfl)
noncomputable def S181_14 (c : CF) (t2 t5 : AV) (h : Heap) : Res := S181_13 c t2 t5 nL h
theorem TS181_14 (c : CF) : (rk d181 P0 c 133 c181.s4).1 k181 [] k181 gK = L2 (S181_14 c) 2 5 := Eq.trans (seq_t (by kernel_rfl) (TS181_13 c) rfl) (by funext s h; kernel_rfl)
noncomputable def S181_15 (c : CF) (t2 t5 : AV) (h : Heap) : Res := opt (lenS t5) fun t26 => opt (fastBin .eql t26 (iL 0)) fun t27 => test t27 (none) (S181_14 c t2 t5 h)
theorem TS181_15 (c : CF) : (rk d181 P0 c 133 c181.s3).1 k181 [] k181 gK = L2 (S181_15 c) 2 5 := Eq.trans (seq_t (by kernel_rfl) (TS181_14 c) rfl) (by funext s h; kernel_rfl)
noncomputable def S181_16 (c : CF) (t2 t5 t6 : AV) (h : Heap) : Res := opt (fastBin .neq t6 (iL 0)) fun t21 => test t21 (none) (S181_15 c t2 t5 h)
theorem TS181_16 (c : CF) : (rk d181 P0 c 133 c181.s2).1 k181 [] k181 gK = L3 (S181_16 c) 2 5 6 := Eq.trans (seq_t (by kernel_rfl) (TS181_15 c) rfl) (by funext s h; kernel_rfl)
noncomputable def S181_17 (c : CF) (t0 t2 : AV) (h : Heap) : Res := opt2 (c 272 [t0] h) fun t16 h1 => opt (extractX t16 0) fun t17 => opt (extractX t16 1) fun t18 => opt (extractX t16 2) fun t19 => S181_16 c t2 t17 t18 h1
theorem TS181_17 (c : CF) : (rk d181 P0 c 133 c181.snd).1 k181 [] k181 gK = L2 (S181_17 c) 0 2 := Eq.trans (seq_t (by kernel_rfl) (TS181_16 c) rfl) (by funext s h; kernel_rfl)
noncomputable def F181 (c : CF) (a0 : AV) (h : Heap) : Res := opt2 (box (.agg [(iL 0),(iL 0),eL,nL]) h) fun t2 h1 => S181_17 c a0 t2 h1
theorem TF181 (c : CF) (a0 : AV) (h : Heap) : (rk d181 P0 c 133 c181).1 k181 [] k181 gK (argsTr gl 0 [a0]) h = F181 c a0 h := Eq.trans (congrFun (congrFun (seq_t (by kernel_rfl) (TS181_17 c) rfl) _) _) (by kernel_rfl)
noncomputable def N181 : FnF := n1 F181
theorem N181_ok [Nu] : FnOk P0 gl 181 N181 := n1_ok namesOk mixedOrders lowOk Tryz.func181 (by kernel_rfl) (by kernel_rfl) (by kernel_rfl) TF181
noncomputable def c182 : Code := codeOf Tryz.f182
noncomputable def k182 : Kt := finK P0 Tryz.f182.results.toList
def d182 : List Nat := [2]
noncomputable def S182_0 (c : CF) (t0 : AV) (h : Heap) : Res := opt (nilCheckX t0) fun t28 => opt (fieldAddrX 1 t28) fun t29 => opt (loadX none t29 h) fun t30 => opt (fastBin .eql t30 (iL 0)) fun t31 => some (t31,h)
theorem TS182_0 (c : CF) : (rk d182 P0 c 32 c182.s2).1 k182 [] k182 gK = L1 (S182_0 c) 0 := by funext s h; kernel_rfl
noncomputable def S182_1 (c : CF) (t0 t1 : AV) (h : Heap) : Res := opt (notX t1) fun t10 => test t10 (opt (nilCheckX t0) fun t13 => opt (fieldAddrX 1 t13) fun t14 => opt (loadX none t14 h) fun t15 => opt (fastBin .eql t15 (iL 0)) fun t16 => test t16 (none) (S182_0 c t0 h)) (S182_0 c t0 h)
theorem TS182_1 (c : CF) : (rk d182 P0 c 32 c182.snd).1 k182 [] k182 gK = L2 (S182_1 c) 0 1 := Eq.trans (seq_t (by kernel_rfl) (TS182_0 c) rfl) (by funext s h; kernel_rfl)
noncomputable def F182 (c : CF) (a0 a1 a2 a3 : AV) (h : Heap) : Res := opt2 (box a3 h) fun t7 h1 => S182_1 c a0 a1 h1
theorem TF182 (c : CF) (a0 a1 a2 a3 : AV) (h : Heap) : (rk d182 P0 c 32 c182).1 k182 [] k182 gK (argsTr gl 0 [a0,a1,a2,a3]) h = F182 c a0 a1 a2 a3 h := Eq.trans (congrFun (congrFun (seq_t (by kernel_rfl) (TS182_1 c) rfl) _) _) (by kernel_rfl)
noncomputable def N182 : FnF := n4 F182
theorem N182_ok [Nu] : FnOk P0 gl 182 N182 := n4_ok namesOk mixedOrders lowOk Tryz.func182 (by kernel_rfl) (by kernel_rfl) (by kernel_rfl) TF182
noncomputable def c183 : Code := codeOf Tryz.f183
noncomputable def k183 : Kt := finK P0 Tryz.f183.results.toList
def d183 : List Nat := [2]
noncomputable def S183_0 (c : CF) (t3 t4 : AV) (h : Heap) : Res := opt (fieldAddrX 3 t4) fun t26 => opt (loadX none t26 h) fun t27 => opt (fieldAddrX 3 t4) fun t29 => opt (loadX none t29 h) fun t30 => opt (lenS t30) fun t31 => opt (litBi P0 .min [3,3] 3 [false,false] [t3,t31]) fun t32 => opt (cutZ 4 t27 none (some t32) none h) fun t33 => opt2 (c 273 [t33,(.fn (.func 274) [] [])] h) fun t34 h1 => opt (notX t34) fun t35 => some (t35,h1)
theorem TS183_0 (c : CF) : (rk d183 P0 c 36 c183.s2).1 k183 [] k183 gK = L2 (S183_0 c) 3 4 := by funext s h; kernel_rfl
noncomputable def S183_1 (c : CF) (t1 t2 t3 t4 : AV) (h : Heap) : Res := opt (fieldAddrX 0 t4) fun t9 => opt (loadX none t9 h) fun t10 => opt (fastBin .neq t10 (iL 1)) fun t11 => test t11 (none) (opt (fieldAddrX 3 t4) fun t13 => opt (loadX none t13 h) fun t14 => opt (lenS t14) fun t15 => opt (fastBin .lss t15 t1) fun t17 => test t17 (none) (opt (fieldAddrX 3 t4) fun t20 => opt (loadX none t20 h) fun t21 => opt (lenS t21) fun t22 => opt (fastBin .gtr t22 t2) fun t24 => test t24 (none) (S183_0 c t3 t4 h)))
theorem TS183_1 (c : CF) : (rk d183 P0 c 36 c183.snd).1 k183 [] k183 gK = L4 (S183_1 c) 1 2 3 4 := Eq.trans (seq_t (by kernel_rfl) (TS183_0 c) rfl) (by funext s h; kernel_rfl)
noncomputable def F183 (c : CF) (a0 a1 a2 a3 : AV) (h : Heap) : Res := opt2 (box a0 h) fun t4 h1 => S183_1 c a1 a2 a3 t4 h1
theorem TF183 (c : CF) (a0 a1 a2 a3 : AV) (h : Heap) : (rk d183 P0 c 36 c183).1 k183 [] k183 gK (argsTr gl 0 [a0,a1,a2,a3]) h = F183 c a0 a1 a2 a3 h := Eq.trans (congrFun (congrFun (seq_t (by kernel_rfl) (TS183_1 c) rfl) _) _) (by kernel_rfl)
noncomputable def N183 : FnF := n4 F183
theorem N183_ok [Nu] : FnOk P0 gl 183 N183 := n4_ok namesOk mixedOrders lowOk Tryz.func183 (by kernel_rfl) (by kernel_rfl) (by kernel_rfl) TF183
noncomputable def c184 : Code := codeOf Tryz.f184
noncomputable def k184 : Kt := finK P0 Tryz.f184.results.toList
def d184 : List Nat := []
noncomputable def F184 (c : CF) (a0 : AV) (h : Heap) : Res := opt2 (c 275 [a0] h) fun t4 h1 => test t4 (opt2 (c 276 [a0] h1) fun t7 h2 => opt (notX t7) fun t8 => some (t8,h2)) (some (fL,h1))
theorem TF184 (c : CF) (a0 : AV) (h : Heap) : (rk d184 P0 c 10 c184).1 k184 [] k184 gK (argsTr gl 0 [a0]) h = F184 c a0 h := by kernel_rfl
noncomputable def N184 : FnF := n1 F184
theorem N184_ok [Nu] : FnOk P0 gl 184 N184 := n1_ok namesOk mixedOrders lowOk Tryz.func184 (by kernel_rfl) (by kernel_rfl) (by kernel_rfl) TF184
noncomputable def c187 : Code := codeOf Tryz.f187
noncomputable def k187 : Kt := finK P0 Tryz.f187.results.toList
def d187 : List Nat := [6,11,12,13,16,18,22,23,24,25,26,27,33,39,45]
noncomputable def S187_0 (c : CF) (t16 : AV) (h : Heap) : Res := some ((.tup [t16,(iL 0),eL]),h)
theorem TS187_0 (c : CF) : (rk d187 P0 c 155 c187.s9.s3).1 k187 [] k187 gK = L1 (S187_0 c) 16 := by funext s h; kernel_rfl
noncomputable def S187_2b (c : CF) (r1 : A4) (t16 t138 t139 t140 : AV) (h : Heap) : Res := opt (fastBin .lss t140 t139) fun t141 => test t141 (opt (indexAddrS 12 t138 t140 h) fun t142 => opt (loadX (some 12) t142 h) fun t143 => opt2 (box (.agg [eL,nL,eL,(iL 0),(iL 0),eL,cL,eL,eL,nL,nL,nL]) h) fun t26 h1 => optH (storeX 12 t26 t143 h1) fun h2 => opt (fieldAddrX 1 t26) fun t144 => opt (loadX none t144 h2) fun t145 => opt (fieldAddrX 2 t26) fun t146 => opt (loadX none t146 h2) fun t147 => opt2 (c 295 [t145,t147] h2) fun t148 h3 => opt (lenStr t148) fun t149 => opt (fastBin .gtr t149 (iL 200)) fun t150 => test t150 (none) (opt (fastBin .add t140 (iL 1)) fun t153 => r1 t16 t138 t139 t153 h3)) (S187_0 c t16 h)
theorem TS187_2b (c : CF) (r1 : A4) : (rk d187 P0 c 155 c187.s9.s2.fst.snd.bd.bd).1 (L4 r1 16 138 139 140) [(10,(L1 (S187_0 c) 16))] k187 gK = L4 (S187_2b c r1) 16 138 139 140 := by funext s h; kernel_rfl
noncomputable def S187_1l (c : CF) : Nat → A4
  | 0 => fun _ _ _ _ _ => none
  | k + 1 => S187_2b c (S187_1l c k)
theorem TS187_1l (c : CF) : (rk d187 P0 c 155 c187.s9.s2.fst.snd.bd).1 (L1 (S187_0 c) 16) [(10,(L1 (S187_0 c) 16))] k187 gK = L4 (S187_1l c rounds) 16 138 139 140 := loop_t (by kernel_rfl) (loop_ind (A := fun m => L4 (S187_1l c m) 16 138 139 140) rfl (fun m => TS187_2b c (S187_1l c m)) rounds)
noncomputable def S187_3 (c : CF) (t16 t138 t139 t140 : AV) (h : Heap) : Res := S187_1l c rounds t16 t138 t139 t140 h
theorem TS187_3 (c : CF) : (rk d187 P0 c 155 c187.s9.s2.fst.snd).1 (L1 (S187_0 c) 16) [] k187 gK = L4 (S187_3 c) 16 138 139 140 := Eq.trans (block_t (id := 10) (by kernel_rfl) (TS187_1l c)) (by funext s h; kernel_rfl)
noncomputable def S187_4 (c : CF) (t2 t16 : AV) (h : Heap) : Res := opt (fieldAddrX 5 t2) fun t137 => opt (loadX none t137 h) fun t138 => opt (lenS t138) fun t139 => S187_3 c t16 t138 t139 (iL 0) h
theorem TS187_4 (c : CF) : (rk d187 P0 c 155 c187.s9.s2).1 k187 [] k187 gK = L2 (S187_4 c) 2 16 := Eq.trans (seq_t (by kernel_rfl) (TS187_0 c) (seq_t (by kernel_rfl) (TS187_3 c) rfl)) (by funext s h; kernel_rfl)
noncomputable def S187_6b (c : CF) (r5 : A5) (t2 t16 t124 t125 t126 : AV) (h : Heap) : Res := opt (fastBin .lss t126 t125) fun t127 => test t127 (opt (indexAddrS 11 t124 t126 h) fun t128 => opt (loadX (some 11) t128 h) fun t129 => opt2 (box (.agg [eL,eL,(iL 0),(iL 0),eL,cL,eL,eL,nL,nL,nL]) h) fun t24 h1 => optH (storeX 11 t24 t129 h1) fun h2 => opt (fieldAddrX 1 t24) fun t130 => opt (loadX none t130 h2) fun t131 => opt (lenStr t131) fun t132 => opt (fastBin .gtr t132 (iL 198)) fun t133 => test t133 (none) (opt (fastBin .add t126 (iL 1)) fun t136 => r5 t2 t16 t124 t125 t136 h2)) (S187_4 c t2 t16 h)
theorem TS187_6b (c : CF) (r5 : A5) : (rk d187 P0 c 155 c187.s9.snd.fst.snd.bd.bd).1 (L5 r5 2 16 124 125 126) [(8,(L2 (S187_4 c) 2 16))] k187 gK = L5 (S187_6b c r5) 2 16 124 125 126 := by funext s h; kernel_rfl
noncomputable def S187_5l (c : CF) : Nat → A5
  | 0 => fun _ _ _ _ _ _ => none
  | k + 1 => S187_6b c (S187_5l c k)
theorem TS187_5l (c : CF) : (rk d187 P0 c 155 c187.s9.snd.fst.snd.bd).1 (L2 (S187_4 c) 2 16) [(8,(L2 (S187_4 c) 2 16))] k187 gK = L5 (S187_5l c rounds) 2 16 124 125 126 := loop_t (by kernel_rfl) (loop_ind (A := fun m => L5 (S187_5l c m) 2 16 124 125 126) rfl (fun m => TS187_6b c (S187_5l c m)) rounds)
noncomputable def S187_7 (c : CF) (t2 t16 t124 t125 t126 : AV) (h : Heap) : Res := S187_5l c rounds t2 t16 t124 t125 t126 h
theorem TS187_7 (c : CF) : (rk d187 P0 c 155 c187.s9.snd.fst.snd).1 (L2 (S187_4 c) 2 16) [] k187 gK = L5 (S187_7 c) 2 16 124 125 126 := Eq.trans (block_t (id := 8) (by kernel_rfl) (TS187_5l c)) (by funext s h; kernel_rfl)
noncomputable def S187_8 (c : CF) (t2 t16 : AV) (h : Heap) : Res := opt (fieldAddrX 4 t2) fun t123 => opt (loadX none t123 h) fun t124 => opt (lenS t124) fun t125 => S187_7 c t2 t16 t124 t125 (iL 0) h
theorem TS187_8 (c : CF) : (rk d187 P0 c 155 c187.s9.snd).1 k187 [] k187 gK = L2 (S187_8 c) 2 16 := Eq.trans (seq_t (by kernel_rfl) (TS187_4 c) (seq_t (by kernel_rfl) (TS187_7 c) rfl)) (by funext s h; kernel_rfl)
noncomputable def S187_10b (c : CF) (r9 : A5) (t2 t16 t111 t112 t113 : AV) (h : Heap) : Res := opt (fastBin .lss t113 t112) fun t114 => test t114 (opt (indexAddrS 1 t111 t113 h) fun t115 => opt (loadX none t115 h) fun t116 => opt2 (c 294 [t16,t116] h) fun t119 h1 => opt (notX t119) fun t120 => test t120 (none) (opt (fastBin .add t113 (iL 1)) fun t122 => r9 t2 t16 t111 t112 t122 h1)) (S187_8 c t2 t16 h)
theorem TS187_10b (c : CF) (r9 : A5) : (rk d187 P0 c 155 c187.s9.fst.snd.bd.bd).1 (L5 r9 2 16 111 112 113) [(6,(L2 (S187_8 c) 2 16))] k187 gK = L5 (S187_10b c r9) 2 16 111 112 113 := by funext s h; kernel_rfl
noncomputable def S187_9l (c : CF) : Nat → A5
  | 0 => fun _ _ _ _ _ _ => none
  | k + 1 => S187_10b c (S187_9l c k)
theorem TS187_9l (c : CF) : (rk d187 P0 c 155 c187.s9.fst.snd.bd).1 (L2 (S187_8 c) 2 16) [(6,(L2 (S187_8 c) 2 16))] k187 gK = L5 (S187_9l c rounds) 2 16 111 112 113 := loop_t (by kernel_rfl) (loop_ind (A := fun m => L5 (S187_9l c m) 2 16 111 112 113) rfl (fun m => TS187_10b c (S187_9l c m)) rounds)
noncomputable def S187_11 (c : CF) (t2 t16 t111 t112 t113 : AV) (h : Heap) : Res := S187_9l c rounds t2 t16 t111 t112 t113 h
theorem TS187_11 (c : CF) : (rk d187 P0 c 155 c187.s9.fst.snd).1 (L2 (S187_8 c) 2 16) [] k187 gK = L5 (S187_11 c) 2 16 111 112 113 := Eq.trans (block_t (id := 6) (by kernel_rfl) (TS187_9l c)) (by funext s h; kernel_rfl)
noncomputable def S187_12 (c : CF) (t2 t16 : AV) (h : Heap) : Res := opt (loadX (some 6) t2 h) fun t110 => opt2 (c 293 [t110] h) fun t111 h1 => opt (lenS t111) fun t112 => S187_11 c t2 t16 t111 t112 (iL 0) h1
theorem TS187_12 (c : CF) : (rk d187 P0 c 155 c187.s9).1 k187 [] k187 gK = L2 (S187_12 c) 2 16 := Eq.trans (seq_t (by kernel_rfl) (TS187_8 c) (seq_t (by kernel_rfl) (TS187_11 c) rfl)) (by funext s h; kernel_rfl)
noncomputable def S187_13 (c : CF) (t2 t16 : AV) (h : Heap) : Res := opt (loadX (some 6) t2 h) fun t108 => opt2 (c 292 [t16,t108] h) fun t109 h1 => S187_12 c t2 t16 h1
theorem TS187_13 (c : CF) : (rk d187 P0 c 155 c187.s8).1 k187 [] k187 gK = L2 (S187_13 c) 2 16 := Eq.trans (seq_t (by kernel_rfl) (TS187_12 c) rfl) (by funext s h; kernel_rfl)
noncomputable def S187_15b (c : CF) (r14 : A4) (t2 t16 t77 t78 : AV) (h : Heap) : Res := opt (fastBin .lss t78 t77) fun t79 => test t79 (none) (S187_13 c t2 t16 h)
theorem TS187_15b (c : CF) (r14 : A4) : (rk d187 P0 c 155 c187.s7.fst.snd.bd.bd).1 (L4 r14 2 16 77 78) [(4,(L2 (S187_13 c) 2 16))] k187 gK = L4 (S187_15b c r14) 2 16 77 78 := by funext s h; kernel_rfl
noncomputable def S187_14l (c : CF) : Nat → A4
  | 0 => fun _ _ _ _ _ => none
  | k + 1 => S187_15b c (S187_14l c k)
theorem TS187_14l (c : CF) : (rk d187 P0 c 155 c187.s7.fst.snd.bd).1 (L2 (S187_13 c) 2 16) [(4,(L2 (S187_13 c) 2 16))] k187 gK = L4 (S187_14l c rounds) 2 16 77 78 := loop_t (by kernel_rfl) (loop_ind (A := fun m => L4 (S187_14l c m) 2 16 77 78) rfl (fun m => TS187_15b c (S187_14l c m)) rounds)
noncomputable def S187_16 (c : CF) (t2 t16 t77 t78 : AV) (h : Heap) : Res := S187_14l c rounds t2 t16 t77 t78 h
theorem TS187_16 (c : CF) : (rk d187 P0 c 155 c187.s7.fst.snd).1 (L2 (S187_13 c) 2 16) [] k187 gK = L4 (S187_16 c) 2 16 77 78 := Eq.trans (block_t (id := 4) (by kernel_rfl) (TS187_14l c)) (by funext s h; kernel_rfl)
noncomputable def S187_17 (c : CF) (t2 t16 : AV) (h : Heap) : Res := opt (fieldAddrX 1 t2) fun t75 => opt (loadX none t75 h) fun t76 => opt (lenS t76) fun t77 => S187_16 c t2 t16 t77 (iL 0) h
theorem TS187_17 (c : CF) : (rk d187 P0 c 155 c187.s7).1 k187 [] k187 gK = L2 (S187_17 c) 2 16 := Eq.trans (seq_t (by kernel_rfl) (TS187_13 c) (seq_t (by kernel_rfl) (TS187_16 c) rfl)) (by funext s h; kernel_rfl)
noncomputable def S187_18 (c : CF) (t2 : AV) (h : Heap) : Res := opt2 (mkmapX h) fun t70 h1 => opt2 (mkmapX h1) fun t71 h2 => opt2 (mkmapX h2) fun t72 h3 => opt (buildX [(.lit (.map none)),(.lit (.map none)),(.lit (.map none))] [(0,1),(1,1),(2,1)] [(0,t70),(1,t71),(2,t72)]) fun t73 => opt2 (box t73 h3) fun t74 h4 => S187_17 c t2 t74 h4
theorem TS187_18 (c : CF) : (rk d187 P0 c 155 c187.s6).1 k187 [] k187 gK = L1 (S187_18 c) 2 := Eq.trans (seq_t (by kernel_rfl) (TS187_17 c) rfl) (by funext s h; kernel_rfl)
noncomputable def S187_19 (c : CF) (t2 : AV) (h : Heap) : Res := opt (fieldAddrX 1 t2) fun t64 => opt (loadX none t64 h) fun t65 => opt2 (c 288 [t65,(.fn (.func 289) [] [t2])] h) fun t67 h1 => test t67 (none) (S187_18 c t2 h1)
theorem TS187_19 (c : CF) : (rk d187 P0 c 155 c187.s5).1 k187 [] k187 gK = L1 (S187_19 c) 2 := Eq.trans (seq_t (by kernel_rfl) (TS187_18 c) rfl) (by funext s h; kernel_rfl)
noncomputable def S187_20 (c : CF) (t2 t11 : AV) (h : Heap) : Res := opt2 (c 287 [t11] h) fun t59 h1 => opt (extractX t59 0) fun t60 => opt (extractX t59 1) fun t61 => test t61 (none) (S187_19 c t2 h1)
theorem TS187_20 (c : CF) : (rk d187 P0 c 155 c187.s4).1 k187 [] k187 gK = L2 (S187_20 c) 2 11 := Eq.trans (seq_t (by kernel_rfl) (TS187_19 c) rfl) (by funext s h; kernel_rfl)
noncomputable def S187_22b (c : CF) (r21 : A4) (t2 t11 t42 t43 : AV) (h : Heap) : Res := opt (fastBin .lss t43 t42) fun t44 => test t44 (none) (S187_20 c t2 t11 h)
theorem TS187_22b (c : CF) (r21 : A4) : (rk d187 P0 c 155 c187.s3.fst.snd.bd.bd).1 (L4 r21 2 11 42 43) [(2,(L2 (S187_20 c) 2 11))] k187 gK = L4 (S187_22b c r21) 2 11 42 43 := by funext s h; kernel_rfl
noncomputable def S187_21l (c : CF) : Nat → A4
  | 0 => fun _ _ _ _ _ => none
  | k + 1 => S187_22b c (S187_21l c k)
theorem TS187_21l (c : CF) : (rk d187 P0 c 155 c187.s3.fst.snd.bd).1 (L2 (S187_20 c) 2 11) [(2,(L2 (S187_20 c) 2 11))] k187 gK = L4 (S187_21l c rounds) 2 11 42 43 := loop_t (by kernel_rfl) (loop_ind (A := fun m => L4 (S187_21l c m) 2 11 42 43) rfl (fun m => TS187_22b c (S187_21l c m)) rounds)
noncomputable def S187_23 (c : CF) (t2 t11 t42 t43 : AV) (h : Heap) : Res := S187_21l c rounds t2 t11 t42 t43 h
theorem TS187_23 (c : CF) : (rk d187 P0 c 155 c187.s3.fst.snd).1 (L2 (S187_20 c) 2 11) [] k187 gK = L4 (S187_23 c) 2 11 42 43 := Eq.trans (block_t (id := 2) (by kernel_rfl) (TS187_21l c)) (by funext s h; kernel_rfl)
noncomputable def S187_24 (c : CF) (t2 t11 : AV) (h : Heap) : Res := opt (fieldAddrX 1 t2) fun t40 => opt (loadX none t40 h) fun t41 => opt (lenS t41) fun t42 => S187_23 c t2 t11 t42 (iL 0) h
theorem TS187_24 (c : CF) : (rk d187 P0 c 155 c187.s3).1 k187 [] k187 gK = L2 (S187_24 c) 2 11 := Eq.trans (seq_t (by kernel_rfl) (TS187_20 c) (seq_t (by kernel_rfl) (TS187_23 c) rfl)) (by funext s h; kernel_rfl)
noncomputable def S187_25 (c : CF) (t2 : AV) (h : Heap) : Res := S187_24 c t2 nL h
theorem TS187_25 (c : CF) : (rk d187 P0 c 155 c187.s2).1 k187 [] k187 gK = L1 (S187_25 c) 2 := Eq.trans (seq_t (by kernel_rfl) (TS187_24 c) rfl) (by funext s h; kernel_rfl)
noncomputable def S187_27b (c : CF) (r26 : A3) (t2 t28 t29 : AV) (h : Heap) : Res := opt (fastBin .lss t29 (iL 3)) fun t30 => test t30 (opt (indexX 3 1 none t28 t29) fun t31 => opt2 (c 287 [t31] h) fun t34 h1 => opt (extractX t34 0) fun t35 => opt (extractX t34 1) fun t36 => test t36 (none) (opt (fastBin .add t29 (iL 1)) fun t39 => r26 t2 t28 t39 h1)) (S187_25 c t2 h)
theorem TS187_27b (c : CF) (r26 : A3) : (rk d187 P0 c 155 c187.snd.fst.snd.bd.bd).1 (L3 r26 2 28 29) [(0,(L1 (S187_25 c) 2))] k187 gK = L3 (S187_27b c r26) 2 28 29 := by funext s h; kernel_rfl
noncomputable def S187_26l (c : CF) : Nat → A3
  | 0 => fun _ _ _ _ => none
  | k + 1 => S187_27b c (S187_26l c k)
theorem TS187_26l (c : CF) : (rk d187 P0 c 155 c187.snd.fst.snd.bd).1 (L1 (S187_25 c) 2) [(0,(L1 (S187_25 c) 2))] k187 gK = L3 (S187_26l c rounds) 2 28 29 := loop_t (by kernel_rfl) (loop_ind (A := fun m => L3 (S187_26l c m) 2 28 29) rfl (fun m => TS187_27b c (S187_26l c m)) rounds)
noncomputable def S187_28 (c : CF) (t2 t28 t29 : AV) (h : Heap) : Res := S187_26l c rounds t2 t28 t29 h
theorem TS187_28 (c : CF) : (rk d187 P0 c 155 c187.snd.fst.snd).1 (L1 (S187_25 c) 2) [] k187 gK = L3 (S187_28 c) 2 28 29 := Eq.trans (block_t (id := 0) (by kernel_rfl) (TS187_26l c)) (by funext s h; kernel_rfl)
noncomputable def S187_29 (c : CF) (t2 : AV) (h : Heap) : Res := opt (loadX (some 6) t2 h) fun t27 => opt2 (c 286 [t27] h) fun t28 h1 => S187_28 c t2 t28 (iL 0) h1
theorem TS187_29 (c : CF) : (rk d187 P0 c 155 c187.snd).1 k187 [] k187 gK = L1 (S187_29 c) 2 := Eq.trans (seq_t (by kernel_rfl) (TS187_25 c) (seq_t (by kernel_rfl) (TS187_28 c) rfl)) (by funext s h; kernel_rfl)
noncomputable def F187 (c : CF) (a0 a1 : AV) (h : Heap) : Res := opt2 (box a0 h) fun t2 h1 => S187_29 c t2 h1
theorem TF187 (c : CF) (a0 a1 : AV) (h : Heap) : (rk d187 P0 c 155 c187).1 k187 [] k187 gK (argsTr gl 0 [a0,a1]) h = F187 c a0 a1 h := Eq.trans (congrFun (congrFun (seq_t (by kernel_rfl) (TS187_29 c) rfl) _) _) (by kernel_rfl)
noncomputable def N187 : FnF := n2 F187
theorem N187_ok [Nu] : FnOk P0 gl 187 N187 := n2_ok namesOk mixedOrders lowOk Tryz.func187 (by kernel_rfl) (by kernel_rfl) (by kernel_rfl) TF187
noncomputable def c188 : Code := codeOf Tryz.f188
noncomputable def k188 : Kt := finK P0 Tryz.f188.results.toList
def d188 : List Nat := [3]
noncomputable def S188_0 (c : CF) (t13 t14 : AV) (h : Heap) : Res := some ((.tup [t13,t14]),h)
theorem TS188_0 (c : CF) : (rk d188 P0 c 36 c188.s3).1 k188 [] k188 gK = L2 (S188_0 c) 13 14 := by funext s h; kernel_rfl
noncomputable def S188_1 (c : CF) (t3 t12 t13 t14 : AV) (h : Heap) : Res := opt (fastBin .eql t13 (iL 0)) fun t26 => test t26 (opt (fastBin .neq t12 t3) fun t30 => test t30 (none) (S188_0 c t13 t14 h)) (S188_0 c t13 t14 h)
theorem TS188_1 (c : CF) : (rk d188 P0 c 36 c188.s2).1 k188 [] k188 gK = L4 (S188_1 c) 3 12 13 14 := Eq.trans (seq_t (by kernel_rfl) (TS188_0 c) rfl) (by funext s h; kernel_rfl)
noncomputable def S188_2 (c : CF) (t0 t1 t3 t4 t5 t8 : AV) (h : Heap) : Res := opt (loadX none t4 h) fun t16 => opt (loadX (some 6) t5 h) fun t19 => opt (loadX (some 9) t8 h) fun t20 => opt2 (c 189 [t16,t0,t1,t19,t20] h) fun t21 h1 => opt (extractX t21 0) fun t22 => opt (extractX t21 1) fun t23 => opt (extractX t21 2) fun t24 => S188_1 c t3 t22 t23 t24 h1
theorem TS188_2 (c : CF) : (rk d188 P0 c 36 c188.snd).1 k188 [] k188 gK = L6 (S188_2 c) 0 1 3 4 5 8 := Eq.trans (seq_t (by kernel_rfl) (TS188_1 c) rfl) (by funext s h; kernel_rfl)
noncomputable def F188 (c : CF) (a0 a1 a2 a3 a4 a5 : AV) (h : Heap) : Res := opt2 (box a2 h) fun t8 h1 => S188_2 c a0 a1 a3 a4 a5 t8 h1
theorem TF188 (c : CF) (a0 a1 a2 a3 a4 a5 : AV) (h : Heap) : (rk d188 P0 c 36 c188).1 k188 [] k188 gK (argsTr gl 0 [a0,a1,a2,a3,a4,a5]) h = F188 c a0 a1 a2 a3 a4 a5 h := Eq.trans (congrFun (congrFun (seq_t (by kernel_rfl) (TS188_2 c) rfl) _) _) (by kernel_rfl)
noncomputable def N188 : FnF := n6 F188
theorem N188_ok [Nu] : FnOk P0 gl 188 N188 := n6_ok namesOk mixedOrders lowOk Tryz.func188 (by kernel_rfl) (by kernel_rfl) (by kernel_rfl) TF188
noncomputable def c189 : Code := codeOf Tryz.f189
noncomputable def k189 : Kt := finK P0 Tryz.f189.results.toList
def d189 : List Nat := [2,6]
noncomputable def F189 (c : CF) (a0 a1 a2 a3 a4 : AV) (h : Heap) : Res := opt2 (box a3 h) fun t8 h1 => opt2 (box a4 h1) fun t9 h2 => opt (binX P0 .ptr .eql 331 a0 pL) fun t16 => test t16 (none) (opt (loadX (some 6) t8 h2) fun t18 => opt2 (c 296 [t18,a2] h2) fun t20 h3 => opt2 (c 297 [a1] h3) fun t22 h4 => opt (buildX [pL,nL,nL,(iL 0),(iL 0)] [(0,1),(1,1),(2,1),(3,1),(4,1)] [(0,a0),(1,t20),(2,t22)]) fun t23 => opt2 (box t23 h4) fun t24 h5 => opt (loadX (some 9) t9 h5) fun t26 => opt2 (c 298 [t24,t26] h5) fun t27 h6 => opt (nilCheckX t24) fun t29 => opt (fieldAddrX 3 t29) fun t30 => opt (loadX none t30 h6) fun t31 => opt (fastBin .neq t31 (iL 0)) fun t32 => test t32 (none) (some ((.tup [t27,(iL 0),(iL 0)]),h6)))
theorem TF189 (c : CF) (a0 a1 a2 a3 a4 : AV) (h : Heap) : (rk d189 P0 c 42 c189).1 k189 [] k189 gK (argsTr gl 0 [a0,a1,a2,a3,a4]) h = F189 c a0 a1 a2 a3 a4 h := by kernel_rfl
noncomputable def N189 : FnF := n5 F189
theorem N189_ok [Nu] : FnOk P0 gl 189 N189 := n5_ok namesOk mixedOrders lowOk Tryz.func189 (by kernel_rfl) (by kernel_rfl) (by kernel_rfl) TF189
noncomputable def c196 : Code := codeOf Tryz.f196
noncomputable def k196 : Kt := finK P0 Tryz.f196.results.toList
def d196 : List Nat := []
noncomputable def F196 (c : CF) (a0 a1 : AV) (h : Heap) : Res := opt (lenS a0) fun t6 => opt (convI .u64 t6) fun t10 => opt2 (c 76 [t10] h) fun t11 h1 => opt2 (c 312 [a0,(iL 0),t6,t11,a1] h1) fun t13 h2 => some ((.lit (.tuple #[])),h2)
theorem TF196 (c : CF) (a0 a1 : AV) (h : Heap) : (rk d196 P0 c 14 c196).1 k196 [] k196 gK (argsTr gl 0 [a0,a1]) h = F196 c a0 a1 h := by kernel_rfl
noncomputable def N196 : FnF := n2 F196
theorem N196_ok [Nu] : FnOk P0 gl 196 N196 := n2_ok namesOk mixedOrders lowOk Tryz.func196 (by kernel_rfl) (by kernel_rfl) (by kernel_rfl) TF196
end Go.Proofs.YtkkjoomlfmofbaaGreatDoor
