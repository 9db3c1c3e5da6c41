import Derived.Test.YtomjidlkaocmkaaGreatProg
import Derived.Test.YtomjidlkaocmkaaGreatAmV
import Derived.KernelRfl
namespace Go.Proofs.YtomjidlkaocmkaaGreat
open Go.Am
set_option maxRecDepth 100000
set_option linter.unusedSimpArgs false
set_option linter.unusedVariables false
@[reducible] noncomputable def P0 : Program := Tryz.prog
noncomputable def gl : Tr := .leaf
theorem lowOk : ∀ i, i ≤ 4294967296 → gl.get i = .lit undef := fun i _ => Tr.get_leaf i
theorem names : (Tryz.prog.funcs.toList.all fun fn => !(fn.body.isSome && (fn.name == "runtime.NumGoroutine"))) = true := by kernel_rfl
theorem namesOk : NamesOk Tryz.prog := by
  intro f fn h hb
  have hm : fn ∈ Tryz.prog.funcs.toList := Array.mem_toList_iff.2 (Array.mem_of_getElem? h)
  have := List.all_eq_true.1 names fn hm
  simp only [hb, Bool.true_and, Bool.not_eq_true'] at this
  exact this
theorem mixedOrders : Tryz.prog.follows .mixedOrders = true := by kernel_rfl
noncomputable def c3 : Code := codeOf Tryz.f3
noncomputable def k3 : Kt := finK P0 Tryz.f3.results.toList
def d3 : List Nat := []
noncomputable def F3 (c : CF) (h : Heap) : Res := opt2 (bsliceX 1 eL 1 [(0,(sL [40,109,111,100,117,108,101,32,109,32,40,101,120,112,111,114,116,32,102,41,32,40,102,117,110,32,102,32,40,41,32,110,117,109,32,49,41,41]))] h) fun t18 h1 => opt2 (c 9 [t18] h1) fun t19 h2 => opt2 (c 8 [t19,(sL [109,46,102]),nL,(iL 0)] h2) fun t20 h3 => opt (extractX t20 0) fun t21 => opt (extractX t20 1) fun t22 => opt2 (box (.agg [(iL 0),(iL 0),(iL 0),cL,nL,nL]) h3) fun t1 h4 => optH (storeX 6 t1 t21 h4) fun h5 => opt2 (c 10 [(sL [40,99,111,110,115,116,32,99,32,110,117,109,32,40,103,41,41,32,40,99,111,110,115,116,32,100,32,110,117,109,32,49,41,32,40,102,117,110,32,103,32,40,41,32,110,117,109,32,100,41,32,40,102,117,110,32,102,32,40,41,32,110,117,109,32,49,41]),nL] h5) fun t23 h6 => opt2 (box (.agg [(iL 0),(iL 0),(iL 0),cL,nL,nL]) h6) fun t3 h7 => optH (storeX 6 t3 t23 h7) fun h8 => opt2 (c 10 [(sL [40,102,117,110,32,102,32,40,41,32,110,117,109,32,40,102,41,41]),nL] h8) fun t24 h9 => opt2 (box (.agg [(iL 0),(iL 0),(iL 0),cL,nL,nL]) h9) fun t4 h10 => optH (storeX 6 t4 t24 h10) fun h11 => opt2 (c 10 [(sL [40,102,117,110,32,103,32,40,41,32,110,117,109,32,49,41,32,40,102,117,110,32,102,32,40,41,32,40,102,110,32,40,41,32,110,117,109,41,32,103,41]),nL] h11) fun t25 h12 => opt2 (box (.agg [(iL 0),(iL 0),(iL 0),cL,nL,nL]) h12) fun t5 h13 => optH (storeX 6 t5 t25 h13) fun h14 => opt2 (bsliceX 1 eL 2 [(0,(sL [40,109,111,100,117,108,101,32,97,32,40,105,109,112,111,114,116,32,98,32,102,41,32,40,101,120,112,111,114,116,32,102,41,32,40,102,117,110,32,102,32,40,41,32,110,117,109,32,49,41,41])),(1,(sL [40,109,111,100,117,108,101,32,98,32,40,105,109,112,111,114,116,32,97,32,102,41,32,40,101,120,112,111,114,116,32,102,41,32,40,102,117,110,32,102,32,40,41,32,110,117,109,32,49,41,41]))] h14) fun t27 h15 => opt2 (c 9 [t27] h15) fun t28 h16 => opt2 (c 8 [t28,(sL [97,46,102]),nL,(iL 9)] h16) fun t29 h17 => opt (extractX t29 0) fun t30 => opt (extractX t29 1) fun t31 => opt2 (box (.agg [(iL 0),(iL 0),(iL 0),cL,nL,nL]) h17) fun t6 h18 => optH (storeX 6 t6 t30 h18) fun h19 => opt2 (c 8 [nL,(sL [97,46,102]),nL,(iL 9)] h19) fun t33 h20 => opt (extractX t33 0) fun t34 => opt (extractX t33 1) fun t35 => opt2 (box (.agg [(iL 0),(iL 0),(iL 0),cL,nL,nL]) h20) fun t8 h21 => optH (storeX 6 t8 t34 h21) fun h22 => opt2 (c 10 [(sL [40,102,117,110,32,102,32,40,40,120,32,110,117,109,41,41,32,110,117,109,32,120,41]),nL] h22) fun t36 h23 => opt2 (box (.agg [(iL 0),(iL 0),(iL 0),cL,nL,nL]) h23) fun t10 h24 => optH (storeX 6 t10 t36 h24) fun h25 => opt2 (c 11 [eL] h25) fun t37 h26 => opt2 (bsliceX 5 (.agg [(iL 0),(iL 0),cL,nL,nL]) 1 [(0,t37)] h26) fun t38 h27 => opt2 (c 10 [(sL [40,102,117,110,32,102,32,40,40,120,32,110,117,109,41,41,32,110,117,109,32,120,41]),t38] h27) fun t39 h28 => opt2 (box (.agg [(iL 0),(iL 0),(iL 0),cL,nL,nL]) h28) fun t11 h29 => optH (storeX 6 t11 t39 h29) fun h30 => opt2 (c 12 [(iL 3),(iL 0)] h30) fun t40 h31 => opt2 (bsliceX 5 (.agg [(iL 0),(iL 0),cL,nL,nL]) 1 [(0,t40)] h31) fun t41 h32 => opt2 (c 10 [(sL [40,116,121,112,101,32,84,32,40,65,41,32,40,66,32,110,117,109,41,41,32,40,102,117,110,32,102,32,40,40,120,32,110,117,109,41,41,32,84,32,40,105,102,32,120,32,40,66,32,120,41,32,40,65,41,41,41]),t41] h32) fun t42 h33 => opt2 (box (.agg [(iL 0),(iL 0),(iL 0),cL,nL,nL]) h33) fun t12 h34 => optH (storeX 6 t12 t42 h34) fun h35 => opt2 (c 10 [(sL [40,102,117,110,32,102,32,40,41,32,98,121,116,101,115,32,40,99,117,116,32,34,104,101,108,108,111,34,32,49,32,51,41,41]),nL] h35) fun t43 h36 => opt2 (box (.agg [(iL 0),(iL 0),(iL 0),cL,nL,nL]) h36) fun t13 h37 => optH (storeX 6 t13 t43 h37) fun h38 => opt2 (c 10 [(sL [40,102,117,110,32,102,32,40,41,32,110,117,109,32,40,109,117,108,32,49,48,48,48,48,48,48,32,49,48,48,48,48,48,48,41,41]),nL] h38) fun t44 h39 => opt2 (box (.agg [(iL 0),(iL 0),(iL 0),cL,nL,nL]) h39) fun t14 h40 => optH (storeX 6 t14 t44 h40) fun h41 => opt2 (bsliceX 1 eL 3 [(0,(sL [40,109,111,100,117,108,101,32,98,32,40,105,109,112,111,114,116,32,97,32,102,41,41])),(1,(sL [40,109,111,100,117,108,101,32,97,41])),(2,(sL [40,109,111,100,117,108,101,32,99,41]))] h41) fun t46 h42 => opt2 (c 9 [t46] h42) fun t47 h43 => opt2 (c 13 [t47] h43) fun t48 h44 => opt (extractX t48 0) fun t49 => opt (extractX t48 1) fun t50 => opt (fieldAddrX 0 t1) fun t51 => opt (loadX none t51 h44) fun t52 => eqH h44 h44 (opt (fastBin .eql t52 (iL 41)) fun t53 => test t53 (opt (fastBin .eql t22 (iL 0)) fun t56 => test t56 (opt (fieldAddrX 0 t3) fun t59 => opt (loadX none t59 h44) fun t60 => eqH h44 h44 (opt (fastBin .eql t60 (iL 46)) fun t61 => test t61 (opt (fieldAddrX 0 t4) fun t64 => opt (loadX none t64 h44) fun t65 => eqH h44 h44 (opt (fastBin .eql t65 (iL 43)) fun t66 => test t66 (opt (fieldAddrX 1 t5) fun t74 => opt (fieldAddrX 0 t74) fun t75 => opt (loadX none t75 h44) fun t76 => eqH h44 h44 (opt (fastBin .eql t76 (iL 5)) fun t77 => test t77 (opt (fieldAddrX 0 t5) fun t80 => opt (loadX none t80 h44) fun t81 => eqH h44 h44 (opt (fastBin .eql t81 (iL 0)) fun t82 => test t82 (opt (fieldAddrX 0 t6) fun t85 => opt (loadX none t85 h44) fun t86 => eqH h44 h44 (opt (fastBin .eql t86 (iL 30)) fun t87 => test t87 (opt (fieldAddrX 0 t8) fun t90 => opt (loadX none t90 h44) fun t91 => eqH h44 h44 (opt (fastBin .eql t91 (iL 16)) fun t92 => test t92 (opt (fieldAddrX 0 t10) fun t95 => opt (loadX none t95 h44) fun t96 => eqH h44 h44 (opt (fastBin .eql t96 (iL 1)) fun t97 => test t97 (opt (fieldAddrX 0 t11) fun t100 => opt (loadX none t100 h44) fun t101 => eqH h44 h44 (opt (fastBin .eql t101 (iL 1)) fun t102 => test t102 (opt (fieldAddrX 1 t12) fun t105 => opt (loadX (some 5) t105 h44) fun t106 => eqH h44 h44 (opt2 (c 12 [(iL 3),(iL 0)] h44) fun t107 h45 => eqH h45 h44 (opt2 (bsliceX 5 (.agg [(iL 0),(iL 0),cL,nL,nL]) 1 [(0,t107)] h44) fun t108 h46 => opt (loadX (some 5) t105 h46) fun t106_1 => eqK t106_1 t106 (eqH h46 h46 (opt2 (c 15 [(iL 1),t108] h46) fun t109 h47 => eqH h47 h46 (opt2 (c 14 [t106,t109] h46) fun t110 h48 => eqH h48 h46 (test t110 (opt (fieldAddrX 1 t13) fun t113 => opt (fieldAddrX 3 t113) fun t114 => opt (loadX none t114 h46) fun t115 => eqH h46 h46 (opt (b2sX t115 h46) fun t116 => eqH h46 h46 (opt (fastBin .eql t116 (sL [101,108])) fun t117 => test t117 (opt (fieldAddrX 0 t14) fun t120 => opt (loadX none t120 h46) fun t121 => eqH h46 h46 (opt (fastBin .eql t121 (iL 44)) fun t122 => test t122 (opt2 (bsliceX 1 eL 3 [(0,(sL [97])),(1,(sL [98])),(2,(sL [99]))] h46) fun t126 h49 => eqH h49 h46 (opt2 (c 16 [t49,t126] h46) fun t127 h50 => eqH h50 h46 (test t127 (test t50 (opt2 (c 17 [] h46) fun t133 h51 => eqH h51 h46 (some (t133,h46))) (some (fL,h46))) (some (fL,h46))))) (some (fL,h46)))) (some (fL,h46))))) (some (fL,h46))))))))) (some (fL,h44)))) (some (fL,h44)))) (some (fL,h44)))) (some (fL,h44)))) (some (fL,h44)))) (some (fL,h44)))) (opt (fieldAddrX 0 t4) fun t68 => opt (loadX none t68 h44) fun t69 => eqH h44 h44 (opt (fastBin .eql t69 (iL 41)) fun t70 => test t70 (opt (fieldAddrX 1 t5) fun t74_1 => opt (fieldAddrX 0 t74_1) fun t75_1 => opt (loadX none t75_1 h44) fun t76_1 => eqH h44 h44 (opt (fastBin .eql t76_1 (iL 5)) fun t77_1 => test t77_1 (opt (fieldAddrX 0 t5) fun t80_1 => opt (loadX none t80_1 h44) fun t81_1 => eqH h44 h44 (opt (fastBin .eql t81_1 (iL 0)) fun t82_1 => test t82_1 (opt (fieldAddrX 0 t6) fun t85_1 => opt (loadX none t85_1 h44) fun t86_1 => eqH h44 h44 (opt (fastBin .eql t86_1 (iL 30)) fun t87_1 => test t87_1 (opt (fieldAddrX 0 t8) fun t90_1 => opt (loadX none t90_1 h44) fun t91_1 => eqH h44 h44 (opt (fastBin .eql t91_1 (iL 16)) fun t92_1 => test t92_1 (opt (fieldAddrX 0 t10) fun t95_1 => opt (loadX none t95_1 h44) fun t96_1 => eqH h44 h44 (opt (fastBin .eql t96_1 (iL 1)) fun t97_1 => test t97_1 (opt (fieldAddrX 0 t11) fun t100_1 => opt (loadX none t100_1 h44) fun t101_1 => eqH h44 h44 (opt (fastBin .eql t101_1 (iL 1)) fun t102_1 => test t102_1 (opt (fieldAddrX 1 t12) fun t105_1 => opt (loadX (some 5) t105_1 h44) fun t106_2 => eqH h44 h44 (opt2 (c 12 [(iL 3),(iL 0)] h44) fun t107_1 h52 => eqH h52 h44 (opt2 (bsliceX 5 (.agg [(iL 0),(iL 0),cL,nL,nL]) 1 [(0,t107_1)] h44) fun t108_1 h53 => opt (loadX (some 5) t105_1 h53) fun t106_3 => eqK t106_3 t106_2 (eqH h53 h53 (opt2 (c 15 [(iL 1),t108_1] h53) fun t109_1 h54 => eqH h54 h53 (opt2 (c 14 [t106_2,t109_1] h53) fun t110_1 h55 => eqH h55 h53 (test t110_1 (opt (fieldAddrX 1 t13) fun t113_1 => opt (fieldAddrX 3 t113_1) fun t114_1 => opt (loadX none t114_1 h53) fun t115_1 => eqH h53 h53 (opt (b2sX t115_1 h53) fun t116_1 => eqH h53 h53 (opt (fastBin .eql t116_1 (sL [101,108])) fun t117_1 => test t117_1 (opt (fieldAddrX 0 t14) fun t120_1 => opt (loadX none t120_1 h53) fun t121_1 => eqH h53 h53 (opt (fastBin .eql t121_1 (iL 44)) fun t122_1 => test t122_1 (opt2 (bsliceX 1 eL 3 [(0,(sL [97])),(1,(sL [98])),(2,(sL [99]))] h53) fun t126_1 h56 => eqH h56 h53 (opt2 (c 16 [t49,t126_1] h53) fun t127_1 h57 => eqH h57 h53 (test t127_1 (test t50 (opt2 (c 17 [] h53) fun t133_1 h58 => eqH h58 h53 (some (t133_1,h53))) (some (fL,h53))) (some (fL,h53))))) (some (fL,h53)))) (some (fL,h53))))) (some (fL,h53))))))))) (some (fL,h44)))) (some (fL,h44)))) (some (fL,h44)))) (some (fL,h44)))) (some (fL,h44)))) (some (fL,h44)))) (some (fL,h44)))))) (some (fL,h44)))) (some (fL,h44))) (some (fL,h44)))
theorem TF3 (c : CF) (h : Heap) : (rk d3 P0 c 135 c3).1 k3 [] k3 gK (argsTr gl 0 []) h = F3 c h := by kernel_rfl
noncomputable def N3 : FnF := n0 F3
theorem N3_ok : FnOk P0 gl 3 N3 := n0_ok namesOk mixedOrders lowOk Tryz.func3 (by kernel_rfl) (by kernel_rfl) (by kernel_rfl) TF3
noncomputable def c8 : Code := codeOf Tryz.f8
noncomputable def k8 : Kt := finK P0 Tryz.f8.results.toList
def d8 : List Nat := [3,40]
noncomputable def S8_0 (c : CF) (t8 t10 t26 : AV) (h : Heap) : Res := opt (nilCheckX t10) fun t139 => opt (fieldAddrX 4 t139) fun t140 => opt (loadX none t140 h) fun t141 => opt (fastBin .neq t141 (iL 0)) fun t142 => test t142 (opt (nilCheckX t10) fun t144 => opt (fieldAddrX 4 t144) fun t145 => opt (loadX none t145 h) fun t146 => eqH h h (opt (buildX [(iL 0),(iL 0),(iL 0),cL,nL,nL] [(0,1),(1,5)] [(0,t146)]) fun t147 => opt (nilCheckX t10) fun t149 => opt (fieldAddrX 2 t149) fun t150 => opt (loadX none t150 h) fun t151 => eqH h h (optH (storeX 6 t8 t147 h) fun h1 => opt (loadX none t150 h1) fun t151_1 => eqK t151_1 t151 (eqH h1 h1 (opt (loadX (some 6) t8 h1) fun res => some ((.tup [res,t151]),h1)))))) (opt2 (box (iL 0) h) fun t27 h2 => optH (storeX 1 t27 (iL 2048) h2) fun h3 => opt (loadX (some 6) t26 h3) fun t153 => opt2 (c 30 [t153,t27] h3) fun t154 h4 => opt (extractX t154 0) fun t155 => opt (extractX t154 1) fun t156 => opt2 (box (.agg [(iL 0),(iL 0),cL,nL,nL]) h4) fun t28 h5 => optH (storeX 5 t28 t155 h5) fun h6 => opt (notX t156) fun t158 => test t158 (none) (opt (loadX (some 5) t28 h6) fun t164 => eqH h6 h6 (opt (buildX [(iL 0),(iL 0),(iL 0),cL,nL,nL] [(0,1),(1,5)] [(1,t164)]) fun t165 => opt (nilCheckX t10) fun t167 => opt (fieldAddrX 2 t167) fun t168 => opt (loadX none t168 h6) fun t169 => eqH h6 h6 (optH (storeX 6 t8 t165 h6) fun h7 => opt (loadX none t168 h7) fun t169_1 => eqK t169_1 t169 (eqH h7 h7 (opt (loadX (some 6) t8 h7) fun res_1 => some ((.tup [res_1,t169]),h7)))))))
theorem TS8_0 (c : CF) : (rk d8 P0 c 170 c8.s9.s5).1 k8 [] k8 gK = L3 (S8_0 c) 8 10 26 := by funext s h; kernel_rfl
noncomputable def S8_1 (c : CF) (t8 t10 t13 t14 t17 t26 : AV) (h : Heap) : Res := opt (nilCheckX t10) fun t128 => opt (fieldAddrX 4 t128) fun t129 => opt (loadX none t129 h) fun t130 => opt (fastBin .eql t130 (iL 0)) fun t131 => test t131 (opt2 (c 29 [t10,t13,t14] h) fun t135 h1 => opt2 (callV P0 c t135 [t17] h1) fun t137 h2 => optH (storeX 6 t26 t137 h2) fun h3 => S8_0 c t8 t10 t26 h3) (S8_0 c t8 t10 t26 h)
theorem TS8_1 (c : CF) : (rk d8 P0 c 170 c8.s9.s4).1 k8 [] k8 gK = L6 (S8_1 c) 8 10 13 14 17 26 := Eq.trans (seq_t (by kernel_rfl) (TS8_0 c) rfl) (by funext s h; kernel_rfl)
noncomputable def S8_2 (c : CF) (t8 t10 t13 t14 t17 : AV) (h : Heap) : Res := opt (buildX [(iL 0),(iL 0),cL,nL,nL,(.lit .nilFunc)] [(0,1),(1,1),(2,1),(3,1),(4,1),(5,1)] []) fun t126 => opt2 (box (.agg [(iL 0),(iL 0),cL,nL,nL,(.lit .nilFunc)]) h) fun t26 h1 => optH (storeX 6 t26 t126 h1) fun h2 => S8_1 c t8 t10 t13 t14 t17 t26 h2
theorem TS8_2 (c : CF) : (rk d8 P0 c 170 c8.s9.s3).1 k8 [] k8 gK = L5 (S8_2 c) 8 10 13 14 17 := Eq.trans (seq_t (by kernel_rfl) (TS8_1 c) rfl) (by funext s h; kernel_rfl)
noncomputable def S8_4 (c : CF) (r3 : A8) (t8 t10 t13 t14 t17 t89 t90 t91 : AV) (h : Heap) : Res := opt (fastBin .add t91 (iL 1)) fun t125 => r3 t8 t10 t13 t14 t17 t89 t90 t125 h
theorem TS8_4 (c : CF) (r3 : A8) : (rk d8 P0 c 170 c8.s9.s2.fst.snd.bd.bd.s3).1 (L8 r3 8 10 13 14 17 89 90 91) [(2,(L5 (S8_2 c) 8 10 13 14 17))] k8 gK = L8 (S8_4 c r3) 8 10 13 14 17 89 90 91 := by funext s h; kernel_rfl
noncomputable def S8_6b (c : CF) (r3 : A8) (r5 : A12) (t8 t10 t13 t14 t17 t22 t89 t90 t91 t105 t106 t107 : AV) (h : Heap) : Res := opt (fastBin .lss t107 t106) fun t108 => test t108 (opt (indexAddrS 11 t105 t107 h) fun t109 => opt (loadX (some 11) t109 h) fun t110 => opt2 (box (.agg [eL,eL,(iL 0),(iL 0),eL,cL,eL,eL,nL,nL,nL]) h) fun t24 h1 => optH (storeX 11 t24 t110 h1) fun h2 => opt (buildX [eL,(iL 0),(iL 0),cL,nL,nL,(.lit .nilFunc),pL,pL] [(0,1),(1,6),(7,1),(8,1)] [(3,t22)]) fun t113 => opt2 (box t113 h2) fun t114 h3 => opt (fieldAddrX 2 t24) fun t115 => opt (loadX (some 9) t115 h3) fun t116 => opt2 (c 28 [t10,t114,t116] h3) fun t117 h4 => opt2 (box (.agg [(iL 0),(iL 0),cL,nL,nL,(.lit .nilFunc)]) h4) fun t25 h5 => optH (storeX 6 t25 t117 h5) fun h6 => opt (nilCheckX t22) fun t119 => opt (fieldAddrX 7 t119) fun t120 => opt (loadX none t120 h6) fun t121 => eqH h6 h6 (opt (fieldAddrX 0 t24) fun t122 => opt (loadX none t122 h6) fun t123 => eqH h6 h6 (optH (mapSetX .str t121 t123 t25 h6) fun h7 => opt (fastBin .add t107 (iL 1)) fun t124 => r5 t8 t10 t13 t14 t17 t22 t89 t90 t91 t105 t106 t124 h7))) (S8_4 c r3 t8 t10 t13 t14 t17 t89 t90 t91 h)
theorem TS8_6b (c : CF) (r3 : A8) (r5 : A12) : (rk d8 P0 c 170 c8.s9.s2.fst.snd.bd.bd.s2.fst.bd.s3.bd.bd).1 (L12 r5 8 10 13 14 17 22 89 90 91 105 106 107) [(4,(L8 (S8_4 c r3) 8 10 13 14 17 89 90 91)),(3,(L8 (S8_4 c r3) 8 10 13 14 17 89 90 91)),(2,(L5 (S8_2 c) 8 10 13 14 17))] k8 gK = L12 (S8_6b c r3 r5) 8 10 13 14 17 22 89 90 91 105 106 107 := by funext s h; kernel_rfl
noncomputable def S8_5l (c : CF) (r3 : A8) : Nat → A12
  | 0 => fun _ _ _ _ _ _ _ _ _ _ _ _ _ => none
  | k + 1 => S8_6b c r3 (S8_5l c r3 k)
theorem TS8_5l (c : CF) (r3 : A8) : (rk d8 P0 c 170 c8.s9.s2.fst.snd.bd.bd.s2.fst.bd.s3.bd).1 (L8 (S8_4 c r3) 8 10 13 14 17 89 90 91) [(4,(L8 (S8_4 c r3) 8 10 13 14 17 89 90 91)),(3,(L8 (S8_4 c r3) 8 10 13 14 17 89 90 91)),(2,(L5 (S8_2 c) 8 10 13 14 17))] k8 gK = L12 (S8_5l c r3 rounds) 8 10 13 14 17 22 89 90 91 105 106 107 := loop_t (by kernel_rfl) (loop_ind (A := fun m => L12 (S8_5l c r3 m) 8 10 13 14 17 22 89 90 91 105 106 107) rfl (fun m => TS8_6b c r3 (S8_5l c r3 m)) rounds)
noncomputable def S8_7 (c : CF) (r3 : A8) (t8 t10 t13 t14 t17 t22 t89 t90 t91 t105 t106 t107 : AV) (h : Heap) : Res := S8_5l c r3 rounds t8 t10 t13 t14 t17 t22 t89 t90 t91 t105 t106 t107 h
theorem TS8_7 (c : CF) (r3 : A8) : (rk d8 P0 c 170 c8.s9.s2.fst.snd.bd.bd.s2.fst.bd.s3).1 (L8 (S8_4 c r3) 8 10 13 14 17 89 90 91) [(3,(L8 (S8_4 c r3) 8 10 13 14 17 89 90 91)),(2,(L5 (S8_2 c) 8 10 13 14 17))] k8 gK = L12 (S8_7 c r3) 8 10 13 14 17 22 89 90 91 105 106 107 := Eq.trans (block_t (id := 4) (by kernel_rfl) (TS8_5l c r3)) (by funext s h; kernel_rfl)
noncomputable def S8_8 (c : CF) (r3 : A8) (t8 t10 t13 t14 t17 t22 t89 t90 t91 : AV) (h : Heap) : Res := opt (nilCheckX t22) fun t102 => opt (fieldAddrX 0 t102) fun t103 => opt (fieldAddrX 4 t103) fun t104 => opt (loadX none t104 h) fun t105 => opt (lenS t105) fun t106 => S8_7 c r3 t8 t10 t13 t14 t17 t22 t89 t90 t91 t105 t106 (iL 0) h
theorem TS8_8 (c : CF) (r3 : A8) : (rk d8 P0 c 170 c8.s9.s2.fst.snd.bd.bd.s2.fst.bd.s2).1 (L8 (S8_4 c r3) 8 10 13 14 17 89 90 91) [(3,(L8 (S8_4 c r3) 8 10 13 14 17 89 90 91)),(2,(L5 (S8_2 c) 8 10 13 14 17))] k8 gK = L9 (S8_8 c r3) 8 10 13 14 17 22 89 90 91 := Eq.trans (seq_t (by kernel_rfl) (TS8_7 c r3) rfl) (by funext s h; kernel_rfl)
noncomputable def S8_9 (c : CF) (r3 : A8) (t8 t10 t13 t14 t17 t21 t89 t90 t91 : AV) (h : Heap) : Res := opt (nilCheckX t10) fun t96 => opt (fieldAddrX 0 t96) fun t97 => opt (loadX none t97 h) fun t98 => opt (lookupX .str pL t98 t21 false h) fun t100 => S8_8 c r3 t8 t10 t13 t14 t17 t100 t89 t90 t91 h
theorem TS8_9 (c : CF) (r3 : A8) : (rk d8 P0 c 170 c8.s9.s2.fst.snd.bd.bd.s2.fst.bd.snd).1 (L8 (S8_4 c r3) 8 10 13 14 17 89 90 91) [(3,(L8 (S8_4 c r3) 8 10 13 14 17 89 90 91)),(2,(L5 (S8_2 c) 8 10 13 14 17))] k8 gK = L9 (S8_9 c r3) 8 10 13 14 17 21 89 90 91 := Eq.trans (seq_t (by kernel_rfl) (TS8_8 c r3) rfl) (by funext s h; kernel_rfl)
noncomputable def S8_10 (c : CF) (r3 : A8) (t8 t10 t13 t14 t17 t89 t90 t91 : AV) (h : Heap) : Res := opt (indexAddrS 1 t89 t91 h) fun t93 => opt (loadX none t93 h) fun t94 => S8_9 c r3 t8 t10 t13 t14 t17 t94 t89 t90 t91 h
theorem TS8_10 (c : CF) (r3 : A8) : (rk d8 P0 c 170 c8.s9.s2.fst.snd.bd.bd.s2).1 (L8 r3 8 10 13 14 17 89 90 91) [(2,(L5 (S8_2 c) 8 10 13 14 17))] k8 gK = L8 (S8_10 c r3) 8 10 13 14 17 89 90 91 := Eq.trans (seq_t (by kernel_rfl) (TS8_4 c r3) (block_t (id := 3) (by kernel_rfl) (seq_t (by kernel_rfl) (TS8_9 c r3) rfl))) (by funext s h; kernel_rfl)
noncomputable def S8_11 (c : CF) (r3 : A8) (t8 t10 t13 t14 t17 t89 t90 t91 t92 : AV) (h : Heap) : Res := test t92 (S8_10 c r3 t8 t10 t13 t14 t17 t89 t90 t91 h) (S8_2 c t8 t10 t13 t14 t17 h)
theorem TS8_11 (c : CF) (r3 : A8) : (rk d8 P0 c 170 c8.s9.s2.fst.snd.bd.bd.snd).1 (L8 r3 8 10 13 14 17 89 90 91) [(2,(L5 (S8_2 c) 8 10 13 14 17))] k8 gK = L9 (S8_11 c r3) 8 10 13 14 17 89 90 91 92 := Eq.trans (seq_t (by kernel_rfl) (TS8_10 c r3) rfl) (by funext s h; kernel_rfl)
noncomputable def S8_12b (c : CF) (r3 : A8) (t8 t10 t13 t14 t17 t89 t90 t91 : AV) (h : Heap) : Res := opt (fastBin .lss t91 t90) fun t92 => S8_11 c r3 t8 t10 t13 t14 t17 t89 t90 t91 t92 h
theorem TS8_12b (c : CF) (r3 : A8) : (rk d8 P0 c 170 c8.s9.s2.fst.snd.bd.bd).1 (L8 r3 8 10 13 14 17 89 90 91) [(2,(L5 (S8_2 c) 8 10 13 14 17))] k8 gK = L8 (S8_12b c r3) 8 10 13 14 17 89 90 91 := Eq.trans (seq_t (by kernel_rfl) (TS8_11 c r3) rfl) (by funext s h; kernel_rfl)
noncomputable def S8_3l (c : CF) : Nat → A8
  | 0 => fun _ _ _ _ _ _ _ _ _ => none
  | k + 1 => S8_12b c (S8_3l c k)
theorem TS8_3l (c : CF) : (rk d8 P0 c 170 c8.s9.s2.fst.snd.bd).1 (L5 (S8_2 c) 8 10 13 14 17) [(2,(L5 (S8_2 c) 8 10 13 14 17))] k8 gK = L8 (S8_3l c rounds) 8 10 13 14 17 89 90 91 := loop_t (by kernel_rfl) (loop_ind (A := fun m => L8 (S8_3l c m) 8 10 13 14 17 89 90 91) rfl (fun m => TS8_12b c (S8_3l c m)) rounds)
noncomputable def S8_13 (c : CF) (t8 t10 t13 t14 t17 t89 t90 t91 : AV) (h : Heap) : Res := S8_3l c rounds t8 t10 t13 t14 t17 t89 t90 t91 h
theorem TS8_13 (c : CF) : (rk d8 P0 c 170 c8.s9.s2.fst.snd).1 (L5 (S8_2 c) 8 10 13 14 17) [] k8 gK = L8 (S8_13 c) 8 10 13 14 17 89 90 91 := Eq.trans (block_t (id := 2) (by kernel_rfl) (TS8_3l c)) (by funext s h; kernel_rfl)
noncomputable def S8_14 (c : CF) (t8 t10 t11 t13 t14 t17 : AV) (h : Heap) : Res := opt (lenS t11) fun t90 => S8_13 c t8 t10 t13 t14 t17 t11 t90 (iL 0) h
theorem TS8_14 (c : CF) : (rk d8 P0 c 170 c8.s9.s2).1 k8 [] k8 gK = L6 (S8_14 c) 8 10 11 13 14 17 := Eq.trans (seq_t (by kernel_rfl) (TS8_2 c) (seq_t (by kernel_rfl) (TS8_13 c) rfl)) (by funext s h; kernel_rfl)
noncomputable def S8_16b (c : CF) (r15 : A11) (t8 t10 t11 t13 t14 t15 t16 t17 t67 t68 t69 : AV) (h : Heap) : Res := opt (fastBin .lss t69 t68) fun t70 => test t70 (opt (indexAddrS 5 t67 t69 h) fun t72 => opt (loadX (some 5) t72 h) fun t73 => opt2 (box (.agg [(iL 0),(iL 0),cL,nL,nL]) h) fun t19 h1 => optH (storeX 5 t19 t73 h1) fun h2 => opt (indexAddrS 1 t15 t69 h2) fun t77 => eqH h2 h2 (opt (loadX none t77 h2) fun t78 => eqH h2 h2 (opt (loadX (some 5) t19 h2) fun t79 => eqH h2 h2 (opt2 (c 26 [t16,t78,t79] h2) fun t80 h3 => eqH h3 h2 (opt (notX t80) fun t81 => test t81 (opt (buildX [(iL 0),(iL 0),(iL 0),cL,nL,nL] [(0,1),(1,5)] [(0,(iL 1))]) fun t82 => optH (storeX 6 t8 t82 h2) fun h4 => opt (loadX (some 6) t8 h4) fun res => some ((.tup [res,(iL 0)]),h4)) (opt (loadX (some 5) t19 h2) fun t84 => opt2 (c 27 [t84] h2) fun t85 h5 => opt2 (bsliceX 6 (.agg [(iL 0),(iL 0),cL,nL,nL,(.lit .nilFunc)]) 1 [(0,t85)] h5) fun t86 h6 => opt2 (appendX 6 88 t17 t86 h6) fun t87 h7 => opt (fastBin .add t69 (iL 1)) fun t88 => r15 t8 t10 t11 t13 t14 t15 t16 t87 t67 t68 t88 h7)))))) (S8_14 c t8 t10 t11 t13 t14 t17 h)
theorem TS8_16b (c : CF) (r15 : A11) : (rk d8 P0 c 170 c8.s9.snd.fst.snd.bd.bd).1 (L11 r15 8 10 11 13 14 15 16 17 67 68 69) [(0,(L6 (S8_14 c) 8 10 11 13 14 17))] k8 gK = L11 (S8_16b c r15) 8 10 11 13 14 15 16 17 67 68 69 := by funext s h; kernel_rfl
noncomputable def S8_15l (c : CF) : Nat → A11
  | 0 => fun _ _ _ _ _ _ _ _ _ _ _ _ => none
  | k + 1 => S8_16b c (S8_15l c k)
theorem TS8_15l (c : CF) : (rk d8 P0 c 170 c8.s9.snd.fst.snd.bd).1 (L6 (S8_14 c) 8 10 11 13 14 17) [(0,(L6 (S8_14 c) 8 10 11 13 14 17))] k8 gK = L11 (S8_15l c rounds) 8 10 11 13 14 15 16 17 67 68 69 := loop_t (by kernel_rfl) (loop_ind (A := fun m => L11 (S8_15l c m) 8 10 11 13 14 15 16 17 67 68 69) rfl (fun m => TS8_16b c (S8_15l c m)) rounds)
noncomputable def S8_17 (c : CF) (t8 t10 t11 t13 t14 t15 t16 t17 t67 t68 t69 : AV) (h : Heap) : Res := S8_15l c rounds t8 t10 t11 t13 t14 t15 t16 t17 t67 t68 t69 h
theorem TS8_17 (c : CF) : (rk d8 P0 c 170 c8.s9.snd.fst.snd).1 (L6 (S8_14 c) 8 10 11 13 14 17) [] k8 gK = L11 (S8_17 c) 8 10 11 13 14 15 16 17 67 68 69 := Eq.trans (block_t (id := 0) (by kernel_rfl) (TS8_15l c)) (by funext s h; kernel_rfl)
noncomputable def S8_18 (c : CF) (t2 t8 t10 t11 t13 t14 t15 t16 t17 : AV) (h : Heap) : Res := opt (lenS t2) fun t68 => S8_17 c t8 t10 t11 t13 t14 t15 t16 t17 t2 t68 (iL 0) h
theorem TS8_18 (c : CF) : (rk d8 P0 c 170 c8.s9.snd).1 k8 [] k8 gK = L9 (S8_18 c) 2 8 10 11 13 14 15 16 17 := Eq.trans (seq_t (by kernel_rfl) (TS8_14 c) (seq_t (by kernel_rfl) (TS8_17 c) rfl)) (by funext s h; kernel_rfl)
noncomputable def S8_19 (c : CF) (t2 t8 t10 t11 t13 t14 t15 t16 : AV) (h : Heap) : Res := S8_18 c t2 t8 t10 t11 t13 t14 t15 t16 nL h
theorem TS8_19 (c : CF) : (rk d8 P0 c 170 c8.s9).1 k8 [] k8 gK = L8 (S8_19 c) 2 8 10 11 13 14 15 16 := Eq.trans (seq_t (by kernel_rfl) (TS8_18 c) rfl) (by funext s h; kernel_rfl)
noncomputable def S8_20 (c : CF) (t2 t8 t10 t11 t13 t14 t15 t16 : AV) (h : Heap) : Res := opt (lenS t15) fun t62 => opt (lenS t2) fun t64 => opt (fastBin .neq t62 t64) fun t65 => test t65 (opt (buildX [(iL 0),(iL 0),(iL 0),cL,nL,nL] [(0,1),(1,5)] [(0,(iL 1))]) fun t66 => optH (storeX 6 t8 t66 h) fun h1 => opt (loadX (some 6) t8 h1) fun res => some ((.tup [res,(iL 0)]),h1)) (S8_19 c t2 t8 t10 t11 t13 t14 t15 t16 h)
theorem TS8_20 (c : CF) : (rk d8 P0 c 170 c8.s8).1 k8 [] k8 gK = L8 (S8_20 c) 2 8 10 11 13 14 15 16 := Eq.trans (seq_t (by kernel_rfl) (TS8_19 c) rfl) (by funext s h; kernel_rfl)
noncomputable def S8_21 (c : CF) (t0 t2 t8 t10 t11 t13 t14 t15 : AV) (h : Heap) : Res := opt2 (c 25 [t0] h) fun t60 h1 => S8_20 c t2 t8 t10 t11 t13 t14 t15 t60 h1
theorem TS8_21 (c : CF) : (rk d8 P0 c 170 c8.s7).1 k8 [] k8 gK = L8 (S8_21 c) 0 2 8 10 11 13 14 15 := Eq.trans (seq_t (by kernel_rfl) (TS8_20 c) rfl) (by funext s h; kernel_rfl)
noncomputable def S8_22 (c : CF) (t0 t2 t8 t10 t11 t12 t13 t14 t15 : AV) (h : Heap) : Res := opt (notX t12) fun t57 => test t57 (opt (buildX [(iL 0),(iL 0),(iL 0),cL,nL,nL] [(0,1),(1,5)] [(0,(iL 16))]) fun t58 => optH (storeX 6 t8 t58 h) fun h1 => opt (loadX (some 6) t8 h1) fun res => some ((.tup [res,(iL 0)]),h1)) (S8_21 c t0 t2 t8 t10 t11 t13 t14 t15 h)
theorem TS8_22 (c : CF) : (rk d8 P0 c 170 c8.s6).1 k8 [] k8 gK = L9 (S8_22 c) 0 2 8 10 11 12 13 14 15 := Eq.trans (seq_t (by kernel_rfl) (TS8_21 c) rfl) (by funext s h; kernel_rfl)
noncomputable def S8_23 (c : CF) (t0 t1 t2 t8 t10 t11 : AV) (h : Heap) : Res := opt2 (c 24 [t10,t1] h) fun t51 h1 => opt (extractX t51 0) fun t52 => opt (extractX t51 1) fun t53 => opt (extractX t51 2) fun t54 => opt (extractX t51 3) fun t55 => S8_22 c t0 t2 t8 t10 t11 t55 t52 t53 t54 h1
theorem TS8_23 (c : CF) : (rk d8 P0 c 170 c8.s5).1 k8 [] k8 gK = L6 (S8_23 c) 0 1 2 8 10 11 := Eq.trans (seq_t (by kernel_rfl) (TS8_22 c) rfl) (by funext s h; kernel_rfl)
noncomputable def S8_24 (c : CF) (t0 t1 t2 t8 t10 t11 t12 : AV) (h : Heap) : Res := opt (notX t12) fun t46 => test t46 (opt (buildX [(iL 0),(iL 0),(iL 0),cL,nL,nL] [(0,1),(1,5)] [(0,(iL 30))]) fun t47 => optH (storeX 6 t8 t47 h) fun h1 => opt (loadX (some 6) t8 h1) fun res => some ((.tup [res,(iL 0)]),h1)) (S8_23 c t0 t1 t2 t8 t10 t11 h)
theorem TS8_24 (c : CF) : (rk d8 P0 c 170 c8.s4).1 k8 [] k8 gK = L7 (S8_24 c) 0 1 2 8 10 11 12 := Eq.trans (seq_t (by kernel_rfl) (TS8_23 c) rfl) (by funext s h; kernel_rfl)
noncomputable def S8_25 (c : CF) (t0 t1 t2 t8 t10 : AV) (h : Heap) : Res := opt2 (c 13 [t0] h) fun t42 h1 => opt (extractX t42 0) fun t43 => opt (extractX t42 1) fun t44 => S8_24 c t0 t1 t2 t8 t10 t43 t44 h1
theorem TS8_25 (c : CF) : (rk d8 P0 c 170 c8.s3).1 k8 [] k8 gK = L5 (S8_25 c) 0 1 2 8 10 := Eq.trans (seq_t (by kernel_rfl) (TS8_24 c) rfl) (by funext s h; kernel_rfl)
noncomputable def S8_26 (c : CF) (t0 t1 t2 t8 t10 : AV) (h : Heap) : Res := opt2 (c 23 [t10,t0] h) fun t37 h1 => opt (notX t37) fun t38 => test t38 (none) (S8_25 c t0 t1 t2 t8 t10 h1)
theorem TS8_26 (c : CF) : (rk d8 P0 c 170 c8.s2).1 k8 [] k8 gK = L5 (S8_26 c) 0 1 2 8 10 := Eq.trans (seq_t (by kernel_rfl) (TS8_25 c) rfl) (by funext s h; kernel_rfl)
noncomputable def S8_27 (c : CF) (t0 t1 t2 t3 t8 : AV) (h : Heap) : Res := opt2 (mkmapX h) fun t29 h1 => opt (litBi P0 .max [3,3] 3 [false,true] [t3,(iL 0)]) fun t31 => opt (litBi P0 .min [3,3] 3 [false,true] [t31,(iL 4194304)]) fun t32 => opt (buildX [(.lit (.map none)),(iL 0),(iL 0),(iL 0),(iL 0)] [(0,1),(1,1),(2,1),(3,1),(4,1)] [(0,t29),(1,t32)]) fun t33 => opt2 (box t33 h1) fun t34 h2 => S8_26 c t0 t1 t2 t8 t34 h2
theorem TS8_27 (c : CF) : (rk d8 P0 c 170 c8.snd).1 k8 [] k8 gK = L5 (S8_27 c) 0 1 2 3 8 := Eq.trans (seq_t (by kernel_rfl) (TS8_26 c) rfl) (by funext s h; kernel_rfl)
noncomputable def F8 (c : CF) (a0 a1 a2 a3 : AV) (h : Heap) : Res := opt2 (box (.agg [(iL 0),(iL 0),(iL 0),cL,nL,nL]) h) fun t8 h1 => S8_27 c a0 a1 a2 a3 t8 h1
theorem TF8 (c : CF) (a0 a1 a2 a3 : AV) (h : Heap) : (rk d8 P0 c 170 c8).1 k8 [] k8 gK (argsTr gl 0 [a0,a1,a2,a3]) h = F8 c a0 a1 a2 a3 h := Eq.trans (congrFun (congrFun (seq_t (by kernel_rfl) (TS8_27 c) rfl) _) _) (by kernel_rfl)
noncomputable def N8 : FnF := n4 F8
theorem N8_ok : FnOk P0 gl 8 N8 := n4_ok namesOk mixedOrders lowOk Tryz.func8 (by kernel_rfl) (by kernel_rfl) (by kernel_rfl) TF8
noncomputable def c9 : Code := codeOf Tryz.f9
noncomputable def k9 : Kt := finK P0 Tryz.f9.results.toList
def d9 : List Nat := []
noncomputable def S9_0 (c : CF) (t3 : AV) (h : Heap) : Res := some (t3,h)
theorem TS9_0 (c : CF) : (rk d9 P0 c 30 c9.s3).1 k9 [] k9 gK = L1 (S9_0 c) 3 := by funext s h; kernel_rfl
noncomputable def S9_2 (c : CF) (r1 : A3) (t0 t3 t4 : AV) (h : Heap) : Res := opt (fastBin .add t4 (iL 1)) fun t13 => r1 t0 t3 t13 h
theorem TS9_2 (c : CF) (r1 : A3) : (rk d9 P0 c 30 c9.s2.fst.snd.bd.bd.s2).1 (L3 r1 0 3 4) [(0,(L1 (S9_0 c) 3))] k9 gK = L3 (S9_2 c r1) 0 3 4 := by funext s h; kernel_rfl
noncomputable def S9_3 (c : CF) (r1 : A3) (t0 t3 t4 : AV) (h : Heap) : Res := opt (indexAddrS 1 t0 t4 h) fun t17 => opt (loadX none t17 h) fun t18 => opt2 (c 31 [t18] h) fun t19 h1 => opt (extractX t19 0) fun t20 => opt (extractX t19 1) fun t21 => opt (extractX t19 2) fun t22 => opt2 (box (.agg [eL,nL,nL,nL,nL,nL]) h1) fun t5 h2 => optH (storeX 6 t5 t20 h2) fun h3 => opt (fastBin .eql t21 (iL 0)) fun t24 => test t24 (opt (loadX (some 6) t5 h3) fun t26 => opt2 (bsliceX 6 (.agg [eL,nL,nL,nL,nL,nL]) 1 [(0,t26)] h3) fun t27 h4 => opt2 (appendX 6 136 t3 t27 h4) fun t28 h5 => S9_2 c r1 t0 t28 t4 h5) (S9_2 c r1 t0 t3 t4 h3)
theorem TS9_3 (c : CF) (r1 : A3) : (rk d9 P0 c 30 c9.s2.fst.snd.bd.bd.snd).1 (L3 r1 0 3 4) [(0,(L1 (S9_0 c) 3))] k9 gK = L3 (S9_3 c r1) 0 3 4 := Eq.trans (seq_t (by kernel_rfl) (TS9_2 c r1) rfl) (by funext s h; kernel_rfl)
noncomputable def S9_4b (c : CF) (r1 : A3) (t0 t3 t4 : AV) (h : Heap) : Res := opt (lenS t0) fun t10 => opt (fastBin .lss t4 t10) fun t11 => test t11 (S9_3 c r1 t0 t3 t4 h) (S9_0 c t3 h)
theorem TS9_4b (c : CF) (r1 : A3) : (rk d9 P0 c 30 c9.s2.fst.snd.bd.bd).1 (L3 r1 0 3 4) [(0,(L1 (S9_0 c) 3))] k9 gK = L3 (S9_4b c r1) 0 3 4 := Eq.trans (seq_t (by kernel_rfl) (TS9_3 c r1) rfl) (by funext s h; kernel_rfl)
noncomputable def S9_1l (c : CF) : Nat → A3
  | 0 => fun _ _ _ _ => none
  | k + 1 => S9_4b c (S9_1l c k)
theorem TS9_1l (c : CF) : (rk d9 P0 c 30 c9.s2.fst.snd.bd).1 (L1 (S9_0 c) 3) [(0,(L1 (S9_0 c) 3))] k9 gK = L3 (S9_1l c rounds) 0 3 4 := loop_t (by kernel_rfl) (loop_ind (A := fun m => L3 (S9_1l c m) 0 3 4) rfl (fun m => TS9_4b c (S9_1l c m)) rounds)
noncomputable def S9_5 (c : CF) (t0 t3 t4 : AV) (h : Heap) : Res := S9_1l c rounds t0 t3 t4 h
theorem TS9_5 (c : CF) : (rk d9 P0 c 30 c9.s2.fst.snd).1 (L1 (S9_0 c) 3) [] k9 gK = L3 (S9_5 c) 0 3 4 := Eq.trans (block_t (id := 0) (by kernel_rfl) (TS9_1l c)) (by funext s h; kernel_rfl)
noncomputable def S9_6 (c : CF) (t0 t3 : AV) (h : Heap) : Res := S9_5 c t0 t3 (iL 0) h
theorem TS9_6 (c : CF) : (rk d9 P0 c 30 c9.s2).1 k9 [] k9 gK = L2 (S9_6 c) 0 3 := Eq.trans (seq_t (by kernel_rfl) (TS9_0 c) (seq_t (by kernel_rfl) (TS9_5 c) rfl)) (by funext s h; kernel_rfl)
noncomputable def S9_7 (c : CF) (t0 : AV) (h : Heap) : Res := S9_6 c t0 nL h
theorem TS9_7 (c : CF) : (rk d9 P0 c 30 c9.snd).1 k9 [] k9 gK = L1 (S9_7 c) 0 := Eq.trans (seq_t (by kernel_rfl) (TS9_6 c) rfl) (by funext s h; kernel_rfl)
noncomputable def F9 (c : CF) (a0 : AV) (h : Heap) : Res := S9_7 c a0 h
theorem TF9 (c : CF) (a0 : AV) (h : Heap) : (rk d9 P0 c 30 c9).1 k9 [] k9 gK (argsTr gl 0 [a0]) h = F9 c a0 h := Eq.trans (congrFun (congrFun (seq_t (by kernel_rfl) (TS9_7 c) rfl) _) _) (by kernel_rfl)
noncomputable def N9 : FnF := n1 F9
theorem N9_ok : FnOk P0 gl 9 N9 := n1_ok namesOk mixedOrders lowOk Tryz.func9 (by kernel_rfl) (by kernel_rfl) (by kernel_rfl) TF9
noncomputable def c10 : Code := codeOf Tryz.f10
noncomputable def k10 : Kt := finK P0 Tryz.f10.results.toList
def d10 : List Nat := []
noncomputable def F10 (c : CF) (a0 a1 : AV) (h : Heap) : Res := opt2 (box (.agg [(iL 0),(iL 0),(iL 0),cL,nL,nL]) h) fun t4 h1 => opt (fastBin .add (sL [40,109,111,100,117,108,101,32,109,32,40,101,120,112,111,114,116,32,102,41,32]) a0) fun t9 => opt (fastBin .add t9 (sL [41])) fun t10 => opt2 (bsliceX 1 eL 1 [(0,t10)] h1) fun t11 h2 => opt2 (c 9 [t11] h2) fun t12 h3 => opt2 (c 8 [t12,(sL [109,46,102]),a1,(iL 5000)] h3) fun t14 h4 => opt (extractX t14 0) fun t15 => opt (extractX t14 1) fun t16 => opt2 (box (.agg [(iL 0),(iL 0),(iL 0),cL,nL,nL]) h4) fun t5 h5 => optH (storeX 6 t5 t15 h5) fun h6 => opt (loadX (some 6) t5 h6) fun t17 => optH (storeX 6 t4 t17 h6) fun h7 => opt (loadX (some 6) t4 h7) fun res => some (res,h7)
theorem TF10 (c : CF) (a0 a1 : AV) (h : Heap) : (rk d10 P0 c 18 c10).1 k10 [] k10 gK (argsTr gl 0 [a0,a1]) h = F10 c a0 a1 h := by kernel_rfl
noncomputable def N10 : FnF := n2 F10
theorem N10_ok : FnOk P0 gl 10 N10 := n2_ok namesOk mixedOrders lowOk Tryz.func10 (by kernel_rfl) (by kernel_rfl) (by kernel_rfl) TF10
noncomputable def c11 : Code := codeOf Tryz.f11
noncomputable def k11 : Kt := finK P0 Tryz.f11.results.toList
def d11 : List Nat := []
noncomputable def F11 (c : CF) (a0 : AV) (h : Heap) : Res := opt2 (box (.agg [(iL 0),(iL 0),cL,nL,nL]) h) fun t2 h1 => opt (s2bX a0) fun t4 => opt (buildX [(iL 0),(iL 0),cL,nL,nL] [(0,1),(1,1),(2,1),(3,1),(4,1)] [(0,(iL 2)),(3,t4)]) fun t5 => optH (storeX 5 t2 t5 h1) fun h2 => opt (loadX (some 5) t2 h2) fun res => some (res,h2)
theorem TF11 (c : CF) (a0 : AV) (h : Heap) : (rk d11 P0 c 6 c11).1 k11 [] k11 gK (argsTr gl 0 [a0]) h = F11 c a0 h := by kernel_rfl
noncomputable def N11 : FnF := n1 F11
theorem N11_ok : FnOk P0 gl 11 N11 := n1_ok namesOk mixedOrders lowOk Tryz.func11 (by kernel_rfl) (by kernel_rfl) (by kernel_rfl) TF11
noncomputable def c12 : Code := codeOf Tryz.f12
noncomputable def k12 : Kt := finK P0 Tryz.f12.results.toList
def d12 : List Nat := []
noncomputable def F12 (c : CF) (a0 a1 : AV) (h : Heap) : Res := opt2 (box (.agg [(iL 0),(iL 0),cL,nL,nL]) h) fun t4 h1 => opt (convX P0 3 99 a0 h1) fun t6 => opt (convX P0 3 99 a1 h1) fun t8 => opt (litBi P0 .complex [99,99] 23 [false,false] [t6,t8]) fun t9 => opt (buildX [(iL 0),(iL 0),cL,nL,nL] [(0,1),(1,1),(2,1),(3,1),(4,1)] [(0,(iL 1)),(2,t9)]) fun t10 => optH (storeX 5 t4 t10 h1) fun h2 => opt (loadX (some 5) t4 h2) fun res => some (res,h2)
theorem TF12 (c : CF) (a0 a1 : AV) (h : Heap) : (rk d12 P0 c 11 c12).1 k12 [] k12 gK (argsTr gl 0 [a0,a1]) h = F12 c a0 a1 h := by kernel_rfl
noncomputable def N12 : FnF := n2 F12
theorem N12_ok : FnOk P0 gl 12 N12 := n2_ok namesOk mixedOrders lowOk Tryz.func12 (by kernel_rfl) (by kernel_rfl) (by kernel_rfl) TF12
noncomputable def c13 : Code := codeOf Tryz.f13
noncomputable def k13 : Kt := finK P0 Tryz.f13.results.toList
def d13 : List Nat := []
noncomputable def S13_0 (c : CF) (t12 : AV) (h : Heap) : Res := some ((.tup [t12,tL]),h)
theorem TS13_0 (c : CF) : (rk d13 P0 c 81 c13.s7).1 k13 [] k13 gK = L1 (S13_0 c) 12 := by funext s h; kernel_rfl
noncomputable def S13_2b (c : CF) (r1 : A3) (t4 t5 t12 : AV) (h : Heap) : Res := opt (loadX none t5 h) fun t60 => opt (lenS t60) fun t61 => opt (fastBin .gtr t61 (iL 0)) fun t62 => test t62 (opt (loadX none t5 h) fun t63 => opt2 (c 33 [t63,(.fn (.func 34) [] [t4,t5])] h) fun t65 h1 => opt (fastBin .lss t65 (iL 0)) fun t67 => test t67 (some ((.tup [nL,fL]),h1)) (opt (loadX none t5 h1) fun t69 => opt (indexAddrS 1 t69 t65 h1) fun t71 => opt (loadX none t71 h1) fun t72 => opt2 (bsliceX 1 eL 1 [(0,t72)] h1) fun t73 h2 => opt2 (appendX 1 16 t12 t73 h2) fun t74 h3 => opt (loadX none t5 h3) fun t75 => opt (fastBin .add t65 (iL 1)) fun t78 => opt2 (c 38 [t75,t65,t78] h3) fun t79 h4 => optH (storeX 1 t5 t79 h4) fun h5 => r1 t4 t5 t74 h5)) (S13_0 c t12 h)
theorem TS13_2b (c : CF) (r1 : A3) : (rk d13 P0 c 81 c13.s6.fst.bd.bd).1 (L3 r1 4 5 12) [(4,(L1 (S13_0 c) 12))] k13 gK = L3 (S13_2b c r1) 4 5 12 := by funext s h; kernel_rfl
noncomputable def S13_1l (c : CF) : Nat → A3
  | 0 => fun _ _ _ _ => none
  | k + 1 => S13_2b c (S13_1l c k)
theorem TS13_1l (c : CF) : (rk d13 P0 c 81 c13.s6.fst.bd).1 (L1 (S13_0 c) 12) [(4,(L1 (S13_0 c) 12))] k13 gK = L3 (S13_1l c rounds) 4 5 12 := loop_t (by kernel_rfl) (loop_ind (A := fun m => L3 (S13_1l c m) 4 5 12) rfl (fun m => TS13_2b c (S13_1l c m)) rounds)
noncomputable def S13_3 (c : CF) (t4 t5 t12 : AV) (h : Heap) : Res := S13_1l c rounds t4 t5 t12 h
theorem TS13_3 (c : CF) : (rk d13 P0 c 81 c13.s6).1 k13 [] k13 gK = L3 (S13_3 c) 4 5 12 := Eq.trans (seq_t (by kernel_rfl) (TS13_0 c) (block_t (id := 4) (by kernel_rfl) (TS13_1l c))) (by funext s h; kernel_rfl)
noncomputable def S13_4 (c : CF) (t4 t5 : AV) (h : Heap) : Res := S13_3 c t4 t5 nL h
theorem TS13_4 (c : CF) : (rk d13 P0 c 81 c13.s5).1 k13 [] k13 gK = L2 (S13_4 c) 4 5 := Eq.trans (seq_t (by kernel_rfl) (TS13_3 c) rfl) (by funext s h; kernel_rfl)
noncomputable def S13_5 (c : CF) (t4 t5 : AV) (h : Heap) : Res := opt (loadX none t5 h) fun t58 => opt2 (c 32 [t58] h) fun t59 h1 => S13_4 c t4 t5 h1
theorem TS13_5 (c : CF) : (rk d13 P0 c 81 c13.s4).1 k13 [] k13 gK = L2 (S13_5 c) 4 5 := Eq.trans (seq_t (by kernel_rfl) (TS13_4 c) rfl) (by funext s h; kernel_rfl)
noncomputable def S13_7 (c : CF) (r6 : A5) (t4 t5 t15 t16 t17 : AV) (h : Heap) : Res := opt (fastBin .add t17 (iL 1)) fun t57 => r6 t4 t5 t15 t16 t57 h
theorem TS13_7 (c : CF) (r6 : A5) : (rk d13 P0 c 81 c13.s3.fst.snd.bd.bd.s3).1 (L5 r6 4 5 15 16 17) [(0,(L2 (S13_5 c) 4 5))] k13 gK = L5 (S13_7 c r6) 4 5 15 16 17 := by funext s h; kernel_rfl
noncomputable def S13_9b (c : CF) (r6 : A5) (r8 : A9) (t4 t5 t7 t15 t16 t17 t39 t40 t41 : AV) (h : Heap) : Res := opt (fastBin .lss t41 t40) fun t42 => test t42 (opt (indexAddrS 2 t39 t41 h) fun t43 => opt (loadX (some 2) t43 h) fun t44 => opt2 (box (.agg [eL,eL]) h) fun t11 h1 => optH (storeX 2 t11 t44 h1) fun h2 => opt (loadX none t4 h2) fun t45 => eqH h2 h2 (opt (fieldAddrX 0 t7) fun t46 => opt (loadX none t46 h2) fun t47 => eqH h2 h2 (opt (loadX none t4 h2) fun t48 => eqH h2 h2 (opt (fieldAddrX 0 t7) fun t49 => opt (loadX none t49 h2) fun t50 => eqH h2 h2 (opt (lookupX .str nL t48 t50 false h2) fun t51 => eqH h2 h2 (opt (fieldAddrX 0 t11) fun t52 => opt (loadX none t52 h2) fun t53 => eqH h2 h2 (opt2 (bsliceX 1 eL 1 [(0,t53)] h2) fun t54 h3 => eqH h3 h2 (opt2 (appendX 1 16 t51 t54 h2) fun t55 h4 => opt (loadX none t46 h4) fun t47_1 => eqK t47_1 t47 (eqH h4 h4 (opt (loadX none t4 h4) fun t45_1 => eqK t45_1 t45 (eqH h4 h4 (optH (mapSetX .str t45 t47 t55 h4) fun h5 => opt (fastBin .add t41 (iL 1)) fun t56 => r8 t4 t5 t7 t15 t16 t17 t39 t40 t56 h5)))))))))))) (S13_7 c r6 t4 t5 t15 t16 t17 h)
theorem TS13_9b (c : CF) (r6 : A5) (r8 : A9) : (rk d13 P0 c 81 c13.s3.fst.snd.bd.bd.s2.fst.bd.s5.bd.bd).1 (L9 r8 4 5 7 15 16 17 39 40 41) [(2,(L5 (S13_7 c r6) 4 5 15 16 17)),(1,(L5 (S13_7 c r6) 4 5 15 16 17)),(0,(L2 (S13_5 c) 4 5))] k13 gK = L9 (S13_9b c r6 r8) 4 5 7 15 16 17 39 40 41 := by funext s h; kernel_rfl
noncomputable def S13_8l (c : CF) (r6 : A5) : Nat → A9
  | 0 => fun _ _ _ _ _ _ _ _ _ _ => none
  | k + 1 => S13_9b c r6 (S13_8l c r6 k)
theorem TS13_8l (c : CF) (r6 : A5) : (rk d13 P0 c 81 c13.s3.fst.snd.bd.bd.s2.fst.bd.s5.bd).1 (L5 (S13_7 c r6) 4 5 15 16 17) [(2,(L5 (S13_7 c r6) 4 5 15 16 17)),(1,(L5 (S13_7 c r6) 4 5 15 16 17)),(0,(L2 (S13_5 c) 4 5))] k13 gK = L9 (S13_8l c r6 rounds) 4 5 7 15 16 17 39 40 41 := loop_t (by kernel_rfl) (loop_ind (A := fun m => L9 (S13_8l c r6 m) 4 5 7 15 16 17 39 40 41) rfl (fun m => TS13_9b c r6 (S13_8l c r6 m)) rounds)
noncomputable def S13_10 (c : CF) (r6 : A5) (t4 t5 t7 t15 t16 t17 t39 t40 t41 : AV) (h : Heap) : Res := S13_8l c r6 rounds t4 t5 t7 t15 t16 t17 t39 t40 t41 h
theorem TS13_10 (c : CF) (r6 : A5) : (rk d13 P0 c 81 c13.s3.fst.snd.bd.bd.s2.fst.bd.s5).1 (L5 (S13_7 c r6) 4 5 15 16 17) [(1,(L5 (S13_7 c r6) 4 5 15 16 17)),(0,(L2 (S13_5 c) 4 5))] k13 gK = L9 (S13_10 c r6) 4 5 7 15 16 17 39 40 41 := Eq.trans (block_t (id := 2) (by kernel_rfl) (TS13_8l c r6)) (by funext s h; kernel_rfl)
noncomputable def S13_11 (c : CF) (r6 : A5) (t4 t5 t7 t15 t16 t17 : AV) (h : Heap) : Res := opt (fieldAddrX 1 t7) fun t38 => opt (loadX none t38 h) fun t39 => opt (lenS t39) fun t40 => S13_10 c r6 t4 t5 t7 t15 t16 t17 t39 t40 (iL 0) h
theorem TS13_11 (c : CF) (r6 : A5) : (rk d13 P0 c 81 c13.s3.fst.snd.bd.bd.s2.fst.bd.s4).1 (L5 (S13_7 c r6) 4 5 15 16 17) [(1,(L5 (S13_7 c r6) 4 5 15 16 17)),(0,(L2 (S13_5 c) 4 5))] k13 gK = L6 (S13_11 c r6) 4 5 7 15 16 17 := Eq.trans (seq_t (by kernel_rfl) (TS13_10 c r6) rfl) (by funext s h; kernel_rfl)
noncomputable def S13_12 (c : CF) (r6 : A5) (t4 t5 t7 t15 t16 t17 : AV) (h : Heap) : Res := opt (loadX none t4 h) fun t34 => opt (fieldAddrX 0 t7) fun t35 => opt (loadX none t35 h) fun t36 => opt2 (bsliceX 1 eL 0 [] h) fun t37 h1 => optH (mapSetX .str t34 t36 t37 h1) fun h2 => S13_11 c r6 t4 t5 t7 t15 t16 t17 h2
theorem TS13_12 (c : CF) (r6 : A5) : (rk d13 P0 c 81 c13.s3.fst.snd.bd.bd.s2.fst.bd.s3).1 (L5 (S13_7 c r6) 4 5 15 16 17) [(1,(L5 (S13_7 c r6) 4 5 15 16 17)),(0,(L2 (S13_5 c) 4 5))] k13 gK = L6 (S13_12 c r6) 4 5 7 15 16 17 := Eq.trans (seq_t (by kernel_rfl) (TS13_11 c r6) rfl) (by funext s h; kernel_rfl)
noncomputable def S13_13 (c : CF) (r6 : A5) (t4 t5 t7 t15 t16 t17 : AV) (h : Heap) : Res := opt (loadX none t5 h) fun t29 => opt (fieldAddrX 0 t7) fun t30 => opt (loadX none t30 h) fun t31 => opt2 (bsliceX 1 eL 1 [(0,t31)] h) fun t32 h1 => opt2 (appendX 1 16 t29 t32 h1) fun t33 h2 => optH (storeX 1 t5 t33 h2) fun h3 => S13_12 c r6 t4 t5 t7 t15 t16 t17 h3
theorem TS13_13 (c : CF) (r6 : A5) : (rk d13 P0 c 81 c13.s3.fst.snd.bd.bd.s2.fst.bd.s2).1 (L5 (S13_7 c r6) 4 5 15 16 17) [(1,(L5 (S13_7 c r6) 4 5 15 16 17)),(0,(L2 (S13_5 c) 4 5))] k13 gK = L6 (S13_13 c r6) 4 5 7 15 16 17 := Eq.trans (seq_t (by kernel_rfl) (TS13_12 c r6) rfl) (by funext s h; kernel_rfl)
noncomputable def S13_14 (c : CF) (r6 : A5) (t4 t5 t7 t15 t16 t17 : AV) (h : Heap) : Res := opt (loadX none t4 h) fun t22 => opt (fieldAddrX 0 t7) fun t23 => opt (loadX none t23 h) fun t24 => opt (lookupX .str nL t22 t24 true h) fun t25 => opt (extractX t25 0) fun t26 => opt (extractX t25 1) fun t27 => test t27 (S13_7 c r6 t4 t5 t15 t16 t17 h) (S13_13 c r6 t4 t5 t7 t15 t16 t17 h)
theorem TS13_14 (c : CF) (r6 : A5) : (rk d13 P0 c 81 c13.s3.fst.snd.bd.bd.s2.fst.bd.snd).1 (L5 (S13_7 c r6) 4 5 15 16 17) [(1,(L5 (S13_7 c r6) 4 5 15 16 17)),(0,(L2 (S13_5 c) 4 5))] k13 gK = L6 (S13_14 c r6) 4 5 7 15 16 17 := Eq.trans (seq_t (by kernel_rfl) (TS13_13 c r6) rfl) (by funext s h; kernel_rfl)
noncomputable def S13_15 (c : CF) (r6 : A5) (t4 t5 t15 t16 t17 : AV) (h : Heap) : Res := opt (indexAddrS 6 t15 t17 h) fun t19 => opt (loadX (some 6) t19 h) fun t20 => opt2 (box (.agg [eL,nL,nL,nL,nL,nL]) h) fun t7 h1 => optH (storeX 6 t7 t20 h1) fun h2 => S13_14 c r6 t4 t5 t7 t15 t16 t17 h2
theorem TS13_15 (c : CF) (r6 : A5) : (rk d13 P0 c 81 c13.s3.fst.snd.bd.bd.s2).1 (L5 r6 4 5 15 16 17) [(0,(L2 (S13_5 c) 4 5))] k13 gK = L5 (S13_15 c r6) 4 5 15 16 17 := Eq.trans (seq_t (by kernel_rfl) (TS13_7 c r6) (block_t (id := 1) (by kernel_rfl) (seq_t (by kernel_rfl) (TS13_14 c r6) rfl))) (by funext s h; kernel_rfl)
noncomputable def S13_16 (c : CF) (r6 : A5) (t4 t5 t15 t16 t17 t18 : AV) (h : Heap) : Res := test t18 (S13_15 c r6 t4 t5 t15 t16 t17 h) (S13_5 c t4 t5 h)
theorem TS13_16 (c : CF) (r6 : A5) : (rk d13 P0 c 81 c13.s3.fst.snd.bd.bd.snd).1 (L5 r6 4 5 15 16 17) [(0,(L2 (S13_5 c) 4 5))] k13 gK = L6 (S13_16 c r6) 4 5 15 16 17 18 := Eq.trans (seq_t (by kernel_rfl) (TS13_15 c r6) rfl) (by funext s h; kernel_rfl)
noncomputable def S13_17b (c : CF) (r6 : A5) (t4 t5 t15 t16 t17 : AV) (h : Heap) : Res := opt (fastBin .lss t17 t16) fun t18 => S13_16 c r6 t4 t5 t15 t16 t17 t18 h
theorem TS13_17b (c : CF) (r6 : A5) : (rk d13 P0 c 81 c13.s3.fst.snd.bd.bd).1 (L5 r6 4 5 15 16 17) [(0,(L2 (S13_5 c) 4 5))] k13 gK = L5 (S13_17b c r6) 4 5 15 16 17 := Eq.trans (seq_t (by kernel_rfl) (TS13_16 c r6) rfl) (by funext s h; kernel_rfl)
noncomputable def S13_6l (c : CF) : Nat → A5
  | 0 => fun _ _ _ _ _ _ => none
  | k + 1 => S13_17b c (S13_6l c k)
theorem TS13_6l (c : CF) : (rk d13 P0 c 81 c13.s3.fst.snd.bd).1 (L2 (S13_5 c) 4 5) [(0,(L2 (S13_5 c) 4 5))] k13 gK = L5 (S13_6l c rounds) 4 5 15 16 17 := loop_t (by kernel_rfl) (loop_ind (A := fun m => L5 (S13_6l c m) 4 5 15 16 17) rfl (fun m => TS13_17b c (S13_6l c m)) rounds)
noncomputable def S13_18 (c : CF) (t4 t5 t15 t16 t17 : AV) (h : Heap) : Res := S13_6l c rounds t4 t5 t15 t16 t17 h
theorem TS13_18 (c : CF) : (rk d13 P0 c 81 c13.s3.fst.snd).1 (L2 (S13_5 c) 4 5) [] k13 gK = L5 (S13_18 c) 4 5 15 16 17 := Eq.trans (block_t (id := 0) (by kernel_rfl) (TS13_6l c)) (by funext s h; kernel_rfl)
noncomputable def S13_19 (c : CF) (t0 t4 t5 : AV) (h : Heap) : Res := opt (lenS t0) fun t16 => S13_18 c t4 t5 t0 t16 (iL 0) h
theorem TS13_19 (c : CF) : (rk d13 P0 c 81 c13.s3).1 k13 [] k13 gK = L3 (S13_19 c) 0 4 5 := Eq.trans (seq_t (by kernel_rfl) (TS13_5 c) (seq_t (by kernel_rfl) (TS13_18 c) rfl)) (by funext s h; kernel_rfl)
noncomputable def S13_20 (c : CF) (t0 t4 : AV) (h : Heap) : Res := opt2 (box nL h) fun t5 h1 => S13_19 c t0 t4 t5 h1
theorem TS13_20 (c : CF) : (rk d13 P0 c 81 c13.s2).1 k13 [] k13 gK = L2 (S13_20 c) 0 4 := Eq.trans (seq_t (by kernel_rfl) (TS13_19 c) rfl) (by funext s h; kernel_rfl)
noncomputable def S13_21 (c : CF) (t0 : AV) (h : Heap) : Res := opt2 (mkmapX h) fun t14 h1 => opt2 (box (.lit (.map none)) h1) fun t4 h2 => optH (storeX 1 t4 t14 h2) fun h3 => S13_20 c t0 t4 h3
theorem TS13_21 (c : CF) : (rk d13 P0 c 81 c13.snd).1 k13 [] k13 gK = L1 (S13_21 c) 0 := Eq.trans (seq_t (by kernel_rfl) (TS13_20 c) rfl) (by funext s h; kernel_rfl)
noncomputable def F13 (c : CF) (a0 : AV) (h : Heap) : Res := S13_21 c a0 h
theorem TF13 (c : CF) (a0 : AV) (h : Heap) : (rk d13 P0 c 81 c13).1 k13 [] k13 gK (argsTr gl 0 [a0]) h = F13 c a0 h := Eq.trans (congrFun (congrFun (seq_t (by kernel_rfl) (TS13_21 c) rfl) _) _) (by kernel_rfl)
noncomputable def N13 : FnF := n1 F13
theorem N13_ok : FnOk P0 gl 13 N13 := n1_ok namesOk mixedOrders lowOk Tryz.func13 (by kernel_rfl) (by kernel_rfl) (by kernel_rfl) TF13
noncomputable def c14 : Code := codeOf Tryz.f14
noncomputable def k14 : Kt := finK P0 Tryz.f14.results.toList
def d14 : List Nat := [2,7]
noncomputable def S14_0 (c : CF) (h : Heap) : Res := some (tL,h)
theorem TS14_0 (c : CF) : (rk d14 P0 c 62 c14.s3).1 k14 [] k14 gK = L0 (S14_0 c) := by funext s h; kernel_rfl
noncomputable def S14_2b (c : CF) (r1 : A3) (t2 t3 t5 : AV) (h : Heap) : Res := opt (fieldAddrX 4 t2) fun t44 => opt (loadX none t44 h) fun t45 => opt (lenS t45) fun t46 => opt (fastBin .lss t5 t46) fun t47 => test t47 (opt (fieldAddrX 4 t2) fun t50 => opt (loadX none t50 h) fun t51 => eqH h h (opt (indexAddrS 5 t51 t5 h) fun t53 => eqH h h (opt (loadX (some 5) t53 h) fun t54 => eqH h h (opt (fieldAddrX 4 t3) fun t55 => opt (loadX none t55 h) fun t56 => eqH h h (opt (indexAddrS 5 t56 t5 h) fun t58 => eqH h h (opt (loadX (some 5) t58 h) fun t59 => eqH h h (opt2 (c 14 [t54,t59] h) fun t60 h1 => eqH h1 h (opt (notX t60) fun t61 => test t61 (none) (opt (fastBin .add t5 (iL 1)) fun t49 => r1 t2 t3 t49 h))))))))) (S14_0 c h)
theorem TS14_2b (c : CF) (r1 : A3) : (rk d14 P0 c 62 c14.s2.fst.snd.bd.bd).1 (L3 r1 2 3 5) [(0,(L0 (S14_0 c)))] k14 gK = L3 (S14_2b c r1) 2 3 5 := by funext s h; kernel_rfl
noncomputable def S14_1l (c : CF) : Nat → A3
  | 0 => fun _ _ _ _ => none
  | k + 1 => S14_2b c (S14_1l c k)
theorem TS14_1l (c : CF) : (rk d14 P0 c 62 c14.s2.fst.snd.bd).1 (L0 (S14_0 c)) [(0,(L0 (S14_0 c)))] k14 gK = L3 (S14_1l c rounds) 2 3 5 := loop_t (by kernel_rfl) (loop_ind (A := fun m => L3 (S14_1l c m) 2 3 5) rfl (fun m => TS14_2b c (S14_1l c m)) rounds)
noncomputable def S14_3 (c : CF) (t2 t3 t5 : AV) (h : Heap) : Res := S14_1l c rounds t2 t3 t5 h
theorem TS14_3 (c : CF) : (rk d14 P0 c 62 c14.s2.fst.snd).1 (L0 (S14_0 c)) [] k14 gK = L3 (S14_3 c) 2 3 5 := Eq.trans (block_t (id := 0) (by kernel_rfl) (TS14_1l c)) (by funext s h; kernel_rfl)
noncomputable def S14_4 (c : CF) (t2 t3 : AV) (h : Heap) : Res := S14_3 c t2 t3 (iL 0) h
theorem TS14_4 (c : CF) : (rk d14 P0 c 62 c14.s2).1 k14 [] k14 gK = L2 (S14_4 c) 2 3 := Eq.trans (seq_t (by kernel_rfl) (TS14_0 c) (seq_t (by kernel_rfl) (TS14_3 c) rfl)) (by funext s h; kernel_rfl)
noncomputable def S14_5 (c : CF) (t2 t3 : AV) (h : Heap) : Res := opt (fieldAddrX 0 t2) fun t6 => opt (loadX none t6 h) fun t7 => opt (fieldAddrX 0 t3) fun t8 => opt (loadX none t8 h) fun t9 => opt (fastBin .neq t7 t9) fun t10 => test t10 (none) (opt (fieldAddrX 1 t2) fun t12 => opt (loadX none t12 h) fun t13 => opt (fieldAddrX 1 t3) fun t14 => opt (loadX none t14 h) fun t15 => opt (fastBin .neq t13 t15) fun t16 => test t16 (none) (opt (fieldAddrX 2 t2) fun t19 => opt (loadX none t19 h) fun t20 => opt (fieldAddrX 2 t3) fun t21 => opt (loadX none t21 h) fun t22 => opt (binX P0 .none .neq 23 t20 t22) fun t23 => test t23 (none) (opt (fieldAddrX 3 t2) fun t26 => opt (loadX none t26 h) fun t27 => opt (b2sX t27 h) fun t28 => opt (fieldAddrX 3 t3) fun t29 => opt (loadX none t29 h) fun t30 => opt (b2sX t30 h) fun t31 => opt (fastBin .neq t28 t31) fun t32 => test t32 (none) (opt (fieldAddrX 4 t2) fun t35 => opt (loadX none t35 h) fun t36 => opt (lenS t36) fun t37 => opt (fieldAddrX 4 t3) fun t38 => opt (loadX none t38 h) fun t39 => opt (lenS t39) fun t40 => opt (fastBin .neq t37 t40) fun t41 => test t41 (none) (S14_4 c t2 t3 h)))))
theorem TS14_5 (c : CF) : (rk d14 P0 c 62 c14.snd).1 k14 [] k14 gK = L2 (S14_5 c) 2 3 := Eq.trans (seq_t (by kernel_rfl) (TS14_4 c) rfl) (by funext s h; kernel_rfl)
noncomputable def F14 (c : CF) (a0 a1 : AV) (h : Heap) : Res := opt2 (box a0 h) fun t2 h1 => opt2 (box a1 h1) fun t3 h2 => S14_5 c t2 t3 h2
theorem TF14 (c : CF) (a0 a1 : AV) (h : Heap) : (rk d14 P0 c 62 c14).1 k14 [] k14 gK (argsTr gl 0 [a0,a1]) h = F14 c a0 a1 h := Eq.trans (congrFun (congrFun (seq_t (by kernel_rfl) (TS14_5 c) rfl) _) _) (by kernel_rfl)
noncomputable def N14 : FnF := n2 F14
theorem N14_ok : FnOk P0 gl 14 N14 := n2_ok namesOk mixedOrders lowOk Tryz.func14 (by kernel_rfl) (by kernel_rfl) (by kernel_rfl) TF14
noncomputable def c15 : Code := codeOf Tryz.f15
noncomputable def k15 : Kt := finK P0 Tryz.f15.results.toList
def d15 : List Nat := []
noncomputable def F15 (c : CF) (a0 a1 : AV) (h : Heap) : Res := opt2 (box (.agg [(iL 0),(iL 0),cL,nL,nL]) h) fun t4 h1 => opt2 (bsliceX 5 (.agg [(iL 0),(iL 0),cL,nL,nL]) 0 [] h1) fun t6 h2 => opt2 (appendX 5 80 t6 a1 h2) fun t8 h3 => opt (buildX [(iL 0),(iL 0),cL,nL,nL] [(0,1),(1,1),(2,1),(3,1),(4,1)] [(0,(iL 4)),(1,a0),(4,t8)]) fun t9 => optH (storeX 5 t4 t9 h3) fun h4 => opt (loadX (some 5) t4 h4) fun res => some (res,h4)
theorem TF15 (c : CF) (a0 a1 : AV) (h : Heap) : (rk d15 P0 c 10 c15).1 k15 [] k15 gK (argsTr gl 0 [a0,a1]) h = F15 c a0 a1 h := by kernel_rfl
noncomputable def N15 : FnF := n2 F15
theorem N15_ok : FnOk P0 gl 15 N15 := n2_ok namesOk mixedOrders lowOk Tryz.func15 (by kernel_rfl) (by kernel_rfl) (by kernel_rfl) TF15
noncomputable def c16 : Code := codeOf Tryz.f16
noncomputable def k16 : Kt := finK P0 Tryz.f16.results.toList
def d16 : List Nat := [2,7]
noncomputable def S16_0 (c : CF) (h : Heap) : Res := some (tL,h)
theorem TS16_0 (c : CF) : (rk d16 P0 c 26 c16.s3).1 k16 [] k16 gK = L0 (S16_0 c) := by funext s h; kernel_rfl
noncomputable def S16_2b (c : CF) (r1 : A3) (t0 t1 t5 : AV) (h : Heap) : Res := opt (lenS t0) fun t13 => opt (fastBin .lss t5 t13) fun t14 => test t14 (opt (indexAddrS 1 t0 t5 h) fun t19 => eqH h h (opt (loadX none t19 h) fun t20 => eqH h h (opt (indexAddrS 1 t1 t5 h) fun t23 => eqH h h (opt (loadX none t23 h) fun t24 => eqH h h (opt (fastBin .neq t20 t24) fun t25 => test t25 (none) (opt (fastBin .add t5 (iL 1)) fun t16 => r1 t0 t1 t16 h)))))) (S16_0 c h)
theorem TS16_2b (c : CF) (r1 : A3) : (rk d16 P0 c 26 c16.s2.fst.snd.bd.bd).1 (L3 r1 0 1 5) [(0,(L0 (S16_0 c)))] k16 gK = L3 (S16_2b c r1) 0 1 5 := by funext s h; kernel_rfl
noncomputable def S16_1l (c : CF) : Nat → A3
  | 0 => fun _ _ _ _ => none
  | k + 1 => S16_2b c (S16_1l c k)
theorem TS16_1l (c : CF) : (rk d16 P0 c 26 c16.s2.fst.snd.bd).1 (L0 (S16_0 c)) [(0,(L0 (S16_0 c)))] k16 gK = L3 (S16_1l c rounds) 0 1 5 := loop_t (by kernel_rfl) (loop_ind (A := fun m => L3 (S16_1l c m) 0 1 5) rfl (fun m => TS16_2b c (S16_1l c m)) rounds)
noncomputable def S16_3 (c : CF) (t0 t1 t5 : AV) (h : Heap) : Res := S16_1l c rounds t0 t1 t5 h
theorem TS16_3 (c : CF) : (rk d16 P0 c 26 c16.s2.fst.snd).1 (L0 (S16_0 c)) [] k16 gK = L3 (S16_3 c) 0 1 5 := Eq.trans (block_t (id := 0) (by kernel_rfl) (TS16_1l c)) (by funext s h; kernel_rfl)
noncomputable def S16_4 (c : CF) (t0 t1 : AV) (h : Heap) : Res := S16_3 c t0 t1 (iL 0) h
theorem TS16_4 (c : CF) : (rk d16 P0 c 26 c16.s2).1 k16 [] k16 gK = L2 (S16_4 c) 0 1 := Eq.trans (seq_t (by kernel_rfl) (TS16_0 c) (seq_t (by kernel_rfl) (TS16_3 c) rfl)) (by funext s h; kernel_rfl)
noncomputable def S16_5 (c : CF) (t0 t1 : AV) (h : Heap) : Res := opt (lenS t0) fun t7 => opt (lenS t1) fun t9 => opt (fastBin .neq t7 t9) fun t10 => test t10 (none) (S16_4 c t0 t1 h)
theorem TS16_5 (c : CF) : (rk d16 P0 c 26 c16.snd).1 k16 [] k16 gK = L2 (S16_5 c) 0 1 := Eq.trans (seq_t (by kernel_rfl) (TS16_4 c) rfl) (by funext s h; kernel_rfl)
noncomputable def F16 (c : CF) (a0 a1 : AV) (h : Heap) : Res := S16_5 c a0 a1 h
theorem TF16 (c : CF) (a0 a1 : AV) (h : Heap) : (rk d16 P0 c 26 c16).1 k16 [] k16 gK (argsTr gl 0 [a0,a1]) h = F16 c a0 a1 h := Eq.trans (congrFun (congrFun (seq_t (by kernel_rfl) (TS16_5 c) rfl) _) _) (by kernel_rfl)
noncomputable def N16 : FnF := n2 F16
theorem N16_ok : FnOk P0 gl 16 N16 := n2_ok namesOk mixedOrders lowOk Tryz.func16 (by kernel_rfl) (by kernel_rfl) (by kernel_rfl) TF16
noncomputable def c17 : Code := codeOf Tryz.f17
noncomputable def k17 : Kt := finK P0 Tryz.f17.results.toList
def d17 : List Nat := []
noncomputable def F17 (c : CF) (h : Heap) : Res := opt2 (c 12 [(iL 0),(iL 2)] h) fun t1 h1 => opt2 (bsliceX 5 (.agg [(iL 0),(iL 0),cL,nL,nL]) 1 [(0,t1)] h1) fun t2 h2 => opt2 (c 10 [(sL [40,102,117,110,32,102,32,40,40,120,32,110,117,109,41,41,32,110,117,109,32,40,109,117,108,32,120,32,120,41,41]),t2] h2) fun t3 h3 => opt2 (c 12 [(iL (-4)),(iL 0)] h3) fun t4 h4 => opt (buildX [(iL 0),(iL 0),(iL 0),cL,nL,nL] [(0,1),(1,5)] [(1,t4)]) fun t5 => opt2 (c 21 [t3,t5] h4) fun t6 h5 => test t6 (opt2 (c 10 [(sL [40,102,117,110,32,102,32,40,41,32,110,117,109,32,40,97,116,32,34,97,98,34,32,50,41,41]),nL] h5) fun t8 h6 => opt (fieldX none 0 t8) fun t9 => opt (fastBin .eql t9 (iL 45)) fun t10 => some (t10,h6)) (some (fL,h5))
theorem TF17 (c : CF) (h : Heap) : (rk d17 P0 c 12 c17).1 k17 [] k17 gK (argsTr gl 0 []) h = F17 c h := by kernel_rfl
noncomputable def N17 : FnF := n0 F17
theorem N17_ok : FnOk P0 gl 17 N17 := n0_ok namesOk mixedOrders lowOk Tryz.func17 (by kernel_rfl) (by kernel_rfl) (by kernel_rfl) TF17
noncomputable def c21 : Code := codeOf Tryz.f21
noncomputable def k21 : Kt := finK P0 Tryz.f21.results.toList
def d21 : List Nat := []
noncomputable def F21 (c : CF) (a0 a1 : AV) (h : Heap) : Res := opt2 (box a0 h) fun t2 h1 => opt2 (box a1 h1) fun t3 h2 => opt (fieldAddrX 0 t2) fun t5 => opt (loadX none t5 h2) fun t6 => opt (fieldAddrX 0 t3) fun t7 => opt (loadX none t7 h2) fun t8 => opt (fastBin .eql t6 t8) fun t9 => test t9 (opt (fieldAddrX 1 t2) fun t11 => opt (loadX (some 5) t11 h2) fun t12 => opt (fieldAddrX 1 t3) fun t13 => opt (loadX (some 5) t13 h2) fun t14 => opt2 (c 14 [t12,t14] h2) fun t15 h3 => some (t15,h3)) (some (fL,h2))
theorem TF21 (c : CF) (a0 a1 : AV) (h : Heap) : (rk d21 P0 c 17 c21).1 k21 [] k21 gK (argsTr gl 0 [a0,a1]) h = F21 c a0 a1 h := by kernel_rfl
noncomputable def N21 : FnF := n2 F21
theorem N21_ok : FnOk P0 gl 21 N21 := n2_ok namesOk mixedOrders lowOk Tryz.func21 (by kernel_rfl) (by kernel_rfl) (by kernel_rfl) TF21
noncomputable def c23 : Code := codeOf Tryz.f23
noncomputable def k23 : Kt := finK P0 Tryz.f23.results.toList
def d23 : List Nat := [6,16]
noncomputable def S23_0 (c : CF) (h : Heap) : Res := some (tL,h)
theorem TS23_0 (c : CF) : (rk d23 P0 c 82 c23.s4).1 k23 [] k23 gK = L0 (S23_0 c) := by funext s h; kernel_rfl
noncomputable def S23_2b (c : CF) (r1 : A5) (t0 t5 t41 t42 t43 : AV) (h : Heap) : Res := opt (fastBin .lss t43 t42) fun t44 => test t44 (opt (indexAddrS 6 t41 t43 h) fun t46 => opt (loadX (some 6) t46 h) fun t47 => opt2 (box (.agg [eL,nL,nL,nL,nL,nL]) h) fun t11 h1 => optH (storeX 6 t11 t47 h1) fun h2 => opt2 (c 55 [t5] h2) fun t49 h3 => opt (fastBin .add t43 (iL 1)) fun t52 => opt2 (c 54 [t49,t43,t52] h3) fun t53 h4 => opt (loadX (some 6) t11 h4) fun t55 => opt2 (c 56 [t55,t53] h4) fun t57 h5 => opt (extractX t57 0) fun t58 => opt (extractX t57 1) fun t59 => opt (extractX t57 2) fun t60 => opt (fastBin .neq t58 (iL 0)) fun t62 => test t62 (none) (opt (loadX (some 6) t11 h5) fun t64 => opt2 (c 57 [t64,t53] h5) fun t66 h6 => opt (extractX t66 0) fun t67 => opt (extractX t66 1) fun t68 => opt (extractX t66 2) fun t69 => opt (nilCheckX t0) fun t71 => opt (fieldAddrX 0 t71) fun t72 => opt (loadX none t72 h6) fun t73 => eqH h6 h6 (opt (fieldAddrX 0 t11) fun t74 => opt (loadX none t74 h6) fun t75 => eqH h6 h6 (opt (loadX (some 6) t11 h6) fun t76 => eqH h6 h6 (opt2 (mkmapX h6) fun t78 h7 => opt (loadX (some 6) t11 h7) fun t76_1 => eqK t76_1 t76 (eqH h7 h7 (opt (loadX none t74 h7) fun t75_1 => eqK t75_1 t75 (eqH h7 h7 (opt (loadX none t72 h7) fun t73_1 => eqK t73_1 t73 (eqH h7 h7 (opt (buildX [eL,nL,nL,nL,nL,nL,pL,(.lit (.map none))] [(0,6),(6,1),(7,1)] [(0,t76),(1,t67),(2,t78)]) fun t79 => opt2 (box t79 h7) fun t80 h8 => opt (loadX none t74 h8) fun t75_2 => eqK t75_2 t75 (eqH h8 h8 (opt (loadX none t72 h8) fun t73_2 => eqK t73_2 t73 (eqH h8 h8 (optH (mapSetX .str t73 t75 t80 h8) fun h9 => opt (fastBin .add t43 (iL 1)) fun t81 => r1 t0 t5 t41 t42 t81 h9))))))))))))))) (S23_0 c h)
theorem TS23_2b (c : CF) (r1 : A5) : (rk d23 P0 c 82 c23.s3.fst.snd.bd.bd).1 (L5 r1 0 5 41 42 43) [(2,(L0 (S23_0 c)))] k23 gK = L5 (S23_2b c r1) 0 5 41 42 43 := by funext s h; kernel_rfl
noncomputable def S23_1l (c : CF) : Nat → A5
  | 0 => fun _ _ _ _ _ _ => none
  | k + 1 => S23_2b c (S23_1l c k)
theorem TS23_1l (c : CF) : (rk d23 P0 c 82 c23.s3.fst.snd.bd).1 (L0 (S23_0 c)) [(2,(L0 (S23_0 c)))] k23 gK = L5 (S23_1l c rounds) 0 5 41 42 43 := loop_t (by kernel_rfl) (loop_ind (A := fun m => L5 (S23_1l c m) 0 5 41 42 43) rfl (fun m => TS23_2b c (S23_1l c m)) rounds)
noncomputable def S23_3 (c : CF) (t0 t5 t41 t42 t43 : AV) (h : Heap) : Res := S23_1l c rounds t0 t5 t41 t42 t43 h
theorem TS23_3 (c : CF) : (rk d23 P0 c 82 c23.s3.fst.snd).1 (L0 (S23_0 c)) [] k23 gK = L5 (S23_3 c) 0 5 41 42 43 := Eq.trans (block_t (id := 2) (by kernel_rfl) (TS23_1l c)) (by funext s h; kernel_rfl)
noncomputable def S23_4 (c : CF) (t0 t1 t5 : AV) (h : Heap) : Res := opt (lenS t1) fun t42 => S23_3 c t0 t5 t1 t42 (iL 0) h
theorem TS23_4 (c : CF) : (rk d23 P0 c 82 c23.s3).1 k23 [] k23 gK = L3 (S23_4 c) 0 1 5 := Eq.trans (seq_t (by kernel_rfl) (TS23_0 c) (seq_t (by kernel_rfl) (TS23_3 c) rfl)) (by funext s h; kernel_rfl)
noncomputable def S23_6b (c : CF) (r5 : A6) (t0 t1 t5 t19 t20 t21 : AV) (h : Heap) : Res := opt (fastBin .lss t21 t20) fun t22 => test t22 (opt (indexAddrS 6 t19 t21 h) fun t24 => opt (loadX (some 6) t24 h) fun t25 => opt2 (box (.agg [eL,nL,nL,nL,nL,nL]) h) fun t7 h1 => optH (storeX 6 t7 t25 h1) fun h2 => opt (cutZ 6 t1 none (some t21) none h2) fun t28 => opt2 (c 51 [t28,(.fn (.func 52) [] [t7])] h2) fun t30 h3 => test t30 (none) (opt (loadX (some 6) t7 h3) fun t32 => opt2 (c 53 [t32] h3) fun t33 h4 => opt (extractX t33 0) fun t34 => opt (extractX t33 1) fun t35 => opt2 (box (.agg [eL,nL]) h4) fun t8 h5 => optH (storeX 2 t8 t34 h5) fun h6 => opt (loadX (some 2) t8 h6) fun t37 => opt2 (bsliceX 2 (.agg [eL,nL]) 1 [(0,t37)] h6) fun t38 h7 => opt2 (appendX 2 40 t5 t38 h7) fun t39 h8 => opt (fastBin .add t21 (iL 1)) fun t40 => r5 t0 t1 t39 t19 t20 t40 h8)) (S23_4 c t0 t1 t5 h)
theorem TS23_6b (c : CF) (r5 : A6) : (rk d23 P0 c 82 c23.s2.fst.snd.bd.bd).1 (L6 r5 0 1 5 19 20 21) [(0,(L3 (S23_4 c) 0 1 5))] k23 gK = L6 (S23_6b c r5) 0 1 5 19 20 21 := by funext s h; kernel_rfl
noncomputable def S23_5l (c : CF) : Nat → A6
  | 0 => fun _ _ _ _ _ _ _ => none
  | k + 1 => S23_6b c (S23_5l c k)
theorem TS23_5l (c : CF) : (rk d23 P0 c 82 c23.s2.fst.snd.bd).1 (L3 (S23_4 c) 0 1 5) [(0,(L3 (S23_4 c) 0 1 5))] k23 gK = L6 (S23_5l c rounds) 0 1 5 19 20 21 := loop_t (by kernel_rfl) (loop_ind (A := fun m => L6 (S23_5l c m) 0 1 5 19 20 21) rfl (fun m => TS23_6b c (S23_5l c m)) rounds)
noncomputable def S23_7 (c : CF) (t0 t1 t5 t19 t20 t21 : AV) (h : Heap) : Res := S23_5l c rounds t0 t1 t5 t19 t20 t21 h
theorem TS23_7 (c : CF) : (rk d23 P0 c 82 c23.s2.fst.snd).1 (L3 (S23_4 c) 0 1 5) [] k23 gK = L6 (S23_7 c) 0 1 5 19 20 21 := Eq.trans (block_t (id := 0) (by kernel_rfl) (TS23_5l c)) (by funext s h; kernel_rfl)
noncomputable def S23_8 (c : CF) (t0 t1 t5 : AV) (h : Heap) : Res := opt (lenS t1) fun t20 => S23_7 c t0 t1 t5 t1 t20 (iL 0) h
theorem TS23_8 (c : CF) : (rk d23 P0 c 82 c23.s2).1 k23 [] k23 gK = L3 (S23_8 c) 0 1 5 := Eq.trans (seq_t (by kernel_rfl) (TS23_4 c) (seq_t (by kernel_rfl) (TS23_7 c) rfl)) (by funext s h; kernel_rfl)
noncomputable def S23_9 (c : CF) (t0 t1 : AV) (h : Heap) : Res := S23_8 c t0 t1 nL h
theorem TS23_9 (c : CF) : (rk d23 P0 c 82 c23.snd).1 k23 [] k23 gK = L2 (S23_9 c) 0 1 := Eq.trans (seq_t (by kernel_rfl) (TS23_8 c) rfl) (by funext s h; kernel_rfl)
noncomputable def F23 (c : CF) (a0 a1 : AV) (h : Heap) : Res := S23_9 c a0 a1 h
theorem TF23 (c : CF) (a0 a1 : AV) (h : Heap) : (rk d23 P0 c 82 c23).1 k23 [] k23 gK (argsTr gl 0 [a0,a1]) h = F23 c a0 a1 h := Eq.trans (congrFun (congrFun (seq_t (by kernel_rfl) (TS23_9 c) rfl) _) _) (by kernel_rfl)
noncomputable def N23 : FnF := n2 F23
theorem N23_ok : FnOk P0 gl 23 N23 := n2_ok namesOk mixedOrders lowOk Tryz.func23 (by kernel_rfl) (by kernel_rfl) (by kernel_rfl) TF23
noncomputable def c24 : Code := codeOf Tryz.f24
noncomputable def k24 : Kt := finK P0 Tryz.f24.results.toList
def d24 : List Nat := [7]
noncomputable def S24_0 (c : CF) (t9 t11 t13 : AV) (h : Heap) : Res := opt (loadX none t9 h) fun t70 => eqH h h (some ((.tup [t11,t70,t13,tL]),h))
theorem TS24_0 (c : CF) : (rk d24 P0 c 72 c24.s8).1 k24 [] k24 gK = L3 (S24_0 c) 9 11 13 := by funext s h; kernel_rfl
noncomputable def S24_2b (c : CF) (r1 : A6) (t9 t11 t13 t57 t58 t59 : AV) (h : Heap) : Res := opt (fastBin .lss t59 t58) fun t60 => test t60 (opt (indexAddrS 2 t57 t59 h) fun t61 => opt (loadX (some 2) t61 h) fun t62 => opt2 (box (.agg [eL,eL]) h) fun t15 h1 => optH (storeX 2 t15 t62 h1) fun h2 => opt (fieldAddrX 1 t15) fun t64 => opt (loadX none t64 h2) fun t65 => opt2 (bsliceX 1 eL 1 [(0,t65)] h2) fun t66 h3 => opt2 (appendX 1 16 t13 t66 h3) fun t67 h4 => opt (fastBin .add t59 (iL 1)) fun t68 => r1 t9 t11 t67 t57 t58 t68 h4) (S24_0 c t9 t11 t13 h)
theorem TS24_2b (c : CF) (r1 : A6) : (rk d24 P0 c 72 c24.s7.fst.snd.bd.bd).1 (L6 r1 9 11 13 57 58 59) [(0,(L3 (S24_0 c) 9 11 13))] k24 gK = L6 (S24_2b c r1) 9 11 13 57 58 59 := by funext s h; kernel_rfl
noncomputable def S24_1l (c : CF) : Nat → A6
  | 0 => fun _ _ _ _ _ _ _ => none
  | k + 1 => S24_2b c (S24_1l c k)
theorem TS24_1l (c : CF) : (rk d24 P0 c 72 c24.s7.fst.snd.bd).1 (L3 (S24_0 c) 9 11 13) [(0,(L3 (S24_0 c) 9 11 13))] k24 gK = L6 (S24_1l c rounds) 9 11 13 57 58 59 := loop_t (by kernel_rfl) (loop_ind (A := fun m => L6 (S24_1l c m) 9 11 13 57 58 59) rfl (fun m => TS24_2b c (S24_1l c m)) rounds)
noncomputable def S24_3 (c : CF) (t9 t11 t13 t57 t58 t59 : AV) (h : Heap) : Res := S24_1l c rounds t9 t11 t13 t57 t58 t59 h
theorem TS24_3 (c : CF) : (rk d24 P0 c 72 c24.s7.fst.snd).1 (L3 (S24_0 c) 9 11 13) [] k24 gK = L6 (S24_3 c) 9 11 13 57 58 59 := Eq.trans (block_t (id := 0) (by kernel_rfl) (TS24_1l c)) (by funext s h; kernel_rfl)
noncomputable def S24_4 (c : CF) (t9 t11 t12 t13 : AV) (h : Heap) : Res := opt (nilCheckX t11) fun t50 => opt (fieldAddrX 0 t50) fun t51 => opt (fieldAddrX 5 t51) fun t52 => opt (loadX none t52 h) fun t53 => opt (indexAddrS 12 t53 t12 h) fun t55 => opt (fieldAddrX 1 t55) fun t56 => opt (loadX none t56 h) fun t57 => opt (lenS t57) fun t58 => S24_3 c t9 t11 t13 t57 t58 (iL 0) h
theorem TS24_4 (c : CF) : (rk d24 P0 c 72 c24.s7).1 k24 [] k24 gK = L4 (S24_4 c) 9 11 12 13 := Eq.trans (seq_t (by kernel_rfl) (TS24_0 c) (seq_t (by kernel_rfl) (TS24_3 c) rfl)) (by funext s h; kernel_rfl)
noncomputable def S24_5 (c : CF) (t9 t11 t12 : AV) (h : Heap) : Res := S24_4 c t9 t11 t12 nL h
theorem TS24_5 (c : CF) : (rk d24 P0 c 72 c24.s6).1 k24 [] k24 gK = L3 (S24_5 c) 9 11 12 := Eq.trans (seq_t (by kernel_rfl) (TS24_4 c) rfl) (by funext s h; kernel_rfl)
noncomputable def S24_6 (c : CF) (t9 t11 t12 : AV) (h : Heap) : Res := opt (fastBin .lss t12 (iL 0)) fun t48 => test t48 (none) (S24_5 c t9 t11 t12 h)
theorem TS24_6 (c : CF) : (rk d24 P0 c 72 c24.s5).1 k24 [] k24 gK = L3 (S24_6 c) 9 11 12 := Eq.trans (seq_t (by kernel_rfl) (TS24_5 c) rfl) (by funext s h; kernel_rfl)
noncomputable def S24_7 (c : CF) (t9 t11 : AV) (h : Heap) : Res := opt (nilCheckX t11) fun t41 => opt (fieldAddrX 0 t41) fun t42 => opt (fieldAddrX 5 t42) fun t43 => opt (loadX none t43 h) fun t44 => opt2 (c 59 [t44,(.fn (.func 60) [] [t9])] h) fun t46 h1 => S24_6 c t9 t11 t46 h1
theorem TS24_7 (c : CF) : (rk d24 P0 c 72 c24.s4).1 k24 [] k24 gK = L2 (S24_7 c) 9 11 := Eq.trans (seq_t (by kernel_rfl) (TS24_6 c) rfl) (by funext s h; kernel_rfl)
noncomputable def S24_8 (c : CF) (t9 t11 t39 : AV) (h : Heap) : Res := test t39 (some ((.tup [pL,eL,nL,fL]),h)) (S24_7 c t9 t11 h)
theorem TS24_8 (c : CF) : (rk d24 P0 c 72 c24.s3.fst.snd).1 (L2 (S24_7 c) 9 11) [] k24 gK = L3 (S24_8 c) 9 11 39 := by funext s h; kernel_rfl
noncomputable def S24_9 (c : CF) (t9 t11 : AV) (h : Heap) : Res := opt (binX P0 .ptr .eql 66 t11 pL) fun t29 => test t29 (S24_8 c t9 t11 tL h) (opt (nilCheckX t11) fun t32 => opt (fieldAddrX 0 t32) fun t33 => opt (fieldAddrX 2 t33) fun t34 => opt (loadX none t34 h) fun t35 => eqH h h (opt (loadX none t9 h) fun t36 => eqH h h (opt2 (c 37 [t35,t36] h) fun t37 h1 => eqH h1 h (opt (notX t37) fun t38 => S24_8 c t9 t11 t38 h))))
theorem TS24_9 (c : CF) : (rk d24 P0 c 72 c24.s3).1 k24 [] k24 gK = L2 (S24_9 c) 9 11 := Eq.trans (seq_t (by kernel_rfl) (TS24_7 c) (seq_t (by kernel_rfl) (TS24_8 c) rfl)) (by funext s h; kernel_rfl)
noncomputable def S24_10 (c : CF) (t0 t8 t9 : AV) (h : Heap) : Res := opt (nilCheckX t0) fun t23 => opt (fieldAddrX 0 t23) fun t24 => opt (loadX none t24 h) fun t25 => opt (lookupX .str pL t25 t8 false h) fun t27 => S24_9 c t9 t27 h
theorem TS24_10 (c : CF) : (rk d24 P0 c 72 c24.s2).1 k24 [] k24 gK = L3 (S24_10 c) 0 8 9 := Eq.trans (seq_t (by kernel_rfl) (TS24_9 c) rfl) (by funext s h; kernel_rfl)
noncomputable def S24_11 (c : CF) (t0 t1 : AV) (h : Heap) : Res := opt2 (c 58 [t1,(sL [46])] h) fun t18 h1 => opt (extractX t18 0) fun t19 => opt (extractX t18 1) fun t20 => opt (extractX t18 2) fun t21 => opt2 (box eL h1) fun t9 h2 => optH (storeX 1 t9 t20 h2) fun h3 => S24_10 c t0 t19 t9 h3
theorem TS24_11 (c : CF) : (rk d24 P0 c 72 c24.snd).1 k24 [] k24 gK = L2 (S24_11 c) 0 1 := Eq.trans (seq_t (by kernel_rfl) (TS24_10 c) rfl) (by funext s h; kernel_rfl)
noncomputable def F24 (c : CF) (a0 a1 : AV) (h : Heap) : Res := S24_11 c a0 a1 h
theorem TF24 (c : CF) (a0 a1 : AV) (h : Heap) : (rk d24 P0 c 72 c24).1 k24 [] k24 gK (argsTr gl 0 [a0,a1]) h = F24 c a0 a1 h := Eq.trans (congrFun (congrFun (seq_t (by kernel_rfl) (TS24_11 c) rfl) _) _) (by kernel_rfl)
noncomputable def N24 : FnF := n2 F24
theorem N24_ok : FnOk P0 gl 24 N24 := n2_ok namesOk mixedOrders lowOk Tryz.func24 (by kernel_rfl) (by kernel_rfl) (by kernel_rfl) TF24
noncomputable def c25 : Code := codeOf Tryz.f25
noncomputable def k25 : Kt := finK P0 Tryz.f25.results.toList
def d25 : List Nat := []
noncomputable def S25_0 (c : CF) (t3 : AV) (h : Heap) : Res := some (t3,h)
theorem TS25_0 (c : CF) : (rk d25 P0 c 42 c25.s3).1 k25 [] k25 gK = L1 (S25_0 c) 3 := by funext s h; kernel_rfl
noncomputable def S25_2 (c : CF) (r1 : A4) (t3 t9 t10 t11 : AV) (h : Heap) : Res := opt (fastBin .add t11 (iL 1)) fun t40 => r1 t3 t9 t10 t40 h
theorem TS25_2 (c : CF) (r1 : A4) : (rk d25 P0 c 42 c25.s2.fst.snd.bd.bd.s3).1 (L4 r1 3 9 10 11) [(0,(L1 (S25_0 c) 3))] k25 gK = L4 (S25_2 c r1) 3 9 10 11 := by funext s h; kernel_rfl
noncomputable def S25_3 (c : CF) (r1 : A4) (t3 t6 t9 t10 t11 : AV) (h : Heap) : Res := opt (loadX (some 2) t6 h) fun t37 => opt2 (bsliceX 2 (.agg [eL,nL]) 1 [(0,t37)] h) fun t38 h1 => opt2 (appendX 2 40 t3 t38 h1) fun t39 h2 => S25_2 c r1 t39 t9 t10 t11 h2
theorem TS25_3 (c : CF) (r1 : A4) : (rk d25 P0 c 42 c25.s2.fst.snd.bd.bd.s2.fst.bd.s3).1 (L4 (S25_2 c r1) 3 9 10 11) [(1,(L4 (S25_2 c r1) 3 9 10 11)),(0,(L1 (S25_0 c) 3))] k25 gK = L5 (S25_3 c r1) 3 6 9 10 11 := by funext s h; kernel_rfl
noncomputable def S25_5b (c : CF) (r1 : A4) (r4 : A8) (t3 t6 t9 t10 t11 t19 t20 t21 : AV) (h : Heap) : Res := opt (fastBin .lss t21 t20) fun t22 => test t22 (opt (indexAddrS 2 t19 t21 h) fun t23 => opt (loadX (some 2) t23 h) fun t24 => opt2 (box (.agg [eL,nL]) h) fun t8 h1 => optH (storeX 2 t8 t24 h1) fun h2 => opt (fieldAddrX 1 t6) fun t25 => opt (loadX none t25 h2) fun t26 => opt (fieldAddrX 0 t8) fun t27 => opt (loadX none t27 h2) fun t28 => opt (fieldAddrX 1 t8) fun t29 => opt (loadX none t29 h2) fun t30 => opt (buildX [(iL 0),eL,eL,nL] [(0,1),(1,1),(2,1),(3,1)] [(0,(iL 1)),(1,t28),(3,t30)]) fun t31 => opt2 (bsliceX 4 (.agg [(iL 0),eL,eL,nL]) 1 [(0,t31)] h2) fun t32 h3 => opt2 (appendX 4 64 t26 t32 h3) fun t33 h4 => opt (fieldAddrX 1 t6) fun t34 => optH (storeX 1 t34 t33 h4) fun h5 => opt (fastBin .add t21 (iL 1)) fun t35 => r4 t3 t6 t9 t10 t11 t19 t20 t35 h5) (S25_3 c r1 t3 t6 t9 t10 t11 h)
theorem TS25_5b (c : CF) (r1 : A4) (r4 : A8) : (rk d25 P0 c 42 c25.s2.fst.snd.bd.bd.s2.fst.bd.s2.fst.snd.bd.bd).1 (L8 r4 3 6 9 10 11 19 20 21) [(2,(L5 (S25_3 c r1) 3 6 9 10 11)),(1,(L4 (S25_2 c r1) 3 9 10 11)),(0,(L1 (S25_0 c) 3))] k25 gK = L8 (S25_5b c r1 r4) 3 6 9 10 11 19 20 21 := by funext s h; kernel_rfl
noncomputable def S25_4l (c : CF) (r1 : A4) : Nat → A8
  | 0 => fun _ _ _ _ _ _ _ _ _ => none
  | k + 1 => S25_5b c r1 (S25_4l c r1 k)
theorem TS25_4l (c : CF) (r1 : A4) : (rk d25 P0 c 42 c25.s2.fst.snd.bd.bd.s2.fst.bd.s2.fst.snd.bd).1 (L5 (S25_3 c r1) 3 6 9 10 11) [(2,(L5 (S25_3 c r1) 3 6 9 10 11)),(1,(L4 (S25_2 c r1) 3 9 10 11)),(0,(L1 (S25_0 c) 3))] k25 gK = L8 (S25_4l c r1 rounds) 3 6 9 10 11 19 20 21 := loop_t (by kernel_rfl) (loop_ind (A := fun m => L8 (S25_4l c r1 m) 3 6 9 10 11 19 20 21) rfl (fun m => TS25_5b c r1 (S25_4l c r1 m)) rounds)
noncomputable def S25_6 (c : CF) (r1 : A4) (t3 t6 t9 t10 t11 t19 t20 t21 : AV) (h : Heap) : Res := S25_4l c r1 rounds t3 t6 t9 t10 t11 t19 t20 t21 h
theorem TS25_6 (c : CF) (r1 : A4) : (rk d25 P0 c 42 c25.s2.fst.snd.bd.bd.s2.fst.bd.s2.fst.snd).1 (L5 (S25_3 c r1) 3 6 9 10 11) [(1,(L4 (S25_2 c r1) 3 9 10 11)),(0,(L1 (S25_0 c) 3))] k25 gK = L8 (S25_6 c r1) 3 6 9 10 11 19 20 21 := Eq.trans (block_t (id := 2) (by kernel_rfl) (TS25_4l c r1)) (by funext s h; kernel_rfl)
noncomputable def S25_7 (c : CF) (r1 : A4) (t3 t5 t6 t9 t10 t11 : AV) (h : Heap) : Res := opt (fieldAddrX 3 t5) fun t18 => opt (loadX none t18 h) fun t19 => opt (lenS t19) fun t20 => S25_6 c r1 t3 t6 t9 t10 t11 t19 t20 (iL 0) h
theorem TS25_7 (c : CF) (r1 : A4) : (rk d25 P0 c 42 c25.s2.fst.snd.bd.bd.s2.fst.bd.s2).1 (L4 (S25_2 c r1) 3 9 10 11) [(1,(L4 (S25_2 c r1) 3 9 10 11)),(0,(L1 (S25_0 c) 3))] k25 gK = L6 (S25_7 c r1) 3 5 6 9 10 11 := Eq.trans (seq_t (by kernel_rfl) (TS25_3 c r1) (seq_t (by kernel_rfl) (TS25_6 c r1) rfl)) (by funext s h; kernel_rfl)
noncomputable def S25_8 (c : CF) (r1 : A4) (t3 t5 t9 t10 t11 : AV) (h : Heap) : Res := opt (fieldAddrX 0 t5) fun t15 => opt (loadX none t15 h) fun t16 => opt (buildX [eL,nL] [(0,1),(1,1)] [(0,t16)]) fun t17 => opt2 (box (.agg [eL,nL]) h) fun t6 h1 => optH (storeX 2 t6 t17 h1) fun h2 => S25_7 c r1 t3 t5 t6 t9 t10 t11 h2
theorem TS25_8 (c : CF) (r1 : A4) : (rk d25 P0 c 42 c25.s2.fst.snd.bd.bd.s2.fst.bd.snd).1 (L4 (S25_2 c r1) 3 9 10 11) [(1,(L4 (S25_2 c r1) 3 9 10 11)),(0,(L1 (S25_0 c) 3))] k25 gK = L5 (S25_8 c r1) 3 5 9 10 11 := Eq.trans (seq_t (by kernel_rfl) (TS25_7 c r1) rfl) (by funext s h; kernel_rfl)
noncomputable def S25_9 (c : CF) (r1 : A4) (t3 t9 t10 t11 : AV) (h : Heap) : Res := opt (indexAddrS 6 t9 t11 h) fun t13 => opt (loadX (some 6) t13 h) fun t14 => opt2 (box (.agg [eL,nL,nL,nL,nL,nL]) h) fun t5 h1 => optH (storeX 6 t5 t14 h1) fun h2 => S25_8 c r1 t3 t5 t9 t10 t11 h2
theorem TS25_9 (c : CF) (r1 : A4) : (rk d25 P0 c 42 c25.s2.fst.snd.bd.bd.s2).1 (L4 r1 3 9 10 11) [(0,(L1 (S25_0 c) 3))] k25 gK = L4 (S25_9 c r1) 3 9 10 11 := Eq.trans (seq_t (by kernel_rfl) (TS25_2 c r1) (block_t (id := 1) (by kernel_rfl) (seq_t (by kernel_rfl) (TS25_8 c r1) rfl))) (by funext s h; kernel_rfl)
noncomputable def S25_10 (c : CF) (r1 : A4) (t3 t9 t10 t11 t12 : AV) (h : Heap) : Res := test t12 (S25_9 c r1 t3 t9 t10 t11 h) (S25_0 c t3 h)
theorem TS25_10 (c : CF) (r1 : A4) : (rk d25 P0 c 42 c25.s2.fst.snd.bd.bd.snd).1 (L4 r1 3 9 10 11) [(0,(L1 (S25_0 c) 3))] k25 gK = L5 (S25_10 c r1) 3 9 10 11 12 := Eq.trans (seq_t (by kernel_rfl) (TS25_9 c r1) rfl) (by funext s h; kernel_rfl)
noncomputable def S25_11b (c : CF) (r1 : A4) (t3 t9 t10 t11 : AV) (h : Heap) : Res := opt (fastBin .lss t11 t10) fun t12 => S25_10 c r1 t3 t9 t10 t11 t12 h
theorem TS25_11b (c : CF) (r1 : A4) : (rk d25 P0 c 42 c25.s2.fst.snd.bd.bd).1 (L4 r1 3 9 10 11) [(0,(L1 (S25_0 c) 3))] k25 gK = L4 (S25_11b c r1) 3 9 10 11 := Eq.trans (seq_t (by kernel_rfl) (TS25_10 c r1) rfl) (by funext s h; kernel_rfl)
noncomputable def S25_1l (c : CF) : Nat → A4
  | 0 => fun _ _ _ _ _ => none
  | k + 1 => S25_11b c (S25_1l c k)
theorem TS25_1l (c : CF) : (rk d25 P0 c 42 c25.s2.fst.snd.bd).1 (L1 (S25_0 c) 3) [(0,(L1 (S25_0 c) 3))] k25 gK = L4 (S25_1l c rounds) 3 9 10 11 := loop_t (by kernel_rfl) (loop_ind (A := fun m => L4 (S25_1l c m) 3 9 10 11) rfl (fun m => TS25_11b c (S25_1l c m)) rounds)
noncomputable def S25_12 (c : CF) (t3 t9 t10 t11 : AV) (h : Heap) : Res := S25_1l c rounds t3 t9 t10 t11 h
theorem TS25_12 (c : CF) : (rk d25 P0 c 42 c25.s2.fst.snd).1 (L1 (S25_0 c) 3) [] k25 gK = L4 (S25_12 c) 3 9 10 11 := Eq.trans (block_t (id := 0) (by kernel_rfl) (TS25_1l c)) (by funext s h; kernel_rfl)
noncomputable def S25_13 (c : CF) (t0 t3 : AV) (h : Heap) : Res := opt (lenS t0) fun t10 => S25_12 c t3 t0 t10 (iL 0) h
theorem TS25_13 (c : CF) : (rk d25 P0 c 42 c25.s2).1 k25 [] k25 gK = L2 (S25_13 c) 0 3 := Eq.trans (seq_t (by kernel_rfl) (TS25_0 c) (seq_t (by kernel_rfl) (TS25_12 c) rfl)) (by funext s h; kernel_rfl)
noncomputable def S25_14 (c : CF) (t0 : AV) (h : Heap) : Res := S25_13 c t0 nL h
theorem TS25_14 (c : CF) : (rk d25 P0 c 42 c25.snd).1 k25 [] k25 gK = L1 (S25_14 c) 0 := Eq.trans (seq_t (by kernel_rfl) (TS25_13 c) rfl) (by funext s h; kernel_rfl)
noncomputable def F25 (c : CF) (a0 : AV) (h : Heap) : Res := S25_14 c a0 h
theorem TF25 (c : CF) (a0 : AV) (h : Heap) : (rk d25 P0 c 42 c25).1 k25 [] k25 gK (argsTr gl 0 [a0]) h = F25 c a0 h := Eq.trans (congrFun (congrFun (seq_t (by kernel_rfl) (TS25_14 c) rfl) _) _) (by kernel_rfl)
noncomputable def N25 : FnF := n1 F25
theorem N25_ok : FnOk P0 gl 25 N25 := n1_ok namesOk mixedOrders lowOk Tryz.func25 (by kernel_rfl) (by kernel_rfl) (by kernel_rfl) TF25
noncomputable def c26 : Code := codeOf Tryz.f26
noncomputable def k26 : Kt := finK P0 Tryz.f26.results.toList
def d26 : List Nat := []
noncomputable def F26 (c : CF) (a0 a1 a2 : AV) (h : Heap) : Res := opt2 (box a2 h) fun t5 h1 => opt (buildX [nL,(iL 0)] [(0,1),(1,1)] [(0,a0),(1,(iL 2048))]) fun t9 => opt2 (box t9 h1) fun t10 h2 => opt (loadX (some 5) t5 h2) fun t13 => opt2 (c 61 [t10,a1,t13] h2) fun t14 h3 => some (t14,h3)
theorem TF26 (c : CF) (a0 a1 a2 : AV) (h : Heap) : (rk d26 P0 c 15 c26).1 k26 [] k26 gK (argsTr gl 0 [a0,a1,a2]) h = F26 c a0 a1 a2 h := by kernel_rfl
noncomputable def N26 : FnF := n3 F26
theorem N26_ok : FnOk P0 gl 26 N26 := n3_ok namesOk mixedOrders lowOk Tryz.func26 (by kernel_rfl) (by kernel_rfl) (by kernel_rfl) TF26
noncomputable def c27 : Code := codeOf Tryz.f27
noncomputable def k27 : Kt := finK P0 Tryz.f27.results.toList
def d27 : List Nat := [4,5,6]
noncomputable def S27_0 (c : CF) (t2 t3 : AV) (h : Heap) : Res := opt (loadX (some 6) t3 h) fun t31 => optH (storeX 6 t2 t31 h) fun h1 => opt (loadX (some 6) t2 h1) fun res => some (res,h1)
theorem TS27_0 (c : CF) : (rk d27 P0 c 32 c27.s3).1 k27 [] k27 gK = L2 (S27_0 c) 2 3 := by funext s h; kernel_rfl
noncomputable def S27_2b (c : CF) (r1 : A4) (t2 t3 t18 t19 : AV) (h : Heap) : Res := opt (fastBin .lss t19 t18) fun t20 => test t20 (none) (S27_0 c t2 t3 h)
theorem TS27_2b (c : CF) (r1 : A4) : (rk d27 P0 c 32 c27.s2.fst.snd.bd.bd).1 (L4 r1 2 3 18 19) [(0,(L2 (S27_0 c) 2 3))] k27 gK = L4 (S27_2b c r1) 2 3 18 19 := by funext s h; kernel_rfl
noncomputable def S27_1l (c : CF) : Nat → A4
  | 0 => fun _ _ _ _ _ => none
  | k + 1 => S27_2b c (S27_1l c k)
theorem TS27_1l (c : CF) : (rk d27 P0 c 32 c27.s2.fst.snd.bd).1 (L2 (S27_0 c) 2 3) [(0,(L2 (S27_0 c) 2 3))] k27 gK = L4 (S27_1l c rounds) 2 3 18 19 := loop_t (by kernel_rfl) (loop_ind (A := fun m => L4 (S27_1l c m) 2 3 18 19) rfl (fun m => TS27_2b c (S27_1l c m)) rounds)
noncomputable def S27_3 (c : CF) (t2 t3 t18 t19 : AV) (h : Heap) : Res := S27_1l c rounds t2 t3 t18 t19 h
theorem TS27_3 (c : CF) : (rk d27 P0 c 32 c27.s2.fst.snd).1 (L2 (S27_0 c) 2 3) [] k27 gK = L4 (S27_3 c) 2 3 18 19 := Eq.trans (block_t (id := 0) (by kernel_rfl) (TS27_1l c)) (by funext s h; kernel_rfl)
noncomputable def S27_4 (c : CF) (t1 t2 t3 : AV) (h : Heap) : Res := opt (fieldAddrX 4 t1) fun t16 => opt (loadX none t16 h) fun t17 => opt (lenS t17) fun t18 => S27_3 c t2 t3 t18 (iL 0) h
theorem TS27_4 (c : CF) : (rk d27 P0 c 32 c27.s2).1 k27 [] k27 gK = L3 (S27_4 c) 1 2 3 := Eq.trans (seq_t (by kernel_rfl) (TS27_0 c) (seq_t (by kernel_rfl) (TS27_3 c) rfl)) (by funext s h; kernel_rfl)
noncomputable def S27_5 (c : CF) (t1 t2 : AV) (h : Heap) : Res := opt (fieldAddrX 0 t1) fun t6 => opt (loadX none t6 h) fun t7 => eqH h h (opt (fieldAddrX 1 t1) fun t8 => opt (loadX none t8 h) fun t9 => eqH h h (opt (fieldAddrX 2 t1) fun t10 => opt (loadX none t10 h) fun t11 => eqH h h (opt (fieldAddrX 3 t1) fun t12 => opt (loadX none t12 h) fun t13 => eqH h h (opt2 (c 62 [t13] h) fun t14 h1 => opt (loadX none t10 h1) fun t11_1 => eqK t11_1 t11 (eqH h1 h1 (opt (loadX none t8 h1) fun t9_1 => eqK t9_1 t9 (eqH h1 h1 (opt (loadX none t6 h1) fun t7_1 => eqK t7_1 t7 (eqH h1 h1 (opt (buildX [(iL 0),(iL 0),cL,nL,nL,(.lit .nilFunc)] [(0,1),(1,1),(2,1),(3,1),(4,1),(5,1)] [(0,t7),(1,t9),(2,t11),(3,t14)]) fun t15 => opt2 (box (.agg [(iL 0),(iL 0),cL,nL,nL,(.lit .nilFunc)]) h) fun t3 h2 => opt2 (box (.agg [(iL 0),(iL 0),cL,nL,nL,(.lit .nilFunc)]) h1) fun t3_1 h3 => eqK t3_1 t3 (opt2 (c 62 [t13] h2) fun t14_1 h4 => eqK t14_1 t14 (eqH h4 h3 (opt (loadX none t12 h2) fun t13_1 => eqK t13_1 t13 (eqH h2 h2 (opt (loadX none t10 h2) fun t11_2 => eqK t11_2 t11 (eqH h2 h2 (opt (loadX none t10 h3) fun t11_3 => eqK t11_3 t11 (eqH h3 h3 (opt (loadX none t8 h2) fun t9_2 => eqK t9_2 t9 (eqH h2 h2 (opt (loadX none t8 h3) fun t9_3 => eqK t9_3 t9 (eqH h3 h3 (opt (loadX none t6 h2) fun t7_2 => eqK t7_2 t7 (eqH h2 h2 (opt (loadX none t6 h3) fun t7_3 => eqK t7_3 t7 (eqH h3 h3 (optH (storeX 6 t3 t15 h3) fun h5 => S27_4 c t1 t2 t3 h5)))))))))))))))))))))))))))
theorem TS27_5 (c : CF) : (rk d27 P0 c 32 c27.snd).1 k27 [] k27 gK = L2 (S27_5 c) 1 2 := Eq.trans (seq_t (by kernel_rfl) (TS27_4 c) rfl) (by funext s h; kernel_rfl)
noncomputable def F27 (c : CF) (a0 : AV) (h : Heap) : Res := opt2 (box a0 h) fun t1 h1 => opt2 (box (.agg [(iL 0),(iL 0),cL,nL,nL,(.lit .nilFunc)]) h1) fun t2 h2 => S27_5 c t1 t2 h2
theorem TF27 (c : CF) (a0 : AV) (h : Heap) : (rk d27 P0 c 32 c27).1 k27 [] k27 gK (argsTr gl 0 [a0]) h = F27 c a0 h := Eq.trans (congrFun (congrFun (seq_t (by kernel_rfl) (TS27_5 c) rfl) _) _) (by kernel_rfl)
noncomputable def N27 : FnF := n1 F27
theorem N27_ok : FnOk P0 gl 27 N27 := n1_ok namesOk mixedOrders lowOk Tryz.func27 (by kernel_rfl) (by kernel_rfl) (by kernel_rfl) TF27
noncomputable def c28 : Code := codeOf Tryz.f28
noncomputable def k28 : Kt := finK P0 Tryz.f28.results.toList
def d28 : List Nat := [14,15,20,22,24,27,32,37]
noncomputable def F28 (c : CF) (a0 a1 a2 : AV) (h : Heap) : Res := opt2 (box a0 h) fun t3 h1 => opt2 (box a1 h1) fun t4 h2 => opt2 (box a2 h2) fun t5 h3 => opt2 (box (.agg [(iL 0),(iL 0),cL,nL,nL,(.lit .nilFunc)]) h3) fun t6 h4 => opt (loadX none t3 h4) fun t16 => opt (nilCheckX t16) fun t17 => opt (fieldAddrX 4 t17) fun t18 => opt (loadX none t18 h4) fun t19 => opt (fastBin .neq t19 (iL 0)) fun t20 => test t20 (opt (buildX [(iL 0),(iL 0),cL,nL,nL,(.lit .nilFunc)] [(0,1),(1,1),(2,1),(3,1),(4,1),(5,1)] []) fun t21 => optH (storeX 6 t6 t21 h4) fun h5 => opt (loadX (some 6) t6 h5) fun res => some (res,h5)) (opt (loadX none t3 h4) fun t22 => eqH h4 h4 (opt (nilCheckX t22) fun t23 => opt (fieldAddrX 2 t23) fun t24 => opt (loadX none t24 h4) fun t25 => eqH h4 h4 (opt (loadX none t3 h4) fun t26 => eqH h4 h4 (opt (nilCheckX t26) fun t27 => opt (fieldAddrX 1 t27) fun t28 => opt (loadX none t28 h4) fun t29 => eqH h4 h4 (opt (fastBin .geq t25 t29) fun t30 => test t30 (opt (loadX none t3 h4) fun t31 => opt2 (c 63 [t31,(iL 41)] h4) fun t32 h6 => optH (storeX 6 t6 t32 h6) fun h7 => opt (loadX (some 6) t6 h7) fun res_1 => some (res_1,h7)) (opt (loadX none t3 h4) fun t33 => opt (nilCheckX t33) fun t34 => opt (fieldAddrX 2 t34) fun t35 => opt (loadX none t35 h4) fun t36 => opt (fastBin .add t36 (iL 1)) fun t37 => opt (nilCheckX t33) fun t38 => opt (fieldAddrX 2 t38) fun t39 => optH (storeX 1 t39 t37 h4) fun h8 => opt (fieldAddrX 0 t5) fun t40 => opt (loadX none t40 h8) fun t41 => opt (fastBin .eql t41 (iL 1)) fun t43 => test t43 (opt (fieldAddrX 3 t5) fun t44 => opt (loadX none t44 h8) fun t45 => opt2 (c 64 [t45] h8) fun t46 h9 => optH (storeX 6 t6 t46 h9) fun h10 => opt (loadX (some 6) t6 h10) fun res_2 => some (res_2,h10)) (opt (fastBin .eql t41 (iL 2)) fun t48 => test t48 (opt (fieldAddrX 4 t5) fun t49 => opt (loadX none t49 h8) fun t50 => opt (s2bX t50) fun t51 => opt (buildX [(iL 0),(iL 0),cL,nL,nL,(.lit .nilFunc)] [(0,1),(1,1),(2,1),(3,1),(4,1),(5,1)] [(0,(iL 2)),(3,t51)]) fun t52 => optH (storeX 6 t6 t52 h8) fun h11 => opt (loadX (some 6) t6 h11) fun res_3 => some (res_3,h11)) (opt (fastBin .eql t41 (iL 3)) fun t54 => test t54 (opt (loadX none t3 h8) fun t55 => opt (loadX none t4 h8) fun t56 => opt (fieldAddrX 2 t5) fun t57 => opt (loadX none t57 h8) fun t58 => opt2 (c 65 [t55,t56,t58] h8) fun t59 h12 => optH (storeX 6 t6 t59 h12) fun h13 => opt (loadX (some 6) t6 h13) fun res_4 => some (res_4,h13)) (opt (fastBin .eql t41 (iL 4)) fun t61 => test t61 (none) (opt (fastBin .eql t41 (iL 5)) fun t81 => test t81 (opt (loadX none t3 h8) fun t82 => eqH h8 h8 (opt (loadX none t4 h8) fun t83 => eqH h8 h8 (opt (fieldAddrX 6 t5) fun t84 => opt (loadX none t84 h8) fun t85 => eqH h8 h8 (opt (indexAddrS 9 t85 (iL 0) h8) fun t86 => eqH h8 h8 (opt (loadX (some 9) t86 h8) fun t87 => eqH h8 h8 (opt2 (c 28 [t82,t83,t87] h8) fun t88 h14 => opt2 (box (.agg [(iL 0),(iL 0),cL,nL,nL,(.lit .nilFunc)]) h8) fun t8 h15 => opt2 (box (.agg [(iL 0),(iL 0),cL,nL,nL,(.lit .nilFunc)]) h14) fun t8_1 h16 => eqK t8_1 t8 (opt2 (c 28 [t82,t83,t87] h15) fun t88_1 h17 => eqK t88_1 t88 (eqH h17 h16 (opt (loadX (some 9) t86 h15) fun t87_1 => eqK t87_1 t87 (eqH h15 h15 (opt (indexAddrS 9 t85 (iL 0) h15) fun t86_1 => eqK t86_1 t86 (eqH h15 h15 (opt (loadX none t84 h15) fun t85_1 => eqK t85_1 t85 (eqH h15 h15 (opt (loadX none t4 h15) fun t83_1 => eqK t83_1 t83 (eqH h15 h15 (opt (loadX none t3 h15) fun t82_1 => eqK t82_1 t82 (eqH h15 h15 (optH (storeX 6 t8 t88 h16) fun h18 => opt (fieldAddrX 2 t8) fun t89 => opt (loadX none t89 h18) fun t90 => opt (binX P0 .none .neq 23 t90 cL) fun t91 => test t91 (opt (loadX none t3 h18) fun t92 => eqH h18 h18 (opt (loadX none t4 h18) fun t93 => eqH h18 h18 (opt (fieldAddrX 6 t5) fun t94 => opt (loadX none t94 h18) fun t95 => eqH h18 h18 (opt (indexAddrS 9 t95 (iL 1) h18) fun t96 => eqH h18 h18 (opt (loadX (some 9) t96 h18) fun t97 => eqH h18 h18 (opt2 (c 28 [t92,t93,t97] h18) fun t98 h19 => optH (storeX 6 t6 t98 h19) fun h20 => opt (loadX (some 6) t6 h20) fun res_5 => some (res_5,h20))))))) (none)))))))))))))))))))) (opt (fastBin .eql t41 (iL 9)) fun t107 => test t107 (none) (opt (fastBin .eql t41 (iL 10)) fun t113 => test t113 (none) (opt (loadX none t3 h8) fun t116 => opt (loadX none t4 h8) fun t117 => opt (fieldAddrX 6 t5) fun t118 => opt (loadX none t118 h8) fun t119 => opt2 (c 70 [t116,t117,t119] h8) fun t120 h21 => opt (loadX none t3 h21) fun t121 => opt (nilCheckX t121) fun t122 => opt (fieldAddrX 4 t122) fun t123 => opt (loadX none t123 h21) fun t124 => opt (fastBin .neq t124 (iL 0)) fun t125 => test t125 (none) (opt (fieldAddrX 0 t5) fun t127 => opt (loadX none t127 h21) fun t128 => opt (fastBin .eql t128 (iL 6)) fun t130 => test t130 (opt (loadX none t3 h21) fun t131 => opt (fieldAddrX 2 t5) fun t132 => opt (loadX none t132 h21) fun t133 => opt2 (c 71 [t131,t133,t120] h21) fun t135 h22 => optH (storeX 6 t6 t135 h22) fun h23 => opt (loadX (some 6) t6 h23) fun res_6 => some (res_6,h23)) (opt (fastBin .eql t128 (iL 7)) fun t137 => test t137 (none) (opt (fastBin .eql t128 (iL 8)) fun t141 => test t141 (opt (loadX none t4 h21) fun t143 => eqH h21 h21 (opt (nilCheckX t143) fun t144 => opt (fieldAddrX 8 t144) fun t145 => opt (loadX none t145 h21) fun t146 => eqH h21 h21 (opt (nilCheckX t146) fun t147 => opt (fieldAddrX 6 t147) fun t148 => opt (loadX none t148 h21) fun t149 => eqH h21 h21 (opt (fieldAddrX 2 t5) fun t150 => opt (loadX none t150 h21) fun t151 => eqH h21 h21 (opt2 (c 72 [t149,t151] h21) fun t152 h24 => opt (extractX t152 0) fun t153 => opt (extractX t152 1) fun t154 => opt (extractX t152 2) fun t155 => opt (extractX t152 3) fun t156 => opt2 (box (.agg [eL,nL]) h21) fun t12 h25 => opt2 (box (.agg [eL,nL]) h24) fun t12_1 h26 => eqK t12_1 t12 (opt2 (c 72 [t149,t151] h25) fun t152_1 h27 => eqK t152_1 t152 (eqH h27 h26 (opt (loadX none t150 h25) fun t151_1 => eqK t151_1 t151 (eqH h25 h25 (opt (loadX none t148 h25) fun t149_1 => eqK t149_1 t149 (eqH h25 h25 (opt (loadX none t145 h25) fun t146_1 => eqK t146_1 t146 (eqH h25 h25 (opt (loadX none t4 h25) fun t143_1 => eqK t143_1 t143 (eqH h25 h25 (optH (storeX 2 t12 t155 h26) fun h28 => opt (buildX [(iL 0),(iL 0),cL,nL,nL,(.lit .nilFunc)] [(0,1),(1,1),(2,1),(3,1),(4,1),(5,1)] [(0,(iL 4)),(1,t154),(4,t120)]) fun t159 => optH (storeX 6 t6 t159 h28) fun h29 => opt (loadX (some 6) t6 h29) fun res_7 => some (res_7,h29))))))))))))))))) (opt (fastBin .eql t128 (iL 11)) fun t161 => test t161 (none) (opt (loadX none t3 h21) fun t170 => opt (loadX none t4 h21) fun t171 => opt (fieldAddrX 2 t5) fun t172 => opt (loadX none t172 h21) fun t173 => opt2 (c 73 [t170,t171,t173] h21) fun t174 h30 => opt (extractX t174 0) fun t175 => opt (extractX t174 1) fun t176 => opt (loadX none t3 h30) fun t177 => opt2 (c 29 [t177,t175,t176] h30) fun t180 h31 => opt2 (callV P0 c t180 [t120] h31) fun t182 h32 => optH (storeX 6 t6 t182 h32) fun h33 => opt (loadX (some 6) t6 h33) fun res_8 => some (res_8,h33)))))))))))))))))))
theorem TF28 (c : CF) (a0 a1 a2 : AV) (h : Heap) : (rk d28 P0 c 183 c28).1 k28 [] k28 gK (argsTr gl 0 [a0,a1,a2]) h = F28 c a0 a1 a2 h := by kernel_rfl
noncomputable def N28 : FnF := n3 F28
theorem N28_ok : FnOk P0 gl 28 N28 := n3_ok namesOk mixedOrders lowOk Tryz.func28 (by kernel_rfl) (by kernel_rfl) (by kernel_rfl) TF28
noncomputable def c29 : Code := codeOf Tryz.f29
noncomputable def k29 : Kt := finK P0 Tryz.f29.results.toList
def d29 : List Nat := []
noncomputable def F29 (c : CF) (a0 a1 a2 : AV) (h : Heap) : Res := opt2 (box a0 h) fun t3 h1 => opt2 (box a1 h1) fun t4 h2 => opt2 (box a2 h2) fun t5 h3 => opt (loadX none t4 h3) fun t9 => opt (nilCheckX t9) fun t10 => opt (fieldAddrX 0 t10) fun t11 => opt (fieldAddrX 5 t11) fun t12 => opt (loadX none t12 h3) fun t13 => opt2 (c 59 [t13,(.fn (.func 74) [] [t5])] h3) fun t15 h4 => opt (loadX none t4 h4) fun t16 => opt (nilCheckX t16) fun t17 => opt (fieldAddrX 0 t17) fun t18 => opt (fieldAddrX 5 t18) fun t19 => opt (loadX none t19 h4) fun t20 => opt (indexAddrS 12 t20 t15 h4) fun t22 => opt (loadX (some 12) t22 h4) fun t23 => opt2 (box (.agg [eL,nL,eL,(iL 0),(iL 0),eL,cL,eL,eL,nL,nL,nL]) h4) fun t8 h5 => optH (storeX 12 t8 t23 h5) fun h6 => some ((.fn (.func 75) [] [t3,t4,t8]),h6)
theorem TF29 (c : CF) (a0 a1 a2 : AV) (h : Heap) : (rk d29 P0 c 25 c29).1 k29 [] k29 gK (argsTr gl 0 [a0,a1,a2]) h = F29 c a0 a1 a2 h := by kernel_rfl
noncomputable def N29 : FnF := n3 F29
theorem N29_ok : FnOk P0 gl 29 N29 := n3_ok namesOk mixedOrders lowOk Tryz.func29 (by kernel_rfl) (by kernel_rfl) (by kernel_rfl) TF29
noncomputable def c30 : Code := codeOf Tryz.f30
noncomputable def k30 : Kt := finK P0 Tryz.f30.results.toList
def d30 : List Nat := [3,10]
noncomputable def S30_0 (c : CF) (t4 t6 : AV) (h : Heap) : Res := opt (loadX (some 5) t6 h) fun t54 => optH (storeX 5 t4 t54 h) fun h1 => opt (loadX (some 5) t4 h1) fun res => some ((.tup [res,tL]),h1)
theorem TS30_0 (c : CF) : (rk d30 P0 c 55 c30.s5).1 k30 [] k30 gK = L2 (S30_0 c) 4 6 := by funext s h; kernel_rfl
noncomputable def S30_2b (c : CF) (r1 : A6) (t1 t4 t6 t32 t33 t34 : AV) (h : Heap) : Res := opt (fastBin .lss t34 t33) fun t35 => test t35 (opt (indexAddrS 6 t32 t34 h) fun t36 => opt (loadX (some 6) t36 h) fun t37 => opt2 (box (.agg [(iL 0),(iL 0),cL,nL,nL,(.lit .nilFunc)]) h) fun t8 h1 => optH (storeX 6 t8 t37 h1) fun h2 => opt (loadX (some 6) t8 h2) fun t39 => opt2 (c 30 [t39,t1] h2) fun t41 h3 => opt (extractX t41 0) fun t42 => opt (extractX t41 1) fun t43 => opt2 (box (.agg [(iL 0),(iL 0),cL,nL,nL]) h3) fun t9 h4 => optH (storeX 5 t9 t42 h4) fun h5 => opt (notX t43) fun t45 => test t45 (none) (opt (fieldAddrX 4 t6) fun t47 => opt (loadX none t47 h5) fun t48 => opt (loadX (some 5) t9 h5) fun t49 => opt2 (bsliceX 5 (.agg [(iL 0),(iL 0),cL,nL,nL]) 1 [(0,t49)] h5) fun t50 h6 => opt2 (appendX 5 80 t48 t50 h6) fun t51 h7 => opt (fieldAddrX 4 t6) fun t52 => optH (storeX 1 t52 t51 h7) fun h8 => opt (fastBin .add t34 (iL 1)) fun t53 => r1 t1 t4 t6 t32 t33 t53 h8)) (S30_0 c t4 t6 h)
theorem TS30_2b (c : CF) (r1 : A6) : (rk d30 P0 c 55 c30.s4.fst.snd.bd.bd).1 (L6 r1 1 4 6 32 33 34) [(0,(L2 (S30_0 c) 4 6))] k30 gK = L6 (S30_2b c r1) 1 4 6 32 33 34 := by funext s h; kernel_rfl
noncomputable def S30_1l (c : CF) : Nat → A6
  | 0 => fun _ _ _ _ _ _ _ => none
  | k + 1 => S30_2b c (S30_1l c k)
theorem TS30_1l (c : CF) : (rk d30 P0 c 55 c30.s4.fst.snd.bd).1 (L2 (S30_0 c) 4 6) [(0,(L2 (S30_0 c) 4 6))] k30 gK = L6 (S30_1l c rounds) 1 4 6 32 33 34 := loop_t (by kernel_rfl) (loop_ind (A := fun m => L6 (S30_1l c m) 1 4 6 32 33 34) rfl (fun m => TS30_2b c (S30_1l c m)) rounds)
noncomputable def S30_3 (c : CF) (t1 t4 t6 t32 t33 t34 : AV) (h : Heap) : Res := S30_1l c rounds t1 t4 t6 t32 t33 t34 h
theorem TS30_3 (c : CF) : (rk d30 P0 c 55 c30.s4.fst.snd).1 (L2 (S30_0 c) 4 6) [] k30 gK = L6 (S30_3 c) 1 4 6 32 33 34 := Eq.trans (block_t (id := 0) (by kernel_rfl) (TS30_1l c)) (by funext s h; kernel_rfl)
noncomputable def S30_4 (c : CF) (t1 t2 t4 t6 : AV) (h : Heap) : Res := opt (fieldAddrX 4 t2) fun t31 => opt (loadX none t31 h) fun t32 => opt (lenS t32) fun t33 => S30_3 c t1 t4 t6 t32 t33 (iL 0) h
theorem TS30_4 (c : CF) : (rk d30 P0 c 55 c30.s4).1 k30 [] k30 gK = L4 (S30_4 c) 1 2 4 6 := Eq.trans (seq_t (by kernel_rfl) (TS30_0 c) (seq_t (by kernel_rfl) (TS30_3 c) rfl)) (by funext s h; kernel_rfl)
noncomputable def S30_5 (c : CF) (t1 t2 t4 : AV) (h : Heap) : Res := opt (fieldAddrX 0 t2) fun t21 => opt (loadX none t21 h) fun t22 => eqH h h (opt (fieldAddrX 1 t2) fun t23 => opt (loadX none t23 h) fun t24 => eqH h h (opt (fieldAddrX 2 t2) fun t25 => opt (loadX none t25 h) fun t26 => eqH h h (opt (fieldAddrX 3 t2) fun t27 => opt (loadX none t27 h) fun t28 => eqH h h (opt2 (c 62 [t28] h) fun t29 h1 => opt (loadX none t25 h1) fun t26_1 => eqK t26_1 t26 (eqH h1 h1 (opt (loadX none t23 h1) fun t24_1 => eqK t24_1 t24 (eqH h1 h1 (opt (loadX none t21 h1) fun t22_1 => eqK t22_1 t22 (eqH h1 h1 (opt (buildX [(iL 0),(iL 0),cL,nL,nL] [(0,1),(1,1),(2,1),(3,1),(4,1)] [(0,t22),(1,t24),(2,t26),(3,t29)]) fun t30 => opt2 (box (.agg [(iL 0),(iL 0),cL,nL,nL]) h) fun t6 h2 => opt2 (box (.agg [(iL 0),(iL 0),cL,nL,nL]) h1) fun t6_1 h3 => eqK t6_1 t6 (opt2 (c 62 [t28] h2) fun t29_1 h4 => eqK t29_1 t29 (eqH h4 h3 (opt (loadX none t27 h2) fun t28_1 => eqK t28_1 t28 (eqH h2 h2 (opt (loadX none t25 h2) fun t26_2 => eqK t26_2 t26 (eqH h2 h2 (opt (loadX none t25 h3) fun t26_3 => eqK t26_3 t26 (eqH h3 h3 (opt (loadX none t23 h2) fun t24_2 => eqK t24_2 t24 (eqH h2 h2 (opt (loadX none t23 h3) fun t24_3 => eqK t24_3 t24 (eqH h3 h3 (opt (loadX none t21 h2) fun t22_2 => eqK t22_2 t22 (eqH h2 h2 (opt (loadX none t21 h3) fun t22_3 => eqK t22_3 t22 (eqH h3 h3 (optH (storeX 5 t6 t30 h3) fun h5 => S30_4 c t1 t2 t4 t6 h5)))))))))))))))))))))))))))
theorem TS30_5 (c : CF) : (rk d30 P0 c 55 c30.s3).1 k30 [] k30 gK = L3 (S30_5 c) 1 2 4 := Eq.trans (seq_t (by kernel_rfl) (TS30_4 c) rfl) (by funext s h; kernel_rfl)
noncomputable def S30_6 (c : CF) (t1 t2 t4 : AV) (h : Heap) : Res := opt (nilCheckX t1) fun t17 => opt (loadX none t17 h) fun t18 => opt (fastBin .lss t18 (iL 0)) fun t19 => test t19 (none) (S30_5 c t1 t2 t4 h)
theorem TS30_6 (c : CF) : (rk d30 P0 c 55 c30.s2).1 k30 [] k30 gK = L3 (S30_6 c) 1 2 4 := Eq.trans (seq_t (by kernel_rfl) (TS30_5 c) rfl) (by funext s h; kernel_rfl)
noncomputable def S30_7 (c : CF) (t1 t2 t4 : AV) (h : Heap) : Res := opt (nilCheckX t1) fun t12 => opt (loadX none t12 h) fun t13 => opt (fastBin .sub t13 (iL 1)) fun t14 => opt (nilCheckX t1) fun t15 => optH (storeX 1 t15 t14 h) fun h1 => S30_6 c t1 t2 t4 h1
theorem TS30_7 (c : CF) : (rk d30 P0 c 55 c30.snd).1 k30 [] k30 gK = L3 (S30_7 c) 1 2 4 := Eq.trans (seq_t (by kernel_rfl) (TS30_6 c) rfl) (by funext s h; kernel_rfl)
noncomputable def F30 (c : CF) (a0 a1 : AV) (h : Heap) : Res := opt2 (box a0 h) fun t2 h1 => opt2 (box (.agg [(iL 0),(iL 0),cL,nL,nL]) h1) fun t4 h2 => S30_7 c a1 t2 t4 h2
theorem TF30 (c : CF) (a0 a1 : AV) (h : Heap) : (rk d30 P0 c 55 c30).1 k30 [] k30 gK (argsTr gl 0 [a0,a1]) h = F30 c a0 a1 h := Eq.trans (congrFun (congrFun (seq_t (by kernel_rfl) (TS30_7 c) rfl) _) _) (by kernel_rfl)
noncomputable def N30 : FnF := n2 F30
theorem N30_ok : FnOk P0 gl 30 N30 := n2_ok namesOk mixedOrders lowOk Tryz.func30 (by kernel_rfl) (by kernel_rfl) (by kernel_rfl) TF30
noncomputable def c31 : Code := codeOf Tryz.f31
noncomputable def k31 : Kt := finK P0 Tryz.f31.results.toList
def d31 : List Nat := [3,5,9,15,17]
noncomputable def S31_0 (c : CF) (t2 t8 t9 : AV) (h : Heap) : Res := opt (nilCheckX t9) fun t131 => opt (fieldAddrX 1 t131) fun t132 => opt (loadX none t132 h) fun t133 => opt (fastBin .neq t133 (iL 0)) fun t134 => test t134 (none) (opt (loadX (some 6) t8 h) fun t144 => optH (storeX 6 t2 t144 h) fun h1 => opt (loadX (some 6) t2 h1) fun res => some ((.tup [res,(iL 0),(iL 0)]),h1))
theorem TS31_0 (c : CF) : (rk d31 P0 c 145 c31.s9).1 k31 [] k31 gK = L3 (S31_0 c) 2 8 9 := by funext s h; kernel_rfl
noncomputable def S31_1 (c : CF) (t2 t8 t9 : AV) (h : Heap) : Res := opt (fieldAddrX 1 t8) fun t100 => opt (loadX none t100 h) fun t101 => opt (lenS t101) fun t102 => opt (fastBin .gtr t102 (iL 32)) fun t103 => test t103 (none) (opt (fieldAddrX 2 t8) fun t105 => opt (loadX none t105 h) fun t106 => opt (lenS t106) fun t107 => opt (fastBin .gtr t107 (iL 32)) fun t108 => test t108 (none) (opt (fieldAddrX 3 t8) fun t111 => opt (loadX none t111 h) fun t112 => opt (lenS t112) fun t113 => opt (fastBin .gtr t113 (iL 32)) fun t114 => test t114 (none) (opt (fieldAddrX 4 t8) fun t117 => opt (loadX none t117 h) fun t118 => opt (lenS t118) fun t119 => opt (fastBin .gtr t119 (iL 32)) fun t120 => test t120 (none) (opt (fieldAddrX 5 t8) fun t123 => opt (loadX none t123 h) fun t124 => opt (lenS t124) fun t125 => opt (fastBin .gtr t125 (iL 32)) fun t126 => test t126 (none) (S31_0 c t2 t8 t9 h)))))
theorem TS31_1 (c : CF) : (rk d31 P0 c 145 c31.s8).1 k31 [] k31 gK = L3 (S31_1 c) 2 8 9 := Eq.trans (seq_t (by kernel_rfl) (TS31_0 c) rfl) (by funext s h; kernel_rfl)
noncomputable def S31_3 (c : CF) (r2 : A5) (t2 t5 t8 t9 t10 : AV) (h : Heap) : Res := opt (fieldAddrX 3 t5) fun t94 => opt (loadX none t94 h) fun t95 => opt (indexAddrS 4 t95 t10 h) fun t97 => opt (loadX (some 4) t97 h) fun t98 => opt2 (c 81 [t9,t8,t98] h) fun t99 h1 => opt (fastBin .add t10 (iL 1)) fun t92 => r2 t2 t5 t8 t9 t92 h1
theorem TS31_3 (c : CF) (r2 : A5) : (rk d31 P0 c 145 c31.s7.fst.snd.bd.bd.snd).1 (L5 r2 2 5 8 9 10) [(0,(L3 (S31_1 c) 2 8 9))] k31 gK = L5 (S31_3 c r2) 2 5 8 9 10 := by funext s h; kernel_rfl
noncomputable def S31_4b (c : CF) (r2 : A5) (t2 t5 t8 t9 t10 : AV) (h : Heap) : Res := opt (fieldAddrX 3 t5) fun t80 => opt (loadX none t80 h) fun t81 => opt (lenS t81) fun t82 => opt (fastBin .lss t10 t82) fun t83 => test t83 (opt (nilCheckX t9) fun t86 => opt (fieldAddrX 1 t86) fun t87 => opt (loadX none t87 h) fun t88 => opt (fastBin .eql t88 (iL 0)) fun t89 => test t89 (S31_3 c r2 t2 t5 t8 t9 t10 h) (S31_1 c t2 t8 t9 h)) (S31_1 c t2 t8 t9 h)
theorem TS31_4b (c : CF) (r2 : A5) : (rk d31 P0 c 145 c31.s7.fst.snd.bd.bd).1 (L5 r2 2 5 8 9 10) [(0,(L3 (S31_1 c) 2 8 9))] k31 gK = L5 (S31_4b c r2) 2 5 8 9 10 := Eq.trans (seq_t (by kernel_rfl) (TS31_3 c r2) rfl) (by funext s h; kernel_rfl)
noncomputable def S31_2l (c : CF) : Nat → A5
  | 0 => fun _ _ _ _ _ _ => none
  | k + 1 => S31_4b c (S31_2l c k)
theorem TS31_2l (c : CF) : (rk d31 P0 c 145 c31.s7.fst.snd.bd).1 (L3 (S31_1 c) 2 8 9) [(0,(L3 (S31_1 c) 2 8 9))] k31 gK = L5 (S31_2l c rounds) 2 5 8 9 10 := loop_t (by kernel_rfl) (loop_ind (A := fun m => L5 (S31_2l c m) 2 5 8 9 10) rfl (fun m => TS31_4b c (S31_2l c m)) rounds)
noncomputable def S31_5 (c : CF) (t2 t5 t8 t9 t10 : AV) (h : Heap) : Res := S31_2l c rounds t2 t5 t8 t9 t10 h
theorem TS31_5 (c : CF) : (rk d31 P0 c 145 c31.s7.fst.snd).1 (L3 (S31_1 c) 2 8 9) [] k31 gK = L5 (S31_5 c) 2 5 8 9 10 := Eq.trans (block_t (id := 0) (by kernel_rfl) (TS31_2l c)) (by funext s h; kernel_rfl)
noncomputable def S31_6 (c : CF) (t2 t5 t8 t9 : AV) (h : Heap) : Res := S31_5 c t2 t5 t8 t9 (iL 2) h
theorem TS31_6 (c : CF) : (rk d31 P0 c 145 c31.s7).1 k31 [] k31 gK = L4 (S31_6 c) 2 5 8 9 := Eq.trans (seq_t (by kernel_rfl) (TS31_1 c) (seq_t (by kernel_rfl) (TS31_5 c) rfl)) (by funext s h; kernel_rfl)
noncomputable def S31_7 (c : CF) (t2 t5 t8 t9 : AV) (h : Heap) : Res := opt (fieldAddrX 0 t8) fun t68 => opt (loadX none t68 h) fun t69 => opt2 (c 79 [t69] h) fun t70 h1 => opt (notX t70) fun t71 => test t71 (none) (S31_6 c t2 t5 t8 t9 h1)
theorem TS31_7 (c : CF) : (rk d31 P0 c 145 c31.s6).1 k31 [] k31 gK = L4 (S31_7 c) 2 5 8 9 := Eq.trans (seq_t (by kernel_rfl) (TS31_6 c) rfl) (by funext s h; kernel_rfl)
noncomputable def S31_8 (c : CF) (t2 t5 t8 : AV) (h : Heap) : Res := opt (fieldAddrX 0 t8) fun t64 => opt (loadX none t64 h) fun t65 => opt (buildX [eL,(iL 0),(iL 0)] [(0,1),(1,1),(2,1)] [(0,t65)]) fun t66 => opt2 (box t66 h) fun t67 h1 => S31_7 c t2 t5 t8 t67 h1
theorem TS31_8 (c : CF) : (rk d31 P0 c 145 c31.s5).1 k31 [] k31 gK = L3 (S31_8 c) 2 5 8 := Eq.trans (seq_t (by kernel_rfl) (TS31_7 c) rfl) (by funext s h; kernel_rfl)
noncomputable def S31_9 (c : CF) (t2 t5 : AV) (h : Heap) : Res := opt (fieldAddrX 3 t5) fun t58 => opt (loadX none t58 h) fun t59 => opt (indexAddrS 4 t59 (iL 1) h) fun t60 => opt (fieldAddrX 2 t60) fun t61 => opt (loadX none t61 h) fun t62 => opt (buildX [eL,nL,nL,nL,nL,nL] [(0,1),(1,1),(2,1),(3,1),(4,1),(5,1)] [(0,t62)]) fun t63 => opt2 (box (.agg [eL,nL,nL,nL,nL,nL]) h) fun t8 h1 => optH (storeX 6 t8 t63 h1) fun h2 => S31_8 c t2 t5 t8 h2
theorem TS31_9 (c : CF) : (rk d31 P0 c 145 c31.s4).1 k31 [] k31 gK = L2 (S31_9 c) 2 5 := Eq.trans (seq_t (by kernel_rfl) (TS31_8 c) rfl) (by funext s h; kernel_rfl)
noncomputable def S31_10 (c : CF) (t2 t5 : AV) (h : Heap) : Res := opt (loadX (some 4) t5 h) fun t22 => opt2 (c 77 [t22] h) fun t23 h1 => opt (notX t23) fun t24 => test t24 (none) (opt (fieldAddrX 3 t5) fun t26 => opt (loadX none t26 h1) fun t27 => opt (lenS t27) fun t28 => opt (fastBin .lss t28 (iL 2)) fun t29 => test t29 (none) (opt (fieldAddrX 3 t5) fun t32 => opt (loadX none t32 h1) fun t33 => opt (indexAddrS 4 t33 (iL 0) h1) fun t34 => opt (loadX (some 4) t34 h1) fun t35 => opt2 (c 78 [t35] h1) fun t36 h2 => opt (notX t36) fun t37 => test t37 (none) (opt (fieldAddrX 3 t5) fun t40 => opt (loadX none t40 h2) fun t41 => opt (indexAddrS 4 t41 (iL 0) h2) fun t42 => opt (fieldAddrX 2 t42) fun t43 => opt (loadX none t43 h2) fun t44 => opt (fastBin .neq t44 (sL [109,111,100,117,108,101])) fun t45 => test t45 (none) (opt (fieldAddrX 3 t5) fun t48 => opt (loadX none t48 h2) fun t49 => opt (indexAddrS 4 t49 (iL 1) h2) fun t50 => opt (loadX (some 4) t50 h2) fun t51 => opt2 (c 78 [t51] h2) fun t52 h3 => opt (notX t52) fun t53 => test t53 (none) (S31_9 c t2 t5 h3)))))
theorem TS31_10 (c : CF) : (rk d31 P0 c 145 c31.s3).1 k31 [] k31 gK = L2 (S31_10 c) 2 5 := Eq.trans (seq_t (by kernel_rfl) (TS31_9 c) rfl) (by funext s h; kernel_rfl)
noncomputable def S31_11 (c : CF) (t2 t5 t6 : AV) (h : Heap) : Res := opt (fastBin .neq t6 (iL 0)) fun t18 => test t18 (none) (S31_10 c t2 t5 h)
theorem TS31_11 (c : CF) : (rk d31 P0 c 145 c31.s2).1 k31 [] k31 gK = L3 (S31_11 c) 2 5 6 := Eq.trans (seq_t (by kernel_rfl) (TS31_10 c) rfl) (by funext s h; kernel_rfl)
noncomputable def S31_12 (c : CF) (t0 t2 : AV) (h : Heap) : Res := opt2 (c 76 [t0] h) fun t13 h1 => opt (extractX t13 0) fun t14 => opt (extractX t13 1) fun t15 => opt (extractX t13 2) fun t16 => opt2 (box (.agg [(iL 0),(iL 0),eL,nL]) h1) fun t5 h2 => optH (storeX 4 t5 t14 h2) fun h3 => S31_11 c t2 t5 t15 h3
theorem TS31_12 (c : CF) : (rk d31 P0 c 145 c31.snd).1 k31 [] k31 gK = L2 (S31_12 c) 0 2 := Eq.trans (seq_t (by kernel_rfl) (TS31_11 c) rfl) (by funext s h; kernel_rfl)
noncomputable def F31 (c : CF) (a0 : AV) (h : Heap) : Res := opt2 (box (.agg [eL,nL,nL,nL,nL,nL]) h) fun t2 h1 => S31_12 c a0 t2 h1
theorem TF31 (c : CF) (a0 : AV) (h : Heap) : (rk d31 P0 c 145 c31).1 k31 [] k31 gK (argsTr gl 0 [a0]) h = F31 c a0 h := Eq.trans (congrFun (congrFun (seq_t (by kernel_rfl) (TS31_12 c) rfl) _) _) (by kernel_rfl)
noncomputable def N31 : FnF := n1 F31
theorem N31_ok : FnOk P0 gl 31 N31 := n1_ok namesOk mixedOrders lowOk Tryz.func31 (by kernel_rfl) (by kernel_rfl) (by kernel_rfl) TF31
noncomputable def c32 : Code := codeOf Tryz.f32
noncomputable def k32 : Kt := finK P0 Tryz.f32.results.toList
def d32 : List Nat := []
noncomputable def F32 (c : CF) (a0 : AV) (h : Heap) : Res := opt (lenS a0) fun t4 => opt (convI .u64 t4) fun t8 => opt2 (c 83 [t8] h) fun t9 h1 => opt2 (c 82 [a0,(iL 0),t4,t9] h1) fun t10 h2 => some ((.lit (.tuple #[])),h2)
theorem TF32 (c : CF) (a0 : AV) (h : Heap) : (rk d32 P0 c 11 c32).1 k32 [] k32 gK (argsTr gl 0 [a0]) h = F32 c a0 h := by kernel_rfl
noncomputable def N32 : FnF := n1 F32
theorem N32_ok : FnOk P0 gl 32 N32 := n1_ok namesOk mixedOrders lowOk Tryz.func32 (by kernel_rfl) (by kernel_rfl) (by kernel_rfl) TF32
noncomputable def c33 : Code := codeOf Tryz.f33
noncomputable def k33 : Kt := finK P0 Tryz.f33.results.toList
def d33 : List Nat := []
noncomputable def S33_0 (c : CF) (h : Heap) : Res := some ((iL (-1)),h)
theorem TS33_0 (c : CF) : (rk d33 P0 c 19 c33.s2).1 k33 [] k33 gK = L0 (S33_0 c) := by funext s h; kernel_rfl
noncomputable def S33_2b (c : CF) (r1 : A4) (t0 t1 t7 t8 : AV) (h : Heap) : Res := opt (fastBin .lss t8 t7) fun t9 => test t9 (opt (indexAddrS 1 t0 t8 h) fun t14 => opt (loadX none t14 h) fun t15 => opt2 (callV P0 c t1 [t15] h) fun t16 h1 => test t16 (some (t8,h1)) (opt (fastBin .add t8 (iL 1)) fun t18 => r1 t0 t1 t7 t18 h1)) (S33_0 c h)
theorem TS33_2b (c : CF) (r1 : A4) : (rk d33 P0 c 19 c33.snd.fst.snd.bd.bd).1 (L4 r1 0 1 7 8) [(0,(L0 (S33_0 c)))] k33 gK = L4 (S33_2b c r1) 0 1 7 8 := by funext s h; kernel_rfl
noncomputable def S33_1l (c : CF) : Nat → A4
  | 0 => fun _ _ _ _ _ => none
  | k + 1 => S33_2b c (S33_1l c k)
theorem TS33_1l (c : CF) : (rk d33 P0 c 19 c33.snd.fst.snd.bd).1 (L0 (S33_0 c)) [(0,(L0 (S33_0 c)))] k33 gK = L4 (S33_1l c rounds) 0 1 7 8 := loop_t (by kernel_rfl) (loop_ind (A := fun m => L4 (S33_1l c m) 0 1 7 8) rfl (fun m => TS33_2b c (S33_1l c m)) rounds)
noncomputable def S33_3 (c : CF) (t0 t1 t7 t8 : AV) (h : Heap) : Res := S33_1l c rounds t0 t1 t7 t8 h
theorem TS33_3 (c : CF) : (rk d33 P0 c 19 c33.snd.fst.snd).1 (L0 (S33_0 c)) [] k33 gK = L4 (S33_3 c) 0 1 7 8 := Eq.trans (block_t (id := 0) (by kernel_rfl) (TS33_1l c)) (by funext s h; kernel_rfl)
noncomputable def S33_4 (c : CF) (t0 t1 : AV) (h : Heap) : Res := opt (lenS t0) fun t7 => S33_3 c t0 t1 t7 (iL 0) h
theorem TS33_4 (c : CF) : (rk d33 P0 c 19 c33.snd).1 k33 [] k33 gK = L2 (S33_4 c) 0 1 := Eq.trans (seq_t (by kernel_rfl) (TS33_0 c) (seq_t (by kernel_rfl) (TS33_3 c) rfl)) (by funext s h; kernel_rfl)
noncomputable def F33 (c : CF) (a0 a1 : AV) (h : Heap) : Res := S33_4 c a0 a1 h
theorem TF33 (c : CF) (a0 a1 : AV) (h : Heap) : (rk d33 P0 c 19 c33).1 k33 [] k33 gK (argsTr gl 0 [a0,a1]) h = F33 c a0 a1 h := Eq.trans (congrFun (congrFun (seq_t (by kernel_rfl) (TS33_4 c) rfl) _) _) (by kernel_rfl)
noncomputable def N33 : FnF := n2 F33
theorem N33_ok : FnOk P0 gl 33 N33 := n2_ok namesOk mixedOrders lowOk Tryz.func33 (by kernel_rfl) (by kernel_rfl) (by kernel_rfl) TF33
noncomputable def c34 : Code := codeOf Tryz.f34
noncomputable def k34 : Kt := finK P0 Tryz.f34.results.toList
def d34 : List Nat := []
noncomputable def F34 (c : CF) (a0 a1 a2 : AV) (h : Heap) : Res := opt (loadX none a1 h) fun t5 => opt (lookupX .str nL t5 a0 false h) fun t7 => opt2 (c 35 [t7,(.fn (.func 36) [] [a2])] h) fun t9 h1 => opt (notX t9) fun t10 => some (t10,h1)
theorem TF34 (c : CF) (a0 a1 a2 : AV) (h : Heap) : (rk d34 P0 c 11 c34).1 k34 [] k34 gK (argsTr gl 0 [a0,a1,a2]) h = F34 c a0 a1 a2 h := by kernel_rfl
noncomputable def N34 : FnF := n3 F34
theorem N34_ok : FnOk P0 gl 34 N34 := n3_ok namesOk mixedOrders lowOk Tryz.func34 (by kernel_rfl) (by kernel_rfl) (by kernel_rfl) TF34
noncomputable def c35 : Code := codeOf Tryz.f35
noncomputable def k35 : Kt := finK P0 Tryz.f35.results.toList
def d35 : List Nat := []
noncomputable def F35 (c : CF) (a0 a1 : AV) (h : Heap) : Res := opt2 (c 33 [a0,a1] h) fun t7 h1 => opt (fastBin .geq t7 (iL 0)) fun t8 => some (t8,h1)
theorem TF35 (c : CF) (a0 a1 : AV) (h : Heap) : (rk d35 P0 c 9 c35).1 k35 [] k35 gK (argsTr gl 0 [a0,a1]) h = F35 c a0 a1 h := by kernel_rfl
noncomputable def N35 : FnF := n2 F35
theorem N35_ok : FnOk P0 gl 35 N35 := n2_ok namesOk mixedOrders lowOk Tryz.func35 (by kernel_rfl) (by kernel_rfl) (by kernel_rfl) TF35
noncomputable def c36 : Code := codeOf Tryz.f36
noncomputable def k36 : Kt := finK P0 Tryz.f36.results.toList
def d36 : List Nat := []
noncomputable def F36 (c : CF) (a0 a1 : AV) (h : Heap) : Res := opt (loadX none a1 h) fun t4 => opt2 (c 37 [t4,a0] h) fun t6 h1 => some (t6,h1)
theorem TF36 (c : CF) (a0 a1 : AV) (h : Heap) : (rk d36 P0 c 7 c36).1 k36 [] k36 gK (argsTr gl 0 [a0,a1]) h = F36 c a0 a1 h := by kernel_rfl
noncomputable def N36 : FnF := n2 F36
theorem N36_ok : FnOk P0 gl 36 N36 := n2_ok namesOk mixedOrders lowOk Tryz.func36 (by kernel_rfl) (by kernel_rfl) (by kernel_rfl) TF36
noncomputable def c37 : Code := codeOf Tryz.f37
noncomputable def k37 : Kt := finK P0 Tryz.f37.results.toList
def d37 : List Nat := []
noncomputable def F37 (c : CF) (a0 a1 : AV) (h : Heap) : Res := opt2 (c 84 [a0,a1] h) fun t7 h1 => opt (fastBin .geq t7 (iL 0)) fun t8 => some (t8,h1)
theorem TF37 (c : CF) (a0 a1 : AV) (h : Heap) : (rk d37 P0 c 9 c37).1 k37 [] k37 gK (argsTr gl 0 [a0,a1]) h = F37 c a0 a1 h := by kernel_rfl
noncomputable def N37 : FnF := n2 F37
theorem N37_ok : FnOk P0 gl 37 N37 := n2_ok namesOk mixedOrders lowOk Tryz.func37 (by kernel_rfl) (by kernel_rfl) (by kernel_rfl) TF37
noncomputable def c38 : Code := codeOf Tryz.f38
noncomputable def k38 : Kt := finK P0 Tryz.f38.results.toList
def d38 : List Nat := [3]
noncomputable def F38 (c : CF) (a0 a1 a2 : AV) (h : Heap) : Res := opt (lenS a0) fun t12 => opt (cutZ 1 a0 (some a1) (some a2) (some t12) h) fun t13 => opt (fastBin .eql a1 a2) fun t16 => test t16 (none) (opt (lenS a0) fun t19 => opt (cutZ 1 a0 none (some a1) none h) fun t22 => eqH h h (opt (cutZ 1 a0 (some a2) none none h) fun t25 => eqH h h (opt2 (appendX 1 16 t22 t25 h) fun t26 h1 => opt (lenS t26) fun t29 => opt (cutZ 1 t26 (some t29) (some t19) none h1) fun t31 => opt2 (clearX 1 eL t31 h1) fun u h2 => some (t26,h2))))
theorem TF38 (c : CF) (a0 a1 a2 : AV) (h : Heap) : (rk d38 P0 c 33 c38).1 k38 [] k38 gK (argsTr gl 0 [a0,a1,a2]) h = F38 c a0 a1 a2 h := by kernel_rfl
noncomputable def N38 : FnF := n3 F38
theorem N38_ok : FnOk P0 gl 38 N38 := n3_ok namesOk mixedOrders lowOk Tryz.func38 (by kernel_rfl) (by kernel_rfl) (by kernel_rfl) TF38
noncomputable def c43 : Code := codeOf Tryz.f43
noncomputable def k43 : Kt := finK P0 Tryz.f43.results.toList
def d43 : List Nat := [5]
noncomputable def S43_0 (c : CF) (t0 : AV) (h : Heap) : Res := some ((.tup [t0,eL,fL]),h)
theorem TS43_0 (c : CF) : (rk d43 P0 c 24 c43.s2).1 k43 [] k43 gK = L1 (S43_0 c) 0 := by funext s h; kernel_rfl
noncomputable def S43_2b (c : CF) (r1 : A2) (t0 t5 : AV) (h : Heap) : Res := opt (lenStr t0) fun t8 => opt (fastBin .lss t5 t8) fun t9 => test t9 (opt (fastIndex t0 t5) fun t14 => opt (fastBin .eql t14 (uL 46)) fun t15 => test t15 (none) (opt (fastBin .add t5 (iL 1)) fun t11 => r1 t0 t11 h)) (S43_0 c t0 h)
theorem TS43_2b (c : CF) (r1 : A2) : (rk d43 P0 c 24 c43.snd.fst.snd.bd.bd).1 (L2 r1 0 5) [(0,(L1 (S43_0 c) 0))] k43 gK = L2 (S43_2b c r1) 0 5 := by funext s h; kernel_rfl
noncomputable def S43_1l (c : CF) : Nat → A2
  | 0 => fun _ _ _ => none
  | k + 1 => S43_2b c (S43_1l c k)
theorem TS43_1l (c : CF) : (rk d43 P0 c 24 c43.snd.fst.snd.bd).1 (L1 (S43_0 c) 0) [(0,(L1 (S43_0 c) 0))] k43 gK = L2 (S43_1l c rounds) 0 5 := loop_t (by kernel_rfl) (loop_ind (A := fun m => L2 (S43_1l c m) 0 5) rfl (fun m => TS43_2b c (S43_1l c m)) rounds)
noncomputable def S43_3 (c : CF) (t0 t5 : AV) (h : Heap) : Res := S43_1l c rounds t0 t5 h
theorem TS43_3 (c : CF) : (rk d43 P0 c 24 c43.snd.fst.snd).1 (L1 (S43_0 c) 0) [] k43 gK = L2 (S43_3 c) 0 5 := Eq.trans (block_t (id := 0) (by kernel_rfl) (TS43_1l c)) (by funext s h; kernel_rfl)
noncomputable def S43_4 (c : CF) (t0 : AV) (h : Heap) : Res := S43_3 c t0 (iL 0) h
theorem TS43_4 (c : CF) : (rk d43 P0 c 24 c43.snd).1 k43 [] k43 gK = L1 (S43_4 c) 0 := Eq.trans (seq_t (by kernel_rfl) (TS43_0 c) (seq_t (by kernel_rfl) (TS43_3 c) rfl)) (by funext s h; kernel_rfl)
noncomputable def F43 (c : CF) (a0 : AV) (h : Heap) : Res := S43_4 c a0 h
theorem TF43 (c : CF) (a0 : AV) (h : Heap) : (rk d43 P0 c 24 c43).1 k43 [] k43 gK (argsTr gl 0 [a0]) h = F43 c a0 h := Eq.trans (congrFun (congrFun (seq_t (by kernel_rfl) (TS43_4 c) rfl) _) _) (by kernel_rfl)
noncomputable def N43 : FnF := n1 F43
theorem N43_ok : FnOk P0 gl 43 N43 := n1_ok namesOk mixedOrders lowOk Tryz.func43 (by kernel_rfl) (by kernel_rfl) (by kernel_rfl) TF43
noncomputable def c51 : Code := codeOf Tryz.f51
noncomputable def k51 : Kt := finK P0 Tryz.f51.results.toList
def d51 : List Nat := []
noncomputable def F51 (c : CF) (a0 a1 : AV) (h : Heap) : Res := opt2 (c 99 [a0,a1] h) fun t7 h1 => opt (fastBin .geq t7 (iL 0)) fun t8 => some (t8,h1)
theorem TF51 (c : CF) (a0 a1 : AV) (h : Heap) : (rk d51 P0 c 9 c51).1 k51 [] k51 gK (argsTr gl 0 [a0,a1]) h = F51 c a0 a1 h := by kernel_rfl
noncomputable def N51 : FnF := n2 F51
theorem N51_ok : FnOk P0 gl 51 N51 := n2_ok namesOk mixedOrders lowOk Tryz.func51 (by kernel_rfl) (by kernel_rfl) (by kernel_rfl) TF51
noncomputable def c52 : Code := codeOf Tryz.f52
noncomputable def k52 : Kt := finK P0 Tryz.f52.results.toList
def d52 : List Nat := []
noncomputable def F52 (c : CF) (a0 a1 : AV) (h : Heap) : Res := opt2 (box a0 h) fun t2 h1 => opt (fieldAddrX 0 t2) fun t4 => opt (loadX none t4 h1) fun t5 => opt (fieldAddrX 0 a1) fun t6 => opt (loadX none t6 h1) fun t7 => opt (fastBin .eql t5 t7) fun t8 => some (t8,h1)
theorem TF52 (c : CF) (a0 a1 : AV) (h : Heap) : (rk d52 P0 c 9 c52).1 k52 [] k52 gK (argsTr gl 0 [a0,a1]) h = F52 c a0 a1 h := by kernel_rfl
noncomputable def N52 : FnF := n2 F52
theorem N52_ok : FnOk P0 gl 52 N52 := n2_ok namesOk mixedOrders lowOk Tryz.func52 (by kernel_rfl) (by kernel_rfl) (by kernel_rfl) TF52
noncomputable def c53 : Code := codeOf Tryz.f53
noncomputable def k53 : Kt := finK P0 Tryz.f53.results.toList
def d53 : List Nat := [7,9,15]
noncomputable def S53_0 (c : CF) (t2 t4 : AV) (h : Heap) : Res := opt (fieldAddrX 1 t4) fun t47 => opt (loadX none t47 h) fun t48 => opt2 (c 102 [t48,(.fn (.func 103) [] [])] h) fun t49 h1 => opt (loadX (some 2) t4 h1) fun t50 => opt2 (c 105 [t50] h1) fun t51 h2 => opt (fastBin .neq t51 (iL 0)) fun t53 => test t53 (none) (opt (loadX (some 2) t4 h2) fun t56 => optH (storeX 2 t2 t56 h2) fun h3 => opt (loadX (some 2) t2 h3) fun res => some ((.tup [res,(iL 0)]),h3))
theorem TS53_0 (c : CF) : (rk d53 P0 c 57 c53.s3).1 k53 [] k53 gK = L2 (S53_0 c) 2 4 := by funext s h; kernel_rfl
noncomputable def S53_2b (c : CF) (r1 : A6) (t1 t2 t4 t14 t15 t16 : AV) (h : Heap) : Res := opt (fastBin .lss t16 t15) fun t17 => test t17 (opt (indexAddrS 1 t14 t16 h) fun t19 => opt (loadX none t19 h) fun t20 => opt (loadX (some 6) t1 h) fun t22 => opt2 (c 100 [t22,t20] h) fun t24 h1 => opt (extractX t24 0) fun t25 => opt (extractX t24 1) fun t26 => opt2 (box (.agg [(iL 0),eL,eL,nL]) h1) fun t7 h2 => optH (storeX 4 t7 t25 h2) fun h3 => opt (notX t26) fun t29 => test t29 (none) (opt (fieldAddrX 2 t1) fun t32 => opt (loadX none t32 h3) fun t33 => opt (cutZ 1 t33 none (some t16) none h3) fun t35 => opt2 (c 37 [t35,t20] h3) fun t37 h4 => test t37 (none) (opt (fieldAddrX 1 t4) fun t39 => opt (loadX none t39 h4) fun t40 => eqH h4 h4 (opt (loadX (some 4) t7 h4) fun t41 => eqH h4 h4 (opt2 (c 101 [t41] h4) fun t42 h5 => eqH h5 h4 (opt2 (bsliceX 4 (.agg [(iL 0),eL,eL,nL]) 1 [(0,t42)] h4) fun t43 h6 => opt (loadX none t39 h6) fun t40_1 => eqK t40_1 t40 (eqH h6 h6 (opt2 (appendX 4 64 t40 t43 h6) fun t44 h7 => opt (fieldAddrX 1 t4) fun t45 => optH (storeX 1 t45 t44 h7) fun h8 => opt (fastBin .add t16 (iL 1)) fun t46 => r1 t1 t2 t4 t14 t15 t46 h8)))))))) (S53_0 c t2 t4 h)
theorem TS53_2b (c : CF) (r1 : A6) : (rk d53 P0 c 57 c53.s2.fst.snd.bd.bd).1 (L6 r1 1 2 4 14 15 16) [(0,(L2 (S53_0 c) 2 4))] k53 gK = L6 (S53_2b c r1) 1 2 4 14 15 16 := by funext s h; kernel_rfl
noncomputable def S53_1l (c : CF) : Nat → A6
  | 0 => fun _ _ _ _ _ _ _ => none
  | k + 1 => S53_2b c (S53_1l c k)
theorem TS53_1l (c : CF) : (rk d53 P0 c 57 c53.s2.fst.snd.bd).1 (L2 (S53_0 c) 2 4) [(0,(L2 (S53_0 c) 2 4))] k53 gK = L6 (S53_1l c rounds) 1 2 4 14 15 16 := loop_t (by kernel_rfl) (loop_ind (A := fun m => L6 (S53_1l c m) 1 2 4 14 15 16) rfl (fun m => TS53_2b c (S53_1l c m)) rounds)
noncomputable def S53_3 (c : CF) (t1 t2 t4 t14 t15 t16 : AV) (h : Heap) : Res := S53_1l c rounds t1 t2 t4 t14 t15 t16 h
theorem TS53_3 (c : CF) : (rk d53 P0 c 57 c53.s2.fst.snd).1 (L2 (S53_0 c) 2 4) [] k53 gK = L6 (S53_3 c) 1 2 4 14 15 16 := Eq.trans (block_t (id := 0) (by kernel_rfl) (TS53_1l c)) (by funext s h; kernel_rfl)
noncomputable def S53_4 (c : CF) (t1 t2 t4 : AV) (h : Heap) : Res := opt (fieldAddrX 2 t1) fun t13 => opt (loadX none t13 h) fun t14 => opt (lenS t14) fun t15 => S53_3 c t1 t2 t4 t14 t15 (iL 0) h
theorem TS53_4 (c : CF) : (rk d53 P0 c 57 c53.s2).1 k53 [] k53 gK = L3 (S53_4 c) 1 2 4 := Eq.trans (seq_t (by kernel_rfl) (TS53_0 c) (seq_t (by kernel_rfl) (TS53_3 c) rfl)) (by funext s h; kernel_rfl)
noncomputable def S53_5 (c : CF) (t1 t2 : AV) (h : Heap) : Res := opt (fieldAddrX 0 t1) fun t10 => opt (loadX none t10 h) fun t11 => opt (buildX [eL,nL] [(0,1),(1,1)] [(0,t11)]) fun t12 => opt2 (box (.agg [eL,nL]) h) fun t4 h1 => optH (storeX 2 t4 t12 h1) fun h2 => S53_4 c t1 t2 t4 h2
theorem TS53_5 (c : CF) : (rk d53 P0 c 57 c53.snd).1 k53 [] k53 gK = L2 (S53_5 c) 1 2 := Eq.trans (seq_t (by kernel_rfl) (TS53_4 c) rfl) (by funext s h; kernel_rfl)
noncomputable def F53 (c : CF) (a0 : AV) (h : Heap) : Res := opt2 (box a0 h) fun t1 h1 => opt2 (box (.agg [eL,nL]) h1) fun t2 h2 => S53_5 c t1 t2 h2
theorem TF53 (c : CF) (a0 : AV) (h : Heap) : (rk d53 P0 c 57 c53).1 k53 [] k53 gK (argsTr gl 0 [a0]) h = F53 c a0 h := Eq.trans (congrFun (congrFun (seq_t (by kernel_rfl) (TS53_5 c) rfl) _) _) (by kernel_rfl)
noncomputable def N53 : FnF := n1 F53
theorem N53_ok : FnOk P0 gl 53 N53 := n1_ok namesOk mixedOrders lowOk Tryz.func53 (by kernel_rfl) (by kernel_rfl) (by kernel_rfl) TF53
noncomputable def c54 : Code := codeOf Tryz.f54
noncomputable def k54 : Kt := finK P0 Tryz.f54.results.toList
def d54 : List Nat := [3]
noncomputable def F54 (c : CF) (a0 a1 a2 : AV) (h : Heap) : Res := opt (lenS a0) fun t12 => opt (cutZ 2 a0 (some a1) (some a2) (some t12) h) fun t13 => opt (fastBin .eql a1 a2) fun t16 => test t16 (none) (opt (lenS a0) fun t19 => opt (cutZ 2 a0 none (some a1) none h) fun t22 => eqH h h (opt (cutZ 2 a0 (some a2) none none h) fun t25 => eqH h h (opt2 (appendX 2 40 t22 t25 h) fun t26 h1 => opt (lenS t26) fun t29 => opt (cutZ 2 t26 (some t29) (some t19) none h1) fun t31 => opt2 (clearX 2 (.agg [eL,nL]) t31 h1) fun u h2 => some (t26,h2))))
theorem TF54 (c : CF) (a0 a1 a2 : AV) (h : Heap) : (rk d54 P0 c 33 c54).1 k54 [] k54 gK (argsTr gl 0 [a0,a1,a2]) h = F54 c a0 a1 a2 h := by kernel_rfl
noncomputable def N54 : FnF := n3 F54
theorem N54_ok : FnOk P0 gl 54 N54 := n3_ok namesOk mixedOrders lowOk Tryz.func54 (by kernel_rfl) (by kernel_rfl) (by kernel_rfl) TF54
noncomputable def c55 : Code := codeOf Tryz.f55
noncomputable def k55 : Kt := finK P0 Tryz.f55.results.toList
def d55 : List Nat := []
noncomputable def F55 (c : CF) (a0 : AV) (h : Heap) : Res := opt (binX P0 .slice .eql 69 a0 nL) fun t4 => test t4 (some (nL,h)) (opt2 (bsliceX 2 (.agg [eL,nL]) 0 [] h) fun t5 h1 => opt2 (appendX 2 40 t5 a0 h1) fun t7 h2 => some (t7,h2))
theorem TF55 (c : CF) (a0 : AV) (h : Heap) : (rk d55 P0 c 8 c55).1 k55 [] k55 gK (argsTr gl 0 [a0]) h = F55 c a0 h := by kernel_rfl
noncomputable def N55 : FnF := n1 F55
theorem N55_ok : FnOk P0 gl 55 N55 := n1_ok namesOk mixedOrders lowOk Tryz.func55 (by kernel_rfl) (by kernel_rfl) (by kernel_rfl) TF55
noncomputable def c56 : Code := codeOf Tryz.f56
noncomputable def k56 : Kt := finK P0 Tryz.f56.results.toList
def d56 : List Nat := [3,6,13,20]
noncomputable def S56_0 (c : CF) (h : Heap) : Res := some ((.tup [(iL 0),(iL 0),eL]),h)
theorem TS56_0 (c : CF) : (rk d56 P0 c 94 c56.s7).1 k56 [] k56 gK = L0 (S56_0 c) := by funext s h; kernel_rfl
noncomputable def S56_2b (c : CF) (r1 : A5) (t2 t12 t67 t68 t69 : AV) (h : Heap) : Res := opt (fastBin .lss t69 t68) fun t70 => test t70 (opt (indexAddrS 12 t67 t69 h) fun t71 => opt (loadX (some 12) t71 h) fun t72 => opt2 (box (.agg [eL,nL,eL,(iL 0),(iL 0),eL,cL,eL,eL,nL,nL,nL]) h) fun t18 h1 => optH (storeX 12 t18 t72 h1) fun h2 => opt (fieldAddrX 1 t18) fun t75 => opt (loadX none t75 h2) fun t76 => opt (fieldAddrX 4 t2) fun t77 => opt (loadX none t77 h2) fun t78 => opt (lenS t78) fun t79 => opt (fieldAddrX 3 t18) fun t80 => opt (loadX (some 9) t80 h2) fun t81 => opt (fieldAddrX 2 t18) fun t82 => opt (loadX none t82 h2) fun t83 => opt2 (callV P0 c t12 [t76,t79,t81,t83] h2) fun t84 h3 => opt (extractX t84 0) fun t85 => opt (extractX t84 1) fun t86 => opt (fastBin .neq t85 (iL 0)) fun t88 => test t88 (none) (opt (fastBin .add t69 (iL 1)) fun t93 => r1 t2 t12 t67 t68 t93 h3)) (S56_0 c h)
theorem TS56_2b (c : CF) (r1 : A5) : (rk d56 P0 c 94 c56.s6.fst.snd.bd.bd).1 (L5 r1 2 12 67 68 69) [(2,(L0 (S56_0 c)))] k56 gK = L5 (S56_2b c r1) 2 12 67 68 69 := by funext s h; kernel_rfl
noncomputable def S56_1l (c : CF) : Nat → A5
  | 0 => fun _ _ _ _ _ _ => none
  | k + 1 => S56_2b c (S56_1l c k)
theorem TS56_1l (c : CF) : (rk d56 P0 c 94 c56.s6.fst.snd.bd).1 (L0 (S56_0 c)) [(2,(L0 (S56_0 c)))] k56 gK = L5 (S56_1l c rounds) 2 12 67 68 69 := loop_t (by kernel_rfl) (loop_ind (A := fun m => L5 (S56_1l c m) 2 12 67 68 69) rfl (fun m => TS56_2b c (S56_1l c m)) rounds)
noncomputable def S56_3 (c : CF) (t2 t12 t67 t68 t69 : AV) (h : Heap) : Res := S56_1l c rounds t2 t12 t67 t68 t69 h
theorem TS56_3 (c : CF) : (rk d56 P0 c 94 c56.s6.fst.snd).1 (L0 (S56_0 c)) [] k56 gK = L5 (S56_3 c) 2 12 67 68 69 := Eq.trans (block_t (id := 2) (by kernel_rfl) (TS56_1l c)) (by funext s h; kernel_rfl)
noncomputable def S56_4 (c : CF) (t2 t12 : AV) (h : Heap) : Res := opt (fieldAddrX 5 t2) fun t66 => opt (loadX none t66 h) fun t67 => opt (lenS t67) fun t68 => S56_3 c t2 t12 t67 t68 (iL 0) h
theorem TS56_4 (c : CF) : (rk d56 P0 c 94 c56.s6).1 k56 [] k56 gK = L2 (S56_4 c) 2 12 := Eq.trans (seq_t (by kernel_rfl) (TS56_0 c) (seq_t (by kernel_rfl) (TS56_3 c) rfl)) (by funext s h; kernel_rfl)
noncomputable def S56_6b (c : CF) (r5 : A5) (t2 t12 t42 t43 t44 : AV) (h : Heap) : Res := opt (fastBin .lss t44 t43) fun t45 => test t45 (opt (indexAddrS 11 t42 t44 h) fun t47 => opt (loadX (some 11) t47 h) fun t48 => opt2 (box (.agg [eL,eL,(iL 0),(iL 0),eL,cL,eL,eL,nL,nL,nL]) h) fun t14 h1 => optH (storeX 11 t14 t48 h1) fun h2 => opt (fieldAddrX 2 t14) fun t52 => opt (loadX (some 9) t52 h2) fun t53 => opt (fieldAddrX 1 t14) fun t54 => opt (loadX none t54 h2) fun t55 => opt2 (callV P0 c t12 [nL,t44,t53,t55] h2) fun t56 h3 => opt (extractX t56 0) fun t57 => opt (extractX t56 1) fun t58 => opt (fastBin .neq t57 (iL 0)) fun t60 => test t60 (none) (opt (fastBin .add t44 (iL 1)) fun t65 => r5 t2 t12 t42 t43 t65 h3)) (S56_4 c t2 t12 h)
theorem TS56_6b (c : CF) (r5 : A5) : (rk d56 P0 c 94 c56.s5.fst.snd.bd.bd).1 (L5 r5 2 12 42 43 44) [(0,(L2 (S56_4 c) 2 12))] k56 gK = L5 (S56_6b c r5) 2 12 42 43 44 := by funext s h; kernel_rfl
noncomputable def S56_5l (c : CF) : Nat → A5
  | 0 => fun _ _ _ _ _ _ => none
  | k + 1 => S56_6b c (S56_5l c k)
theorem TS56_5l (c : CF) : (rk d56 P0 c 94 c56.s5.fst.snd.bd).1 (L2 (S56_4 c) 2 12) [(0,(L2 (S56_4 c) 2 12))] k56 gK = L5 (S56_5l c rounds) 2 12 42 43 44 := loop_t (by kernel_rfl) (loop_ind (A := fun m => L5 (S56_5l c m) 2 12 42 43 44) rfl (fun m => TS56_6b c (S56_5l c m)) rounds)
noncomputable def S56_7 (c : CF) (t2 t12 t42 t43 t44 : AV) (h : Heap) : Res := S56_5l c rounds t2 t12 t42 t43 t44 h
theorem TS56_7 (c : CF) : (rk d56 P0 c 94 c56.s5.fst.snd).1 (L2 (S56_4 c) 2 12) [] k56 gK = L5 (S56_7 c) 2 12 42 43 44 := Eq.trans (block_t (id := 0) (by kernel_rfl) (TS56_5l c)) (by funext s h; kernel_rfl)
noncomputable def S56_8 (c : CF) (t2 t12 : AV) (h : Heap) : Res := opt (fieldAddrX 4 t2) fun t41 => opt (loadX none t41 h) fun t42 => opt (lenS t42) fun t43 => S56_7 c t2 t12 t42 t43 (iL 0) h
theorem TS56_8 (c : CF) : (rk d56 P0 c 94 c56.s5).1 k56 [] k56 gK = L2 (S56_8 c) 2 12 := Eq.trans (seq_t (by kernel_rfl) (TS56_4 c) (seq_t (by kernel_rfl) (TS56_7 c) rfl)) (by funext s h; kernel_rfl)
noncomputable def S56_9 (c : CF) (t2 t7 : AV) (h : Heap) : Res := S56_8 c t2 (.fn (.func 106) [] [t7,t2]) h
theorem TS56_9 (c : CF) : (rk d56 P0 c 94 c56.s4).1 k56 [] k56 gK = L2 (S56_9 c) 2 7 := Eq.trans (seq_t (by kernel_rfl) (TS56_8 c) rfl) (by funext s h; kernel_rfl)
noncomputable def S56_10 (c : CF) (t2 t7 : AV) (h : Heap) : Res := opt (loadX (some 6) t2 h) fun t33 => opt2 (c 53 [t33] h) fun t34 h1 => opt (extractX t34 0) fun t35 => opt (extractX t34 1) fun t36 => opt2 (box (.agg [eL,nL]) h1) fun t10 h2 => optH (storeX 2 t10 t35 h2) fun h3 => opt (fastBin .neq t36 (iL 0)) fun t38 => test t38 (none) (S56_9 c t2 t7 h3)
theorem TS56_10 (c : CF) : (rk d56 P0 c 94 c56.s3).1 k56 [] k56 gK = L2 (S56_10 c) 2 7 := Eq.trans (seq_t (by kernel_rfl) (TS56_9 c) rfl) (by funext s h; kernel_rfl)
noncomputable def S56_11 (c : CF) (t2 t7 t8 : AV) (h : Heap) : Res := opt (fastBin .neq t8 (iL 0)) fun t29 => test t29 (none) (S56_10 c t2 t7 h)
theorem TS56_11 (c : CF) : (rk d56 P0 c 94 c56.s2).1 k56 [] k56 gK = L3 (S56_11 c) 2 7 8 := Eq.trans (seq_t (by kernel_rfl) (TS56_10 c) rfl) (by funext s h; kernel_rfl)
noncomputable def S56_12 (c : CF) (t1 t2 : AV) (h : Heap) : Res := opt (loadX (some 6) t2 h) fun t22 => opt2 (c 57 [t22,t1] h) fun t24 h1 => opt (extractX t24 0) fun t25 => opt (extractX t24 1) fun t26 => opt (extractX t24 2) fun t27 => opt2 (box pL h1) fun t7 h2 => optH (storeX 1 t7 t25 h2) fun h3 => S56_11 c t2 t7 t26 h3
theorem TS56_12 (c : CF) : (rk d56 P0 c 94 c56.snd).1 k56 [] k56 gK = L2 (S56_12 c) 1 2 := Eq.trans (seq_t (by kernel_rfl) (TS56_11 c) rfl) (by funext s h; kernel_rfl)
noncomputable def F56 (c : CF) (a0 a1 : AV) (h : Heap) : Res := opt2 (box a0 h) fun t2 h1 => S56_12 c a1 t2 h1
theorem TF56 (c : CF) (a0 a1 : AV) (h : Heap) : (rk d56 P0 c 94 c56).1 k56 [] k56 gK (argsTr gl 0 [a0,a1]) h = F56 c a0 a1 h := Eq.trans (congrFun (congrFun (seq_t (by kernel_rfl) (TS56_12 c) rfl) _) _) (by kernel_rfl)
noncomputable def N56 : FnF := n2 F56
theorem N56_ok : FnOk P0 gl 56 N56 := n2_ok namesOk mixedOrders lowOk Tryz.func56 (by kernel_rfl) (by kernel_rfl) (by kernel_rfl) TF56
noncomputable def c57 : Code := codeOf Tryz.f57
noncomputable def k57 : Kt := finK P0 Tryz.f57.results.toList
def d57 : List Nat := [6,16,18,25,33,39,45]
noncomputable def S57_0 (c : CF) (t16 : AV) (h : Heap) : Res := some ((.tup [t16,(iL 0),eL]),h)
theorem TS57_0 (c : CF) : (rk d57 P0 c 155 c57.s9.s3).1 k57 [] k57 gK = L1 (S57_0 c) 16 := by funext s h; kernel_rfl
noncomputable def S57_2b (c : CF) (r1 : A4) (t16 t138 t139 t140 : AV) (h : Heap) : Res := opt (fastBin .lss t140 t139) fun t141 => test t141 (opt (indexAddrS 12 t138 t140 h) fun t142 => opt (loadX (some 12) t142 h) fun t143 => opt2 (box (.agg [eL,nL,eL,(iL 0),(iL 0),eL,cL,eL,eL,nL,nL,nL]) h) fun t26 h1 => optH (storeX 12 t26 t143 h1) fun h2 => opt (fieldAddrX 1 t26) fun t144 => opt (loadX none t144 h2) fun t145 => opt (fieldAddrX 2 t26) fun t146 => opt (loadX none t146 h2) fun t147 => opt2 (c 117 [t145,t147] h2) fun t148 h3 => opt (lenStr t148) fun t149 => opt (fastBin .gtr t149 (iL 200)) fun t150 => test t150 (none) (opt (fastBin .add t140 (iL 1)) fun t153 => r1 t16 t138 t139 t153 h3)) (S57_0 c t16 h)
theorem TS57_2b (c : CF) (r1 : A4) : (rk d57 P0 c 155 c57.s9.s2.fst.snd.bd.bd).1 (L4 r1 16 138 139 140) [(10,(L1 (S57_0 c) 16))] k57 gK = L4 (S57_2b c r1) 16 138 139 140 := by funext s h; kernel_rfl
noncomputable def S57_1l (c : CF) : Nat → A4
  | 0 => fun _ _ _ _ _ => none
  | k + 1 => S57_2b c (S57_1l c k)
theorem TS57_1l (c : CF) : (rk d57 P0 c 155 c57.s9.s2.fst.snd.bd).1 (L1 (S57_0 c) 16) [(10,(L1 (S57_0 c) 16))] k57 gK = L4 (S57_1l c rounds) 16 138 139 140 := loop_t (by kernel_rfl) (loop_ind (A := fun m => L4 (S57_1l c m) 16 138 139 140) rfl (fun m => TS57_2b c (S57_1l c m)) rounds)
noncomputable def S57_3 (c : CF) (t16 t138 t139 t140 : AV) (h : Heap) : Res := S57_1l c rounds t16 t138 t139 t140 h
theorem TS57_3 (c : CF) : (rk d57 P0 c 155 c57.s9.s2.fst.snd).1 (L1 (S57_0 c) 16) [] k57 gK = L4 (S57_3 c) 16 138 139 140 := Eq.trans (block_t (id := 10) (by kernel_rfl) (TS57_1l c)) (by funext s h; kernel_rfl)
noncomputable def S57_4 (c : CF) (t2 t16 : AV) (h : Heap) : Res := opt (fieldAddrX 5 t2) fun t137 => opt (loadX none t137 h) fun t138 => opt (lenS t138) fun t139 => S57_3 c t16 t138 t139 (iL 0) h
theorem TS57_4 (c : CF) : (rk d57 P0 c 155 c57.s9.s2).1 k57 [] k57 gK = L2 (S57_4 c) 2 16 := Eq.trans (seq_t (by kernel_rfl) (TS57_0 c) (seq_t (by kernel_rfl) (TS57_3 c) rfl)) (by funext s h; kernel_rfl)
noncomputable def S57_6b (c : CF) (r5 : A5) (t2 t16 t124 t125 t126 : AV) (h : Heap) : Res := opt (fastBin .lss t126 t125) fun t127 => test t127 (opt (indexAddrS 11 t124 t126 h) fun t128 => opt (loadX (some 11) t128 h) fun t129 => opt2 (box (.agg [eL,eL,(iL 0),(iL 0),eL,cL,eL,eL,nL,nL,nL]) h) fun t24 h1 => optH (storeX 11 t24 t129 h1) fun h2 => opt (fieldAddrX 1 t24) fun t130 => opt (loadX none t130 h2) fun t131 => opt (lenStr t131) fun t132 => opt (fastBin .gtr t132 (iL 198)) fun t133 => test t133 (none) (opt (fastBin .add t126 (iL 1)) fun t136 => r5 t2 t16 t124 t125 t136 h2)) (S57_4 c t2 t16 h)
theorem TS57_6b (c : CF) (r5 : A5) : (rk d57 P0 c 155 c57.s9.snd.fst.snd.bd.bd).1 (L5 r5 2 16 124 125 126) [(8,(L2 (S57_4 c) 2 16))] k57 gK = L5 (S57_6b c r5) 2 16 124 125 126 := by funext s h; kernel_rfl
noncomputable def S57_5l (c : CF) : Nat → A5
  | 0 => fun _ _ _ _ _ _ => none
  | k + 1 => S57_6b c (S57_5l c k)
theorem TS57_5l (c : CF) : (rk d57 P0 c 155 c57.s9.snd.fst.snd.bd).1 (L2 (S57_4 c) 2 16) [(8,(L2 (S57_4 c) 2 16))] k57 gK = L5 (S57_5l c rounds) 2 16 124 125 126 := loop_t (by kernel_rfl) (loop_ind (A := fun m => L5 (S57_5l c m) 2 16 124 125 126) rfl (fun m => TS57_6b c (S57_5l c m)) rounds)
noncomputable def S57_7 (c : CF) (t2 t16 t124 t125 t126 : AV) (h : Heap) : Res := S57_5l c rounds t2 t16 t124 t125 t126 h
theorem TS57_7 (c : CF) : (rk d57 P0 c 155 c57.s9.snd.fst.snd).1 (L2 (S57_4 c) 2 16) [] k57 gK = L5 (S57_7 c) 2 16 124 125 126 := Eq.trans (block_t (id := 8) (by kernel_rfl) (TS57_5l c)) (by funext s h; kernel_rfl)
noncomputable def S57_8 (c : CF) (t2 t16 : AV) (h : Heap) : Res := opt (fieldAddrX 4 t2) fun t123 => opt (loadX none t123 h) fun t124 => opt (lenS t124) fun t125 => S57_7 c t2 t16 t124 t125 (iL 0) h
theorem TS57_8 (c : CF) : (rk d57 P0 c 155 c57.s9.snd).1 k57 [] k57 gK = L2 (S57_8 c) 2 16 := Eq.trans (seq_t (by kernel_rfl) (TS57_4 c) (seq_t (by kernel_rfl) (TS57_7 c) rfl)) (by funext s h; kernel_rfl)
noncomputable def S57_10b (c : CF) (r9 : A5) (t2 t16 t111 t112 t113 : AV) (h : Heap) : Res := opt (fastBin .lss t113 t112) fun t114 => test t114 (opt (indexAddrS 1 t111 t113 h) fun t115 => opt (loadX none t115 h) fun t116 => opt2 (c 116 [t16,t116] h) fun t119 h1 => opt (notX t119) fun t120 => test t120 (none) (opt (fastBin .add t113 (iL 1)) fun t122 => r9 t2 t16 t111 t112 t122 h1)) (S57_8 c t2 t16 h)
theorem TS57_10b (c : CF) (r9 : A5) : (rk d57 P0 c 155 c57.s9.fst.snd.bd.bd).1 (L5 r9 2 16 111 112 113) [(6,(L2 (S57_8 c) 2 16))] k57 gK = L5 (S57_10b c r9) 2 16 111 112 113 := by funext s h; kernel_rfl
noncomputable def S57_9l (c : CF) : Nat → A5
  | 0 => fun _ _ _ _ _ _ => none
  | k + 1 => S57_10b c (S57_9l c k)
theorem TS57_9l (c : CF) : (rk d57 P0 c 155 c57.s9.fst.snd.bd).1 (L2 (S57_8 c) 2 16) [(6,(L2 (S57_8 c) 2 16))] k57 gK = L5 (S57_9l c rounds) 2 16 111 112 113 := loop_t (by kernel_rfl) (loop_ind (A := fun m => L5 (S57_9l c m) 2 16 111 112 113) rfl (fun m => TS57_10b c (S57_9l c m)) rounds)
noncomputable def S57_11 (c : CF) (t2 t16 t111 t112 t113 : AV) (h : Heap) : Res := S57_9l c rounds t2 t16 t111 t112 t113 h
theorem TS57_11 (c : CF) : (rk d57 P0 c 155 c57.s9.fst.snd).1 (L2 (S57_8 c) 2 16) [] k57 gK = L5 (S57_11 c) 2 16 111 112 113 := Eq.trans (block_t (id := 6) (by kernel_rfl) (TS57_9l c)) (by funext s h; kernel_rfl)
noncomputable def S57_12 (c : CF) (t2 t16 : AV) (h : Heap) : Res := opt (loadX (some 6) t2 h) fun t110 => opt2 (c 115 [t110] h) fun t111 h1 => opt (lenS t111) fun t112 => S57_11 c t2 t16 t111 t112 (iL 0) h1
theorem TS57_12 (c : CF) : (rk d57 P0 c 155 c57.s9).1 k57 [] k57 gK = L2 (S57_12 c) 2 16 := Eq.trans (seq_t (by kernel_rfl) (TS57_8 c) (seq_t (by kernel_rfl) (TS57_11 c) rfl)) (by funext s h; kernel_rfl)
noncomputable def S57_13 (c : CF) (t2 t16 : AV) (h : Heap) : Res := opt (loadX (some 6) t2 h) fun t108 => opt2 (c 114 [t16,t108] h) fun t109 h1 => S57_12 c t2 t16 h1
theorem TS57_13 (c : CF) : (rk d57 P0 c 155 c57.s8).1 k57 [] k57 gK = L2 (S57_13 c) 2 16 := Eq.trans (seq_t (by kernel_rfl) (TS57_12 c) rfl) (by funext s h; kernel_rfl)
noncomputable def S57_15b (c : CF) (r14 : A6) (t1 t2 t16 t76 t77 t78 : AV) (h : Heap) : Res := opt (fastBin .lss t78 t77) fun t79 => test t79 (opt (indexAddrS 2 t76 t78 h) fun t81 => opt (loadX (some 2) t81 h) fun t82 => opt2 (box (.agg [eL,eL]) h) fun t18 h1 => optH (storeX 2 t18 t82 h1) fun h2 => opt (fieldAddrX 0 t18) fun t85 => opt (loadX none t85 h2) fun t86 => opt (fieldAddrX 1 t18) fun t87 => opt (loadX none t87 h2) fun t88 => opt2 (c 112 [t1,t86,t88] h2) fun t89 h3 => opt (extractX t89 0) fun t90 => opt (extractX t89 1) fun t91 => opt2 (box (.agg [(iL 0),eL,eL,nL]) h3) fun t19 h4 => optH (storeX 4 t19 t90 h4) fun h5 => opt (notX t91) fun t93 => test t93 (none) (opt (fieldAddrX 0 t18) fun t99 => opt (loadX none t99 h5) fun t100 => opt (fieldAddrX 0 t18) fun t101 => opt (loadX none t101 h5) fun t102 => opt (fastBin .add t102 (sL [46])) fun t103 => opt (loadX (some 4) t19 h5) fun t104 => opt2 (c 113 [t16,t100,t103,t104] h5) fun t105 h6 => opt (fastBin .add t78 (iL 1)) fun t106 => r14 t1 t2 t16 t76 t77 t106 h6)) (S57_13 c t2 t16 h)
theorem TS57_15b (c : CF) (r14 : A6) : (rk d57 P0 c 155 c57.s7.fst.snd.bd.bd).1 (L6 r14 1 2 16 76 77 78) [(4,(L2 (S57_13 c) 2 16))] k57 gK = L6 (S57_15b c r14) 1 2 16 76 77 78 := by funext s h; kernel_rfl
noncomputable def S57_14l (c : CF) : Nat → A6
  | 0 => fun _ _ _ _ _ _ _ => none
  | k + 1 => S57_15b c (S57_14l c k)
theorem TS57_14l (c : CF) : (rk d57 P0 c 155 c57.s7.fst.snd.bd).1 (L2 (S57_13 c) 2 16) [(4,(L2 (S57_13 c) 2 16))] k57 gK = L6 (S57_14l c rounds) 1 2 16 76 77 78 := loop_t (by kernel_rfl) (loop_ind (A := fun m => L6 (S57_14l c m) 1 2 16 76 77 78) rfl (fun m => TS57_15b c (S57_14l c m)) rounds)
noncomputable def S57_16 (c : CF) (t1 t2 t16 t76 t77 t78 : AV) (h : Heap) : Res := S57_14l c rounds t1 t2 t16 t76 t77 t78 h
theorem TS57_16 (c : CF) : (rk d57 P0 c 155 c57.s7.fst.snd).1 (L2 (S57_13 c) 2 16) [] k57 gK = L6 (S57_16 c) 1 2 16 76 77 78 := Eq.trans (block_t (id := 4) (by kernel_rfl) (TS57_14l c)) (by funext s h; kernel_rfl)
noncomputable def S57_17 (c : CF) (t1 t2 t16 : AV) (h : Heap) : Res := opt (fieldAddrX 1 t2) fun t75 => opt (loadX none t75 h) fun t76 => opt (lenS t76) fun t77 => S57_16 c t1 t2 t16 t76 t77 (iL 0) h
theorem TS57_17 (c : CF) : (rk d57 P0 c 155 c57.s7).1 k57 [] k57 gK = L3 (S57_17 c) 1 2 16 := Eq.trans (seq_t (by kernel_rfl) (TS57_13 c) (seq_t (by kernel_rfl) (TS57_16 c) rfl)) (by funext s h; kernel_rfl)
noncomputable def S57_18 (c : CF) (t1 t2 : AV) (h : Heap) : Res := opt2 (mkmapX h) fun t70 h1 => opt2 (mkmapX h1) fun t71 h2 => opt2 (mkmapX h2) fun t72 h3 => opt (buildX [(.lit (.map none)),(.lit (.map none)),(.lit (.map none))] [(0,1),(1,1),(2,1)] [(0,t70),(1,t71),(2,t72)]) fun t73 => opt2 (box t73 h3) fun t74 h4 => S57_17 c t1 t2 t74 h4
theorem TS57_18 (c : CF) : (rk d57 P0 c 155 c57.s6).1 k57 [] k57 gK = L2 (S57_18 c) 1 2 := Eq.trans (seq_t (by kernel_rfl) (TS57_17 c) rfl) (by funext s h; kernel_rfl)
noncomputable def S57_19 (c : CF) (t1 t2 : AV) (h : Heap) : Res := opt (fieldAddrX 1 t2) fun t64 => opt (loadX none t64 h) fun t65 => opt2 (c 110 [t65,(.fn (.func 111) [] [t2])] h) fun t67 h1 => test t67 (none) (S57_18 c t1 t2 h1)
theorem TS57_19 (c : CF) : (rk d57 P0 c 155 c57.s5).1 k57 [] k57 gK = L2 (S57_19 c) 1 2 := Eq.trans (seq_t (by kernel_rfl) (TS57_18 c) rfl) (by funext s h; kernel_rfl)
noncomputable def S57_20 (c : CF) (t1 t2 t11 : AV) (h : Heap) : Res := opt2 (c 109 [t11] h) fun t59 h1 => opt (extractX t59 0) fun t60 => opt (extractX t59 1) fun t61 => test t61 (none) (S57_19 c t1 t2 h1)
theorem TS57_20 (c : CF) : (rk d57 P0 c 155 c57.s4).1 k57 [] k57 gK = L3 (S57_20 c) 1 2 11 := Eq.trans (seq_t (by kernel_rfl) (TS57_19 c) rfl) (by funext s h; kernel_rfl)
noncomputable def S57_22b (c : CF) (r21 : A6) (t1 t2 t11 t41 t42 t43 : AV) (h : Heap) : Res := opt (fastBin .lss t43 t42) fun t44 => test t44 (opt (indexAddrS 2 t41 t43 h) fun t45 => opt (loadX (some 2) t45 h) fun t46 => opt2 (box (.agg [eL,eL]) h) fun t13 h1 => optH (storeX 2 t13 t46 h1) fun h2 => opt (fieldAddrX 0 t13) fun t48 => opt (loadX none t48 h2) fun t49 => opt (fastBin .add t49 (sL [46])) fun t50 => opt (fieldAddrX 1 t13) fun t51 => opt (loadX none t51 h2) fun t52 => opt (fastBin .add t50 t52) fun t53 => opt2 (bsliceX 1 eL 1 [(0,t53)] h2) fun t54 h3 => opt2 (appendX 1 16 t11 t54 h3) fun t55 h4 => opt (fastBin .add t43 (iL 1)) fun t56 => r21 t1 t2 t55 t41 t42 t56 h4) (S57_20 c t1 t2 t11 h)
theorem TS57_22b (c : CF) (r21 : A6) : (rk d57 P0 c 155 c57.s3.fst.snd.bd.bd).1 (L6 r21 1 2 11 41 42 43) [(2,(L3 (S57_20 c) 1 2 11))] k57 gK = L6 (S57_22b c r21) 1 2 11 41 42 43 := by funext s h; kernel_rfl
noncomputable def S57_21l (c : CF) : Nat → A6
  | 0 => fun _ _ _ _ _ _ _ => none
  | k + 1 => S57_22b c (S57_21l c k)
theorem TS57_21l (c : CF) : (rk d57 P0 c 155 c57.s3.fst.snd.bd).1 (L3 (S57_20 c) 1 2 11) [(2,(L3 (S57_20 c) 1 2 11))] k57 gK = L6 (S57_21l c rounds) 1 2 11 41 42 43 := loop_t (by kernel_rfl) (loop_ind (A := fun m => L6 (S57_21l c m) 1 2 11 41 42 43) rfl (fun m => TS57_22b c (S57_21l c m)) rounds)
noncomputable def S57_23 (c : CF) (t1 t2 t11 t41 t42 t43 : AV) (h : Heap) : Res := S57_21l c rounds t1 t2 t11 t41 t42 t43 h
theorem TS57_23 (c : CF) : (rk d57 P0 c 155 c57.s3.fst.snd).1 (L3 (S57_20 c) 1 2 11) [] k57 gK = L6 (S57_23 c) 1 2 11 41 42 43 := Eq.trans (block_t (id := 2) (by kernel_rfl) (TS57_21l c)) (by funext s h; kernel_rfl)
noncomputable def S57_24 (c : CF) (t1 t2 t11 : AV) (h : Heap) : Res := opt (fieldAddrX 1 t2) fun t40 => opt (loadX none t40 h) fun t41 => opt (lenS t41) fun t42 => S57_23 c t1 t2 t11 t41 t42 (iL 0) h
theorem TS57_24 (c : CF) : (rk d57 P0 c 155 c57.s3).1 k57 [] k57 gK = L3 (S57_24 c) 1 2 11 := Eq.trans (seq_t (by kernel_rfl) (TS57_20 c) (seq_t (by kernel_rfl) (TS57_23 c) rfl)) (by funext s h; kernel_rfl)
noncomputable def S57_25 (c : CF) (t1 t2 : AV) (h : Heap) : Res := S57_24 c t1 t2 nL h
theorem TS57_25 (c : CF) : (rk d57 P0 c 155 c57.s2).1 k57 [] k57 gK = L2 (S57_25 c) 1 2 := Eq.trans (seq_t (by kernel_rfl) (TS57_24 c) rfl) (by funext s h; kernel_rfl)
noncomputable def S57_27b (c : CF) (r26 : A4) (t1 t2 t28 t29 : AV) (h : Heap) : Res := opt (fastBin .lss t29 (iL 3)) fun t30 => test t30 (opt (indexX 3 1 none t28 t29) fun t31 => opt2 (c 109 [t31] h) fun t34 h1 => opt (extractX t34 0) fun t35 => opt (extractX t34 1) fun t36 => test t36 (none) (opt (fastBin .add t29 (iL 1)) fun t39 => r26 t1 t2 t28 t39 h1)) (S57_25 c t1 t2 h)
theorem TS57_27b (c : CF) (r26 : A4) : (rk d57 P0 c 155 c57.snd.fst.snd.bd.bd).1 (L4 r26 1 2 28 29) [(0,(L2 (S57_25 c) 1 2))] k57 gK = L4 (S57_27b c r26) 1 2 28 29 := by funext s h; kernel_rfl
noncomputable def S57_26l (c : CF) : Nat → A4
  | 0 => fun _ _ _ _ _ => none
  | k + 1 => S57_27b c (S57_26l c k)
theorem TS57_26l (c : CF) : (rk d57 P0 c 155 c57.snd.fst.snd.bd).1 (L2 (S57_25 c) 1 2) [(0,(L2 (S57_25 c) 1 2))] k57 gK = L4 (S57_26l c rounds) 1 2 28 29 := loop_t (by kernel_rfl) (loop_ind (A := fun m => L4 (S57_26l c m) 1 2 28 29) rfl (fun m => TS57_27b c (S57_26l c m)) rounds)
noncomputable def S57_28 (c : CF) (t1 t2 t28 t29 : AV) (h : Heap) : Res := S57_26l c rounds t1 t2 t28 t29 h
theorem TS57_28 (c : CF) : (rk d57 P0 c 155 c57.snd.fst.snd).1 (L2 (S57_25 c) 1 2) [] k57 gK = L4 (S57_28 c) 1 2 28 29 := Eq.trans (block_t (id := 0) (by kernel_rfl) (TS57_26l c)) (by funext s h; kernel_rfl)
noncomputable def S57_29 (c : CF) (t1 t2 : AV) (h : Heap) : Res := opt (loadX (some 6) t2 h) fun t27 => opt2 (c 108 [t27] h) fun t28 h1 => S57_28 c t1 t2 t28 (iL 0) h1
theorem TS57_29 (c : CF) : (rk d57 P0 c 155 c57.snd).1 k57 [] k57 gK = L2 (S57_29 c) 1 2 := Eq.trans (seq_t (by kernel_rfl) (TS57_25 c) (seq_t (by kernel_rfl) (TS57_28 c) rfl)) (by funext s h; kernel_rfl)
noncomputable def F57 (c : CF) (a0 a1 : AV) (h : Heap) : Res := opt2 (box a0 h) fun t2 h1 => S57_29 c a1 t2 h1
theorem TF57 (c : CF) (a0 a1 : AV) (h : Heap) : (rk d57 P0 c 155 c57).1 k57 [] k57 gK (argsTr gl 0 [a0,a1]) h = F57 c a0 a1 h := Eq.trans (congrFun (congrFun (seq_t (by kernel_rfl) (TS57_29 c) rfl) _) _) (by kernel_rfl)
noncomputable def N57 : FnF := n2 F57
theorem N57_ok : FnOk P0 gl 57 N57 := n2_ok namesOk mixedOrders lowOk Tryz.func57 (by kernel_rfl) (by kernel_rfl) (by kernel_rfl) TF57
noncomputable def c58 : Code := codeOf Tryz.f58
noncomputable def k58 : Kt := finK P0 Tryz.f58.results.toList
def d58 : List Nat := []
noncomputable def F58 (c : CF) (a0 a1 : AV) (h : Heap) : Res := opt2 (c 118 [a0,a1] h) fun t9 h1 => opt (extractX t9 0) fun t10 => opt (extractX t9 1) fun t11 => opt (extractX t9 2) fun t12 => some ((.tup [t10,t11,t12]),h1)
theorem TF58 (c : CF) (a0 a1 : AV) (h : Heap) : (rk d58 P0 c 13 c58).1 k58 [] k58 gK (argsTr gl 0 [a0,a1]) h = F58 c a0 a1 h := by kernel_rfl
noncomputable def N58 : FnF := n2 F58
theorem N58_ok : FnOk P0 gl 58 N58 := n2_ok namesOk mixedOrders lowOk Tryz.func58 (by kernel_rfl) (by kernel_rfl) (by kernel_rfl) TF58
noncomputable def c59 : Code := codeOf Tryz.f59
noncomputable def k59 : Kt := finK P0 Tryz.f59.results.toList
def d59 : List Nat := []
noncomputable def S59_0 (c : CF) (h : Heap) : Res := some ((iL (-1)),h)
theorem TS59_0 (c : CF) : (rk d59 P0 c 19 c59.s2).1 k59 [] k59 gK = L0 (S59_0 c) := by funext s h; kernel_rfl
noncomputable def S59_2b (c : CF) (r1 : A4) (t0 t1 t7 t8 : AV) (h : Heap) : Res := opt (fastBin .lss t8 t7) fun t9 => test t9 (opt (indexAddrS 12 t0 t8 h) fun t14 => opt (loadX (some 12) t14 h) fun t15 => opt2 (callV P0 c t1 [t15] h) fun t16 h1 => test t16 (some (t8,h1)) (opt (fastBin .add t8 (iL 1)) fun t18 => r1 t0 t1 t7 t18 h1)) (S59_0 c h)
theorem TS59_2b (c : CF) (r1 : A4) : (rk d59 P0 c 19 c59.snd.fst.snd.bd.bd).1 (L4 r1 0 1 7 8) [(0,(L0 (S59_0 c)))] k59 gK = L4 (S59_2b c r1) 0 1 7 8 := by funext s h; kernel_rfl
noncomputable def S59_1l (c : CF) : Nat → A4
  | 0 => fun _ _ _ _ _ => none
  | k + 1 => S59_2b c (S59_1l c k)
theorem TS59_1l (c : CF) : (rk d59 P0 c 19 c59.snd.fst.snd.bd).1 (L0 (S59_0 c)) [(0,(L0 (S59_0 c)))] k59 gK = L4 (S59_1l c rounds) 0 1 7 8 := loop_t (by kernel_rfl) (loop_ind (A := fun m => L4 (S59_1l c m) 0 1 7 8) rfl (fun m => TS59_2b c (S59_1l c m)) rounds)
noncomputable def S59_3 (c : CF) (t0 t1 t7 t8 : AV) (h : Heap) : Res := S59_1l c rounds t0 t1 t7 t8 h
theorem TS59_3 (c : CF) : (rk d59 P0 c 19 c59.snd.fst.snd).1 (L0 (S59_0 c)) [] k59 gK = L4 (S59_3 c) 0 1 7 8 := Eq.trans (block_t (id := 0) (by kernel_rfl) (TS59_1l c)) (by funext s h; kernel_rfl)
noncomputable def S59_4 (c : CF) (t0 t1 : AV) (h : Heap) : Res := opt (lenS t0) fun t7 => S59_3 c t0 t1 t7 (iL 0) h
theorem TS59_4 (c : CF) : (rk d59 P0 c 19 c59.snd).1 k59 [] k59 gK = L2 (S59_4 c) 0 1 := Eq.trans (seq_t (by kernel_rfl) (TS59_0 c) (seq_t (by kernel_rfl) (TS59_3 c) rfl)) (by funext s h; kernel_rfl)
noncomputable def F59 (c : CF) (a0 a1 : AV) (h : Heap) : Res := S59_4 c a0 a1 h
theorem TF59 (c : CF) (a0 a1 : AV) (h : Heap) : (rk d59 P0 c 19 c59).1 k59 [] k59 gK (argsTr gl 0 [a0,a1]) h = F59 c a0 a1 h := Eq.trans (congrFun (congrFun (seq_t (by kernel_rfl) (TS59_4 c) rfl) _) _) (by kernel_rfl)
noncomputable def N59 : FnF := n2 F59
theorem N59_ok : FnOk P0 gl 59 N59 := n2_ok namesOk mixedOrders lowOk Tryz.func59 (by kernel_rfl) (by kernel_rfl) (by kernel_rfl) TF59
noncomputable def c60 : Code := codeOf Tryz.f60
noncomputable def k60 : Kt := finK P0 Tryz.f60.results.toList
def d60 : List Nat := []
noncomputable def F60 (c : CF) (a0 a1 : AV) (h : Heap) : Res := opt2 (box a0 h) fun t2 h1 => opt (fieldAddrX 0 t2) fun t4 => opt (loadX none t4 h1) fun t5 => opt (loadX none a1 h1) fun t6 => opt (fastBin .eql t5 t6) fun t7 => some (t7,h1)
theorem TF60 (c : CF) (a0 a1 : AV) (h : Heap) : (rk d60 P0 c 8 c60).1 k60 [] k60 gK (argsTr gl 0 [a0,a1]) h = F60 c a0 a1 h := by kernel_rfl
noncomputable def N60 : FnF := n2 F60
theorem N60_ok : FnOk P0 gl 60 N60 := n2_ok namesOk mixedOrders lowOk Tryz.func60 (by kernel_rfl) (by kernel_rfl) (by kernel_rfl) TF60
noncomputable def c61 : Code := codeOf Tryz.f61
noncomputable def k61 : Kt := finK P0 Tryz.f61.results.toList
def d61 : List Nat := [3,7,8,9,10,11,12,13,14,15,16]
noncomputable def F61 (c : CF) (a0 a1 a2 : AV) (h : Heap) : Res := opt2 (box a2 h) fun t5 h1 => opt (nilCheckX a0) fun t12 => opt (fieldAddrX 1 t12) fun t13 => opt (loadX none t13 h1) fun t14 => opt (fastBin .sub t14 (iL 1)) fun t15 => opt (nilCheckX a0) fun t16 => opt (fieldAddrX 1 t16) fun t17 => optH (storeX 1 t17 t15 h1) fun h2 => opt (nilCheckX a0) fun t19 => opt (fieldAddrX 1 t19) fun t20 => opt (loadX none t20 h2) fun t21 => opt (fastBin .lss t21 (iL 0)) fun t22 => test t22 (none) (opt2 (c 119 [a1] h2) fun t25 h3 => opt (extractX t25 0) fun t26 => opt (extractX t25 1) fun t27 => opt (fastBin .eql a1 (sL [110,117,109])) fun t30 => test t30 (opt (fieldAddrX 0 t5) fun t31 => opt (loadX none t31 h3) fun t32 => opt (fastBin .eql t32 (iL 1)) fun t33 => test t33 (opt (fieldAddrX 2 t5) fun t35 => opt (loadX none t35 h3) fun t36 => opt2 (c 120 [t36] h3) fun t37 h4 => test t37 (opt (fieldAddrX 1 t5) fun t40 => opt (loadX none t40 h4) fun t41 => opt (fastBin .eql t41 (iL 0)) fun t42 => test t42 (opt (fieldAddrX 3 t5) fun t45 => opt (loadX none t45 h4) fun t46 => opt (lenS t46) fun t47 => opt (fieldAddrX 4 t5) fun t48 => opt (loadX none t48 h4) fun t49 => opt (lenS t49) fun t50 => opt (fastBin .add t47 t50) fun t51 => opt (fastBin .eql t51 (iL 0)) fun t52 => some (t52,h4)) (some (fL,h4))) (some (fL,h4))) (some (fL,h3))) (none))
theorem TF61 (c : CF) (a0 a1 a2 : AV) (h : Heap) : (rk d61 P0 c 150 c61).1 k61 [] k61 gK (argsTr gl 0 [a0,a1,a2]) h = F61 c a0 a1 a2 h := by kernel_rfl
noncomputable def N61 : FnF := n3 F61
theorem N61_ok : FnOk P0 gl 61 N61 := n3_ok namesOk mixedOrders lowOk Tryz.func61 (by kernel_rfl) (by kernel_rfl) (by kernel_rfl) TF61
noncomputable def c62 : Code := codeOf Tryz.f62
noncomputable def k62 : Kt := finK P0 Tryz.f62.results.toList
def d62 : List Nat := []
noncomputable def F62 (c : CF) (a0 : AV) (h : Heap) : Res := opt (binX P0 .slice .eql 24 a0 nL) fun t4 => test t4 (some (nL,h)) (opt2 (bsliceX 1 (uL 0) 0 [] h) fun t5 h1 => opt2 (appendX 1 1 t5 a0 h1) fun t7 h2 => some (t7,h2))
theorem TF62 (c : CF) (a0 : AV) (h : Heap) : (rk d62 P0 c 8 c62).1 k62 [] k62 gK (argsTr gl 0 [a0]) h = F62 c a0 h := by kernel_rfl
noncomputable def N62 : FnF := n1 F62
theorem N62_ok : FnOk P0 gl 62 N62 := n1_ok namesOk mixedOrders lowOk Tryz.func62 (by kernel_rfl) (by kernel_rfl) (by kernel_rfl) TF62
noncomputable def c63 : Code := codeOf Tryz.f63
noncomputable def k63 : Kt := finK P0 Tryz.f63.results.toList
def d63 : List Nat := []
noncomputable def F63 (c : CF) (a0 a1 : AV) (h : Heap) : Res := opt2 (box (.agg [(iL 0),(iL 0),cL,nL,nL,(.lit .nilFunc)]) h) fun t4 h1 => opt (nilCheckX a0) fun t6 => opt (fieldAddrX 4 t6) fun t7 => opt (loadX none t7 h1) fun t8 => opt (fastBin .eql t8 (iL 0)) fun t9 => test t9 (opt (nilCheckX a0) fun t12 => opt (fieldAddrX 4 t12) fun t13 => optH (storeX 1 t13 a1 h1) fun h2 => opt (buildX [(iL 0),(iL 0),cL,nL,nL,(.lit .nilFunc)] [(0,1),(1,1),(2,1),(3,1),(4,1),(5,1)] []) fun t14 => optH (storeX 6 t4 t14 h2) fun h3 => opt (loadX (some 6) t4 h3) fun res => some (res,h3)) (opt (buildX [(iL 0),(iL 0),cL,nL,nL,(.lit .nilFunc)] [(0,1),(1,1),(2,1),(3,1),(4,1),(5,1)] []) fun t14_1 => optH (storeX 6 t4 t14_1 h1) fun h4 => opt (loadX (some 6) t4 h4) fun res_1 => some (res_1,h4))
theorem TF63 (c : CF) (a0 a1 : AV) (h : Heap) : (rk d63 P0 c 15 c63).1 k63 [] k63 gK (argsTr gl 0 [a0,a1]) h = F63 c a0 a1 h := by kernel_rfl
noncomputable def N63 : FnF := n2 F63
theorem N63_ok : FnOk P0 gl 63 N63 := n2_ok namesOk mixedOrders lowOk Tryz.func63 (by kernel_rfl) (by kernel_rfl) (by kernel_rfl) TF63
noncomputable def c64 : Code := codeOf Tryz.f64
noncomputable def k64 : Kt := finK P0 Tryz.f64.results.toList
def d64 : List Nat := []
noncomputable def F64 (c : CF) (a0 : AV) (h : Heap) : Res := opt2 (box (.agg [(iL 0),(iL 0),cL,nL,nL,(.lit .nilFunc)]) h) fun t2 h1 => opt (buildX [(iL 0),(iL 0),cL,nL,nL,(.lit .nilFunc)] [(0,1),(1,1),(2,1),(3,1),(4,1),(5,1)] [(0,(iL 1)),(2,a0)]) fun t4 => optH (storeX 6 t2 t4 h1) fun h2 => opt (loadX (some 6) t2 h2) fun res => some (res,h2)
theorem TF64 (c : CF) (a0 : AV) (h : Heap) : (rk d64 P0 c 5 c64).1 k64 [] k64 gK (argsTr gl 0 [a0]) h = F64 c a0 h := by kernel_rfl
noncomputable def N64 : FnF := n1 F64
theorem N64_ok : FnOk P0 gl 64 N64 := n1_ok namesOk mixedOrders lowOk Tryz.func64 (by kernel_rfl) (by kernel_rfl) (by kernel_rfl) TF64
noncomputable def c65 : Code := codeOf Tryz.f65
noncomputable def k65 : Kt := finK P0 Tryz.f65.results.toList
def d65 : List Nat := [11]
noncomputable def S65_0 (c : CF) (t0 t1 t2 t6 : AV) (h : Heap) : Res := opt2 (c 73 [t0,t1,t2] h) fun t39 h1 => opt (extractX t39 0) fun t40 => opt (extractX t39 1) fun t41 => opt2 (box eL h1) fun t9 h2 => optH (storeX 1 t9 t41 h2) fun h3 => opt (nilCheckX t40) fun t43 => opt (fieldAddrX 0 t43) fun t44 => opt (fieldAddrX 4 t44) fun t45 => opt (loadX none t45 h3) fun t46 => opt2 (c 124 [t46,(.fn (.func 125) [] [t9])] h3) fun t48 h4 => test t48 (opt (nilCheckX t40) fun t50 => opt (fieldAddrX 7 t50) fun t51 => opt (loadX none t51 h4) fun t52 => eqH h4 h4 (opt (loadX none t9 h4) fun t53 => eqH h4 h4 (opt (lookupX .str pL t52 t53 false h4) fun t54 => eqH h4 h4 (opt (binX P0 .ptr .eql 92 t54 pL) fun t56 => test t56 (opt2 (c 63 [t0,(iL 46)] h4) fun t58 h5 => optH (storeX 6 t6 t58 h5) fun h6 => opt (loadX (some 6) t6 h6) fun res => some (res,h6)) (none))))) (opt (loadX none t9 h4) fun t64 => opt2 (c 29 [t0,t40,t64] h4) fun t65 h7 => opt (buildX [(iL 0),(iL 0),cL,nL,nL,(.lit .nilFunc)] [(0,1),(1,1),(2,1),(3,1),(4,1),(5,1)] [(0,(iL 5)),(5,t65)]) fun t66 => optH (storeX 6 t6 t66 h7) fun h8 => opt (loadX (some 6) t6 h8) fun res_1 => some (res_1,h8))
theorem TS65_0 (c : CF) : (rk d65 P0 c 67 c65.s2).1 k65 [] k65 gK = L4 (S65_0 c) 0 1 2 6 := by funext s h; kernel_rfl
noncomputable def S65_2 (c : CF) (r1 : A5) (t0 t1 t2 t6 t7 : AV) (h : Heap) : Res := opt (nilCheckX t7) fun t15 => opt (fieldAddrX 7 t15) fun t16 => opt (loadX none t16 h) fun t17 => r1 t0 t1 t2 t6 t17 h
theorem TS65_2 (c : CF) (r1 : A5) : (rk d65 P0 c 67 c65.snd.fst.snd.bd.bd.s2).1 (L5 r1 0 1 2 6 7) [(0,(L4 (S65_0 c) 0 1 2 6))] k65 gK = L5 (S65_2 c r1) 0 1 2 6 7 := by funext s h; kernel_rfl
noncomputable def S65_3 (c : CF) (r1 : A5) (t0 t1 t2 t6 t7 t30 : AV) (h : Heap) : Res := test t30 (opt (nilCheckX t7) fun t32 => opt (fieldAddrX 1 t32) fun t33 => opt (loadX (some 6) t33 h) fun t34 => optH (storeX 6 t6 t34 h) fun h1 => opt (loadX (some 6) t6 h1) fun res => some (res,h1)) (S65_2 c r1 t0 t1 t2 t6 t7 h)
theorem TS65_3 (c : CF) (r1 : A5) : (rk d65 P0 c 67 c65.snd.fst.snd.bd.bd.snd.fst.bd.snd).1 (L5 (S65_2 c r1) 0 1 2 6 7) [(1,(L5 (S65_2 c r1) 0 1 2 6 7)),(0,(L4 (S65_0 c) 0 1 2 6))] k65 gK = L6 (S65_3 c r1) 0 1 2 6 7 30 := by funext s h; kernel_rfl
noncomputable def S65_4 (c : CF) (r1 : A5) (t0 t1 t2 t6 t7 : AV) (h : Heap) : Res := opt (nilCheckX t7) fun t19 => opt (fieldAddrX 0 t19) fun t20 => opt (loadX none t20 h) fun t21 => opt (fastBin .eql t21 t2) fun t23 => test t23 (opt (nilCheckX t7) fun t26 => opt (fieldAddrX 0 t26) fun t27 => opt (loadX none t27 h) fun t28 => opt (fastBin .neq t28 eL) fun t29 => S65_3 c r1 t0 t1 t2 t6 t7 t29 h) (S65_3 c r1 t0 t1 t2 t6 t7 fL h)
theorem TS65_4 (c : CF) (r1 : A5) : (rk d65 P0 c 67 c65.snd.fst.snd.bd.bd.snd).1 (L5 r1 0 1 2 6 7) [(0,(L4 (S65_0 c) 0 1 2 6))] k65 gK = L5 (S65_4 c r1) 0 1 2 6 7 := Eq.trans (seq_t (by kernel_rfl) (TS65_2 c r1) (block_t (id := 1) (by kernel_rfl) (seq_t (by kernel_rfl) (TS65_3 c r1) rfl))) (by funext s h; kernel_rfl)
noncomputable def S65_5b (c : CF) (r1 : A5) (t0 t1 t2 t6 t7 : AV) (h : Heap) : Res := opt (binX P0 .ptr .neq 89 t7 pL) fun t13 => test t13 (S65_4 c r1 t0 t1 t2 t6 t7 h) (S65_0 c t0 t1 t2 t6 h)
theorem TS65_5b (c : CF) (r1 : A5) : (rk d65 P0 c 67 c65.snd.fst.snd.bd.bd).1 (L5 r1 0 1 2 6 7) [(0,(L4 (S65_0 c) 0 1 2 6))] k65 gK = L5 (S65_5b c r1) 0 1 2 6 7 := Eq.trans (seq_t (by kernel_rfl) (TS65_4 c r1) rfl) (by funext s h; kernel_rfl)
noncomputable def S65_1l (c : CF) : Nat → A5
  | 0 => fun _ _ _ _ _ _ => none
  | k + 1 => S65_5b c (S65_1l c k)
theorem TS65_1l (c : CF) : (rk d65 P0 c 67 c65.snd.fst.snd.bd).1 (L4 (S65_0 c) 0 1 2 6) [(0,(L4 (S65_0 c) 0 1 2 6))] k65 gK = L5 (S65_1l c rounds) 0 1 2 6 7 := loop_t (by kernel_rfl) (loop_ind (A := fun m => L5 (S65_1l c m) 0 1 2 6 7) rfl (fun m => TS65_5b c (S65_1l c m)) rounds)
noncomputable def S65_6 (c : CF) (t0 t1 t2 t6 t7 : AV) (h : Heap) : Res := S65_1l c rounds t0 t1 t2 t6 t7 h
theorem TS65_6 (c : CF) : (rk d65 P0 c 67 c65.snd.fst.snd).1 (L4 (S65_0 c) 0 1 2 6) [] k65 gK = L5 (S65_6 c) 0 1 2 6 7 := Eq.trans (block_t (id := 0) (by kernel_rfl) (TS65_1l c)) (by funext s h; kernel_rfl)
noncomputable def S65_7 (c : CF) (t0 t1 t2 t6 : AV) (h : Heap) : Res := S65_6 c t0 t1 t2 t6 t1 h
theorem TS65_7 (c : CF) : (rk d65 P0 c 67 c65.snd).1 k65 [] k65 gK = L4 (S65_7 c) 0 1 2 6 := Eq.trans (seq_t (by kernel_rfl) (TS65_0 c) (seq_t (by kernel_rfl) (TS65_6 c) rfl)) (by funext s h; kernel_rfl)
noncomputable def F65 (c : CF) (a0 a1 a2 : AV) (h : Heap) : Res := opt2 (box (.agg [(iL 0),(iL 0),cL,nL,nL,(.lit .nilFunc)]) h) fun t6 h1 => S65_7 c a0 a1 a2 t6 h1
theorem TF65 (c : CF) (a0 a1 a2 : AV) (h : Heap) : (rk d65 P0 c 67 c65).1 k65 [] k65 gK (argsTr gl 0 [a0,a1,a2]) h = F65 c a0 a1 a2 h := Eq.trans (congrFun (congrFun (seq_t (by kernel_rfl) (TS65_7 c) rfl) _) _) (by kernel_rfl)
noncomputable def N65 : FnF := n3 F65
theorem N65_ok : FnOk P0 gl 65 N65 := n3_ok namesOk mixedOrders lowOk Tryz.func65 (by kernel_rfl) (by kernel_rfl) (by kernel_rfl) TF65
noncomputable def c66 : Code := codeOf Tryz.f66
noncomputable def k66 : Kt := finK P0 Tryz.f66.results.toList
def d66 : List Nat := []
noncomputable def F66 (c : CF) (a0 a1 a2 : AV) (h : Heap) : Res := opt2 (box a2 h) fun t5 h1 => opt (loadX (some 6) t5 h1) fun t8 => eqH h1 h1 (opt (nilCheckX a0) fun t11 => opt (fieldAddrX 8 t11) fun t12 => opt (loadX none t12 h1) fun t13 => eqH h1 h1 (opt (buildX [eL,(iL 0),(iL 0),cL,nL,nL,(.lit .nilFunc),pL,pL] [(0,1),(1,6),(7,1),(8,1)] [(0,a1),(1,t8),(2,a0),(3,t13)]) fun t14 => opt2 (box t14 h1) fun t15 h2 => some (t15,h2)))
theorem TF66 (c : CF) (a0 a1 a2 : AV) (h : Heap) : (rk d66 P0 c 16 c66).1 k66 [] k66 gK (argsTr gl 0 [a0,a1,a2]) h = F66 c a0 a1 a2 h := by kernel_rfl
noncomputable def N66 : FnF := n3 F66
theorem N66_ok : FnOk P0 gl 66 N66 := n3_ok namesOk mixedOrders lowOk Tryz.func66 (by kernel_rfl) (by kernel_rfl) (by kernel_rfl) TF66
noncomputable def c69 : Code := codeOf Tryz.f69
noncomputable def k69 : Kt := finK P0 Tryz.f69.results.toList
def d69 : List Nat := [2]
noncomputable def S69_0 (c : CF) (t0 t1 t9 t10 : AV) (h : Heap) : Res := opt (loadX (some 9) t9 h) fun t52 => opt2 (c 28 [t0,t1,t52] h) fun t53 h1 => opt2 (box (.agg [(iL 0),(iL 0),cL,nL,nL,(.lit .nilFunc)]) h1) fun t13 h2 => optH (storeX 6 t13 t53 h2) fun h3 => opt (nilCheckX t0) fun t55 => opt (fieldAddrX 3 t55) fun t56 => opt (loadX none t56 h3) fun t57 => opt (fastBin .sub t57 (iL 1)) fun t58 => opt (nilCheckX t0) fun t59 => opt (fieldAddrX 3 t59) fun t60 => optH (storeX 1 t60 t58 h3) fun h4 => opt (loadX (some 6) t13 h4) fun t61 => optH (storeX 6 t10 t61 h4) fun h5 => opt (loadX (some 6) t10 h5) fun res => some (res,h5)
theorem TS69_0 (c : CF) : (rk d69 P0 c 62 c69.s5).1 k69 [] k69 gK = L4 (S69_0 c) 0 1 9 10 := by funext s h; kernel_rfl
noncomputable def S69_2b (c : CF) (r1 : A8) (t0 t1 t3 t9 t10 t34 t35 t36 : AV) (h : Heap) : Res := opt (fastBin .lss t36 t35) fun t37 => test t37 (opt (indexAddrS 2 t34 t36 h) fun t39 => opt (loadX (some 2) t39 h) fun t40 => opt2 (box (.agg [eL,eL]) h) fun t12 h1 => optH (storeX 2 t12 t40 h1) fun h2 => opt (fieldAddrX 0 t12) fun t42 => opt (loadX none t42 h2) fun t43 => eqH h2 h2 (opt (indexAddrS 6 t3 t36 h2) fun t46 => eqH h2 h2 (opt (loadX (some 6) t46 h2) fun t47 => eqH h2 h2 (opt2 (c 66 [t1,t43,t47] h2) fun t48 h3 => opt (fastBin .add t36 (iL 1)) fun t49 => r1 t0 t48 t3 t9 t10 t34 t35 t49 h3)))) (S69_0 c t0 t1 t9 t10 h)
theorem TS69_2b (c : CF) (r1 : A8) : (rk d69 P0 c 62 c69.s4.fst.snd.bd.bd).1 (L8 r1 0 1 3 9 10 34 35 36) [(0,(L4 (S69_0 c) 0 1 9 10))] k69 gK = L8 (S69_2b c r1) 0 1 3 9 10 34 35 36 := by funext s h; kernel_rfl
noncomputable def S69_1l (c : CF) : Nat → A8
  | 0 => fun _ _ _ _ _ _ _ _ _ => none
  | k + 1 => S69_2b c (S69_1l c k)
theorem TS69_1l (c : CF) : (rk d69 P0 c 62 c69.s4.fst.snd.bd).1 (L4 (S69_0 c) 0 1 9 10) [(0,(L4 (S69_0 c) 0 1 9 10))] k69 gK = L8 (S69_1l c rounds) 0 1 3 9 10 34 35 36 := loop_t (by kernel_rfl) (loop_ind (A := fun m => L8 (S69_1l c m) 0 1 3 9 10 34 35 36) rfl (fun m => TS69_2b c (S69_1l c m)) rounds)
noncomputable def S69_3 (c : CF) (t0 t1 t3 t9 t10 t34 t35 t36 : AV) (h : Heap) : Res := S69_1l c rounds t0 t1 t3 t9 t10 t34 t35 t36 h
theorem TS69_3 (c : CF) : (rk d69 P0 c 62 c69.s4.fst.snd).1 (L4 (S69_0 c) 0 1 9 10) [] k69 gK = L8 (S69_3 c) 0 1 3 9 10 34 35 36 := Eq.trans (block_t (id := 0) (by kernel_rfl) (TS69_1l c)) (by funext s h; kernel_rfl)
noncomputable def S69_4 (c : CF) (t0 t1 t2 t3 t9 t10 : AV) (h : Heap) : Res := opt (lenS t2) fun t35 => S69_3 c t0 t1 t3 t9 t10 t2 t35 (iL 0) h
theorem TS69_4 (c : CF) : (rk d69 P0 c 62 c69.s4).1 k69 [] k69 gK = L6 (S69_4 c) 0 1 2 3 9 10 := Eq.trans (seq_t (by kernel_rfl) (TS69_0 c) (seq_t (by kernel_rfl) (TS69_3 c) rfl)) (by funext s h; kernel_rfl)
noncomputable def S69_5 (c : CF) (t0 t1 t2 t3 t9 t10 : AV) (h : Heap) : Res := opt (nilCheckX t0) fun t28 => opt (fieldAddrX 3 t28) fun t29 => opt (loadX none t29 h) fun t30 => opt (fastBin .add t30 (iL 1)) fun t31 => opt (nilCheckX t0) fun t32 => opt (fieldAddrX 3 t32) fun t33 => optH (storeX 1 t33 t31 h) fun h1 => S69_4 c t0 t1 t2 t3 t9 t10 h1
theorem TS69_5 (c : CF) : (rk d69 P0 c 62 c69.s3).1 k69 [] k69 gK = L6 (S69_5 c) 0 1 2 3 9 10 := Eq.trans (seq_t (by kernel_rfl) (TS69_4 c) rfl) (by funext s h; kernel_rfl)
noncomputable def S69_6 (c : CF) (t0 t1 t2 t3 t9 t10 : AV) (h : Heap) : Res := opt (nilCheckX t0) fun t21 => opt (fieldAddrX 3 t21) fun t22 => opt (loadX none t22 h) fun t23 => opt (fastBin .geq t23 (iL 1000)) fun t24 => test t24 (opt2 (c 63 [t0,(iL 43)] h) fun t26 h1 => optH (storeX 6 t10 t26 h1) fun h2 => opt (loadX (some 6) t10 h2) fun res => some (res,h2)) (S69_5 c t0 t1 t2 t3 t9 t10 h)
theorem TS69_6 (c : CF) : (rk d69 P0 c 62 c69.s2).1 k69 [] k69 gK = L6 (S69_6 c) 0 1 2 3 9 10 := Eq.trans (seq_t (by kernel_rfl) (TS69_5 c) rfl) (by funext s h; kernel_rfl)
noncomputable def S69_7 (c : CF) (t0 t1 t2 t3 t9 t10 : AV) (h : Heap) : Res := opt (nilCheckX t0) fun t15 => opt (fieldAddrX 4 t15) fun t16 => opt (loadX none t16 h) fun t17 => opt (fastBin .neq t17 (iL 0)) fun t18 => test t18 (none) (S69_6 c t0 t1 t2 t3 t9 t10 h)
theorem TS69_7 (c : CF) : (rk d69 P0 c 62 c69.snd).1 k69 [] k69 gK = L6 (S69_7 c) 0 1 2 3 9 10 := Eq.trans (seq_t (by kernel_rfl) (TS69_6 c) rfl) (by funext s h; kernel_rfl)
noncomputable def F69 (c : CF) (a0 a1 a2 a3 a4 : AV) (h : Heap) : Res := opt2 (box a4 h) fun t9 h1 => opt2 (box (.agg [(iL 0),(iL 0),cL,nL,nL,(.lit .nilFunc)]) h1) fun t10 h2 => S69_7 c a0 a1 a2 a3 t9 t10 h2
theorem TF69 (c : CF) (a0 a1 a2 a3 a4 : AV) (h : Heap) : (rk d69 P0 c 62 c69).1 k69 [] k69 gK (argsTr gl 0 [a0,a1,a2,a3,a4]) h = F69 c a0 a1 a2 a3 a4 h := Eq.trans (congrFun (congrFun (seq_t (by kernel_rfl) (TS69_7 c) rfl) _) _) (by kernel_rfl)
noncomputable def N69 : FnF := n5 F69
theorem N69_ok : FnOk P0 gl 69 N69 := n5_ok namesOk mixedOrders lowOk Tryz.func69 (by kernel_rfl) (by kernel_rfl) (by kernel_rfl) TF69
noncomputable def c70 : Code := codeOf Tryz.f70
noncomputable def k70 : Kt := finK P0 Tryz.f70.results.toList
def d70 : List Nat := [7]
noncomputable def S70_0 (c : CF) (t7 : AV) (h : Heap) : Res := some (t7,h)
theorem TS70_0 (c : CF) : (rk d70 P0 c 33 c70.s3).1 k70 [] k70 gK = L1 (S70_0 c) 7 := by funext s h; kernel_rfl
noncomputable def S70_2b (c : CF) (r1 : A6) (t0 t1 t7 t13 t14 t15 : AV) (h : Heap) : Res := opt (fastBin .lss t15 t14) fun t16 => test t16 (opt (indexAddrS 9 t13 t15 h) fun t17 => opt (loadX (some 9) t17 h) fun t18 => opt2 (box (.agg [(iL 0),(iL 0),eL,cL,eL,eL,nL,nL,nL]) h) fun t9 h1 => optH (storeX 9 t9 t18 h1) fun h2 => opt (loadX (some 9) t9 h2) fun t22 => opt2 (c 28 [t0,t1,t22] h2) fun t23 h3 => opt2 (bsliceX 6 (.agg [(iL 0),(iL 0),cL,nL,nL,(.lit .nilFunc)]) 1 [(0,t23)] h3) fun t24 h4 => opt2 (appendX 6 88 t7 t24 h4) fun t25 h5 => opt (nilCheckX t0) fun t27 => opt (fieldAddrX 4 t27) fun t28 => opt (loadX none t28 h5) fun t29 => opt (fastBin .neq t29 (iL 0)) fun t30 => test t30 (none) (opt (fastBin .add t15 (iL 1)) fun t31 => r1 t0 t1 t25 t13 t14 t31 h5)) (S70_0 c t7 h)
theorem TS70_2b (c : CF) (r1 : A6) : (rk d70 P0 c 33 c70.s2.fst.snd.bd.bd).1 (L6 r1 0 1 7 13 14 15) [(0,(L1 (S70_0 c) 7))] k70 gK = L6 (S70_2b c r1) 0 1 7 13 14 15 := by funext s h; kernel_rfl
noncomputable def S70_1l (c : CF) : Nat → A6
  | 0 => fun _ _ _ _ _ _ _ => none
  | k + 1 => S70_2b c (S70_1l c k)
theorem TS70_1l (c : CF) : (rk d70 P0 c 33 c70.s2.fst.snd.bd).1 (L1 (S70_0 c) 7) [(0,(L1 (S70_0 c) 7))] k70 gK = L6 (S70_1l c rounds) 0 1 7 13 14 15 := loop_t (by kernel_rfl) (loop_ind (A := fun m => L6 (S70_1l c m) 0 1 7 13 14 15) rfl (fun m => TS70_2b c (S70_1l c m)) rounds)
noncomputable def S70_3 (c : CF) (t0 t1 t7 t13 t14 t15 : AV) (h : Heap) : Res := S70_1l c rounds t0 t1 t7 t13 t14 t15 h
theorem TS70_3 (c : CF) : (rk d70 P0 c 33 c70.s2.fst.snd).1 (L1 (S70_0 c) 7) [] k70 gK = L6 (S70_3 c) 0 1 7 13 14 15 := Eq.trans (block_t (id := 0) (by kernel_rfl) (TS70_1l c)) (by funext s h; kernel_rfl)
noncomputable def S70_4 (c : CF) (t0 t1 t2 t7 : AV) (h : Heap) : Res := opt (lenS t2) fun t14 => S70_3 c t0 t1 t7 t2 t14 (iL 0) h
theorem TS70_4 (c : CF) : (rk d70 P0 c 33 c70.s2).1 k70 [] k70 gK = L4 (S70_4 c) 0 1 2 7 := Eq.trans (seq_t (by kernel_rfl) (TS70_0 c) (seq_t (by kernel_rfl) (TS70_3 c) rfl)) (by funext s h; kernel_rfl)
noncomputable def S70_5 (c : CF) (t0 t1 t2 : AV) (h : Heap) : Res := opt (lenS t2) fun t11 => opt2 (mksliceX 6 (.agg [(iL 0),(iL 0),cL,nL,nL,(.lit .nilFunc)]) 88 (iL 0) t11 h) fun t12 h1 => S70_4 c t0 t1 t2 t12 h1
theorem TS70_5 (c : CF) : (rk d70 P0 c 33 c70.snd).1 k70 [] k70 gK = L3 (S70_5 c) 0 1 2 := Eq.trans (seq_t (by kernel_rfl) (TS70_4 c) rfl) (by funext s h; kernel_rfl)
noncomputable def F70 (c : CF) (a0 a1 a2 : AV) (h : Heap) : Res := S70_5 c a0 a1 a2 h
theorem TF70 (c : CF) (a0 a1 a2 : AV) (h : Heap) : (rk d70 P0 c 33 c70).1 k70 [] k70 gK (argsTr gl 0 [a0,a1,a2]) h = F70 c a0 a1 a2 h := Eq.trans (congrFun (congrFun (seq_t (by kernel_rfl) (TS70_5 c) rfl) _) _) (by kernel_rfl)
noncomputable def N70 : FnF := n3 F70
theorem N70_ok : FnOk P0 gl 70 N70 := n3_ok namesOk mixedOrders lowOk Tryz.func70 (by kernel_rfl) (by kernel_rfl) (by kernel_rfl) TF70
noncomputable def c71 : Code := codeOf Tryz.f71
noncomputable def k71 : Kt := finK P0 Tryz.f71.results.toList
def d71 : List Nat := [3,5,7,9,10,11,16,17,18,23,29]
noncomputable def S71_0 (c : CF) (t0 t6 t130 : AV) (h : Heap) : Res := test t130 (opt2 (c 63 [t0,(iL 45)] h) fun t149 h1 => optH (storeX 6 t6 t149 h1) fun h2 => opt (loadX (some 6) t6 h2) fun res => some (res,h2)) (none)
theorem TS71_0 (c : CF) : (rk d71 P0 c 254 c71.snd.fst.snd.bd.snd.els.snd.els.snd.els.snd.els.snd.thn.snd.fst.bd.snd).1 ((rk d71 P0 c 254 c71.snd.fst.snd.bd.snd.els.snd.els.snd.els.snd.els.snd.thn.s2).1 ((rk d71 P0 c 254 c71.s2).1 k71 [] k71 gK) [(0,((rk d71 P0 c 254 c71.s2).1 k71 [] k71 gK))] k71 gK) [(1,((rk d71 P0 c 254 c71.snd.fst.snd.bd.snd.els.snd.els.snd.els.snd.els.snd.thn.s2).1 ((rk d71 P0 c 254 c71.s2).1 k71 [] k71 gK) [(0,((rk d71 P0 c 254 c71.s2).1 k71 [] k71 gK))] k71 gK)),(0,((rk d71 P0 c 254 c71.s2).1 k71 [] k71 gK))] k71 gK = L3 (S71_0 c) 0 6 130 := by funext s h; kernel_rfl
noncomputable def S71_1 (c : CF) (t0 t2 t6 t7 t8 : AV) (h : Heap) : Res := opt (notX t8) fun t132 => test t132 (S71_0 c t0 t6 tL h) (opt (indexAddrS 6 t2 (iL 0) h) fun t136 => eqH h h (opt (fieldAddrX 3 t136) fun t137 => opt (loadX none t137 h) fun t138 => eqH h h (opt (lenS t138) fun t139 => opt (indexAddrS 6 t2 (iL 0) h) fun t141 => eqH h h (opt (fieldAddrX 4 t141) fun t142 => opt (loadX none t142 h) fun t143 => eqH h h (opt (lenS t143) fun t144 => opt (fastBin .add t139 t144) fun t145 => opt (fastBin .geq t7 t145) fun t146 => S71_0 c t0 t6 t146 h)))))
theorem TS71_1 (c : CF) : (rk d71 P0 c 254 c71.snd.fst.snd.bd.snd.els.snd.els.snd.els.snd.els.snd.thn.snd).1 ((rk d71 P0 c 254 c71.s2).1 k71 [] k71 gK) [(0,((rk d71 P0 c 254 c71.s2).1 k71 [] k71 gK))] k71 gK = L5 (S71_1 c) 0 2 6 7 8 := Eq.trans (seq_t (by kernel_rfl) rfl (block_t (id := 1) (by kernel_rfl) (seq_t (by kernel_rfl) (TS71_0 c) rfl))) (by funext s h; kernel_rfl)
noncomputable def S71_2 (c : CF) (t2 t6 t9 t11 : AV) (h : Heap) : Res := opt (indexAddrS 6 t2 (iL 0) h) fun t214 => opt (fieldAddrX 3 t214) fun t215 => opt (loadX none t215 h) fun t216 => opt (cutZ 1 t216 (some t9) (some t11) (some t11) h) fun t220 => opt (buildX [(iL 0),(iL 0),cL,nL,nL,(.lit .nilFunc)] [(0,1),(1,1),(2,1),(3,1),(4,1),(5,1)] [(0,(iL 2)),(3,t220)]) fun t221 => optH (storeX 6 t6 t221 h) fun h1 => opt (loadX (some 6) t6 h1) fun res => some (res,h1)
theorem TS71_2 (c : CF) : (rk d71 P0 c 254 c71.snd.fst.snd.bd.snd.els.snd.els.snd.els.snd.els.snd.els.snd.thn.s3).1 ((rk d71 P0 c 254 c71.s2).1 k71 [] k71 gK) [(0,((rk d71 P0 c 254 c71.s2).1 k71 [] k71 gK))] k71 gK = L4 (S71_2 c) 2 6 9 11 := by funext s h; kernel_rfl
noncomputable def S71_3 (c : CF) (t2 t6 t9 t10 t11 t12 : AV) (h : Heap) : Res := opt (notX t10) fun t192 => test t192 (none) (opt (notX t12) fun t195 => test t195 (none) (opt (fastBin .gtr t9 t11) fun t200 => test t200 (none) (opt (indexAddrS 6 t2 (iL 0) h) fun t205 => opt (fieldAddrX 3 t205) fun t206 => opt (loadX none t206 h) fun t207 => opt (lenS t207) fun t208 => opt (fastBin .gtr t11 t208) fun t209 => test t209 (none) (S71_2 c t2 t6 t9 t11 h))))
theorem TS71_3 (c : CF) : (rk d71 P0 c 254 c71.snd.fst.snd.bd.snd.els.snd.els.snd.els.snd.els.snd.els.snd.thn.s2).1 ((rk d71 P0 c 254 c71.s2).1 k71 [] k71 gK) [(0,((rk d71 P0 c 254 c71.s2).1 k71 [] k71 gK))] k71 gK = L6 (S71_3 c) 2 6 9 10 11 12 := Eq.trans (seq_t (by kernel_rfl) (TS71_2 c) rfl) (by funext s h; kernel_rfl)
noncomputable def S71_4 (c : CF) (t2 t6 t9 t10 : AV) (h : Heap) : Res := opt (indexAddrS 6 t2 (iL 2) h) fun t185 => opt (fieldAddrX 2 t185) fun t186 => opt (loadX none t186 h) fun t187 => opt2 (c 131 [t187] h) fun t188 h1 => opt (extractX t188 0) fun t189 => opt (extractX t188 1) fun t190 => S71_3 c t2 t6 t9 t10 t189 t190 h1
theorem TS71_4 (c : CF) : (rk d71 P0 c 254 c71.snd.fst.snd.bd.snd.els.snd.els.snd.els.snd.els.snd.els.snd.thn.snd).1 ((rk d71 P0 c 254 c71.s2).1 k71 [] k71 gK) [(0,((rk d71 P0 c 254 c71.s2).1 k71 [] k71 gK))] k71 gK = L4 (S71_4 c) 2 6 9 10 := Eq.trans (seq_t (by kernel_rfl) (TS71_3 c) rfl) (by funext s h; kernel_rfl)
noncomputable def S71_5 (c : CF) (t2 t6 : AV) (h : Heap) : Res := opt (indexAddrS 6 t2 (iL 1) h) fun t177 => opt (fieldAddrX 2 t177) fun t178 => opt (loadX none t178 h) fun t179 => opt2 (c 131 [t179] h) fun t180 h1 => opt (extractX t180 0) fun t181 => opt (extractX t180 1) fun t182 => S71_4 c t2 t6 t181 t182 h1
theorem TS71_5 (c : CF) : (rk d71 P0 c 254 c71.snd.fst.snd.bd.snd.els.snd.els.snd.els.snd.els.snd.els.snd.thn).1 ((rk d71 P0 c 254 c71.s2).1 k71 [] k71 gK) [(0,((rk d71 P0 c 254 c71.s2).1 k71 [] k71 gK))] k71 gK = L2 (S71_5 c) 2 6 := Eq.trans (seq_t (by kernel_rfl) (TS71_4 c) rfl) (by funext s h; kernel_rfl)
noncomputable def S71_6 (c : CF) (t0 t1 t2 t6 t173 : AV) (h : Heap) : Res := test t173 (S71_5 c t2 t6 h) (opt (lenS t2) fun t223 => opt (fastBin .eql t223 (iL 2)) fun t224 => test t224 (opt (indexAddrS 6 t2 (iL 0) h) fun t228 => eqH h h (opt (fieldAddrX 2 t228) fun t229 => opt (loadX none t229 h) fun t230 => eqH h h (opt (indexAddrS 6 t2 (iL 1) h) fun t232 => eqH h h (opt (fieldAddrX 2 t232) fun t233 => opt (loadX none t233 h) fun t234 => eqH h h (opt2 (c 132 [t1,t230,t234] h) fun t235 h1 => eqH h1 h (opt (extractX t235 0) fun t236 => opt (extractX t235 1) fun t237 => opt (fastBin .neq t237 (iL 0)) fun t248 => test t248 (opt2 (c 63 [t0,t237] h) fun t251 h2 => optH (storeX 6 t6 t251 h2) fun h3 => opt (loadX (some 6) t6 h3) fun res => some (res,h3)) (opt2 (c 64 [t236] h) fun t253 h4 => optH (storeX 6 t6 t253 h4) fun h5 => opt (loadX (some 6) t6 h5) fun res_1 => some (res_1,h5)))))))) (none))
theorem TS71_6 (c : CF) : (rk d71 P0 c 254 c71.snd.fst.snd.bd.snd.els.snd.els.snd.els.snd.els.snd.els.snd).1 ((rk d71 P0 c 254 c71.s2).1 k71 [] k71 gK) [(0,((rk d71 P0 c 254 c71.s2).1 k71 [] k71 gK))] k71 gK = L5 (S71_6 c) 0 1 2 6 173 := Eq.trans (cond_t (by kernel_rfl) (TS71_5 c) rfl) (by funext s h; kernel_rfl)
noncomputable def S71_7 (c : CF) (t0 t2 t6 : AV) (h : Heap) : Res := opt (indexAddrS 6 t2 (iL 1) h) fun t124 => opt (fieldAddrX 2 t124) fun t125 => opt (loadX none t125 h) fun t126 => opt2 (c 131 [t126] h) fun t127 h1 => opt (extractX t127 0) fun t128 => opt (extractX t127 1) fun t129 => S71_1 c t0 t2 t6 t128 t129 h1
theorem TS71_7 (c : CF) : (rk d71 P0 c 254 c71.snd.fst.snd.bd.snd.els.snd.els.snd.els.snd.els.snd.thn).1 ((rk d71 P0 c 254 c71.s2).1 k71 [] k71 gK) [(0,((rk d71 P0 c 254 c71.s2).1 k71 [] k71 gK))] k71 gK = L3 (S71_7 c) 0 2 6 := Eq.trans (seq_t (by kernel_rfl) (TS71_1 c) rfl) (by funext s h; kernel_rfl)
noncomputable def S71_8 (c : CF) (t0 t1 t2 t6 t15 : AV) (h : Heap) : Res := opt (fastBin .eql t15 (sL [99,117,116])) fun t174 => S71_6 c t0 t1 t2 t6 t174 h
theorem TS71_8 (c : CF) : (rk d71 P0 c 254 c71.snd.fst.snd.bd.snd.els.snd.els.snd.els.snd.els.snd.els).1 ((rk d71 P0 c 254 c71.s2).1 k71 [] k71 gK) [(0,((rk d71 P0 c 254 c71.s2).1 k71 [] k71 gK))] k71 gK = L5 (S71_8 c) 0 1 2 6 15 := Eq.trans (seq_t (by kernel_rfl) (TS71_6 c) rfl) (by funext s h; kernel_rfl)
noncomputable def S71_9 (c : CF) (t0 t1 t2 t6 t15 t120 : AV) (h : Heap) : Res := test t120 (S71_7 c t0 t2 t6 h) (S71_8 c t0 t1 t2 t6 t15 h)
theorem TS71_9 (c : CF) : (rk d71 P0 c 254 c71.snd.fst.snd.bd.snd.els.snd.els.snd.els.snd.els.snd).1 ((rk d71 P0 c 254 c71.s2).1 k71 [] k71 gK) [(0,((rk d71 P0 c 254 c71.s2).1 k71 [] k71 gK))] k71 gK = L6 (S71_9 c) 0 1 2 6 15 120 := Eq.trans (cond_t (by kernel_rfl) (TS71_7 c) (TS71_8 c)) (by funext s h; kernel_rfl)
noncomputable def S71_10 (c : CF) (t0 t1 t2 t6 t15 : AV) (h : Heap) : Res := opt (fastBin .eql t15 (sL [97,116])) fun t121 => S71_9 c t0 t1 t2 t6 t15 t121 h
theorem TS71_10 (c : CF) : (rk d71 P0 c 254 c71.snd.fst.snd.bd.snd.els.snd.els.snd.els.snd.els).1 ((rk d71 P0 c 254 c71.s2).1 k71 [] k71 gK) [(0,((rk d71 P0 c 254 c71.s2).1 k71 [] k71 gK))] k71 gK = L5 (S71_10 c) 0 1 2 6 15 := Eq.trans (seq_t (by kernel_rfl) (TS71_9 c) rfl) (by funext s h; kernel_rfl)
noncomputable def S71_11 (c : CF) (t0 t1 t2 t6 t15 t67 : AV) (h : Heap) : Res := test t67 (none) (S71_10 c t0 t1 t2 t6 t15 h)
theorem TS71_11 (c : CF) : (rk d71 P0 c 254 c71.snd.fst.snd.bd.snd.els.snd.els.snd.els.snd).1 ((rk d71 P0 c 254 c71.s2).1 k71 [] k71 gK) [(0,((rk d71 P0 c 254 c71.s2).1 k71 [] k71 gK))] k71 gK = L6 (S71_11 c) 0 1 2 6 15 67 := Eq.trans (cond_t (by kernel_rfl) rfl (TS71_10 c)) (by funext s h; kernel_rfl)
noncomputable def S71_12 (c : CF) (t0 t1 t2 t6 t15 : AV) (h : Heap) : Res := opt (fastBin .eql t15 (sL [99,97,116])) fun t68 => S71_11 c t0 t1 t2 t6 t15 t68 h
theorem TS71_12 (c : CF) : (rk d71 P0 c 254 c71.snd.fst.snd.bd.snd.els.snd.els.snd.els).1 ((rk d71 P0 c 254 c71.s2).1 k71 [] k71 gK) [(0,((rk d71 P0 c 254 c71.s2).1 k71 [] k71 gK))] k71 gK = L5 (S71_12 c) 0 1 2 6 15 := Eq.trans (seq_t (by kernel_rfl) (TS71_11 c) rfl) (by funext s h; kernel_rfl)
noncomputable def S71_13 (c : CF) (t0 t1 t2 t6 t15 t51 : AV) (h : Heap) : Res := test t51 (none) (S71_12 c t0 t1 t2 t6 t15 h)
theorem TS71_13 (c : CF) : (rk d71 P0 c 254 c71.snd.fst.snd.bd.snd.els.snd.els.snd).1 ((rk d71 P0 c 254 c71.s2).1 k71 [] k71 gK) [(0,((rk d71 P0 c 254 c71.s2).1 k71 [] k71 gK))] k71 gK = L6 (S71_13 c) 0 1 2 6 15 51 := Eq.trans (cond_t (by kernel_rfl) rfl (TS71_12 c)) (by funext s h; kernel_rfl)
noncomputable def S71_14 (c : CF) (t0 t1 t2 t6 t15 : AV) (h : Heap) : Res := opt (fastBin .eql t15 (sL [108,101,110])) fun t52 => S71_13 c t0 t1 t2 t6 t15 t52 h
theorem TS71_14 (c : CF) : (rk d71 P0 c 254 c71.snd.fst.snd.bd.snd.els.snd.els).1 ((rk d71 P0 c 254 c71.s2).1 k71 [] k71 gK) [(0,((rk d71 P0 c 254 c71.s2).1 k71 [] k71 gK))] k71 gK = L5 (S71_14 c) 0 1 2 6 15 := Eq.trans (seq_t (by kernel_rfl) (TS71_13 c) rfl) (by funext s h; kernel_rfl)
noncomputable def S71_15 (c : CF) (t0 t1 t2 t6 t15 t39 : AV) (h : Heap) : Res := test t39 (none) (S71_14 c t0 t1 t2 t6 t15 h)
theorem TS71_15 (c : CF) : (rk d71 P0 c 254 c71.snd.fst.snd.bd.snd.els.snd).1 ((rk d71 P0 c 254 c71.s2).1 k71 [] k71 gK) [(0,((rk d71 P0 c 254 c71.s2).1 k71 [] k71 gK))] k71 gK = L6 (S71_15 c) 0 1 2 6 15 39 := Eq.trans (cond_t (by kernel_rfl) rfl (TS71_14 c)) (by funext s h; kernel_rfl)
noncomputable def S71_16 (c : CF) (t0 t1 t2 t6 t15 : AV) (h : Heap) : Res := opt (fastBin .eql t15 (sL [108,116])) fun t40 => S71_15 c t0 t1 t2 t6 t15 t40 h
theorem TS71_16 (c : CF) : (rk d71 P0 c 254 c71.snd.fst.snd.bd.snd.els).1 ((rk d71 P0 c 254 c71.s2).1 k71 [] k71 gK) [(0,((rk d71 P0 c 254 c71.s2).1 k71 [] k71 gK))] k71 gK = L5 (S71_16 c) 0 1 2 6 15 := Eq.trans (seq_t (by kernel_rfl) (TS71_15 c) rfl) (by funext s h; kernel_rfl)
noncomputable def S71_17 (c : CF) (t0 t1 t2 t6 t15 t16 : AV) (h : Heap) : Res := test t16 (none) (S71_16 c t0 t1 t2 t6 t15 h)
theorem TS71_17 (c : CF) : (rk d71 P0 c 254 c71.snd.fst.snd.bd.snd).1 ((rk d71 P0 c 254 c71.s2).1 k71 [] k71 gK) [(0,((rk d71 P0 c 254 c71.s2).1 k71 [] k71 gK))] k71 gK = L6 (S71_17 c) 0 1 2 6 15 16 := Eq.trans (cond_t (by kernel_rfl) rfl (TS71_16 c)) (by funext s h; kernel_rfl)
noncomputable def S71_18 (c : CF) (t0 t1 t2 t6 t15 : AV) (h : Heap) : Res := opt (fastBin .eql t15 (sL [101,113])) fun t17 => S71_17 c t0 t1 t2 t6 t15 t17 h
theorem TS71_18 (c : CF) : (rk d71 P0 c 254 c71.snd.fst.snd).1 ((rk d71 P0 c 254 c71.s2).1 k71 [] k71 gK) [] k71 gK = L5 (S71_18 c) 0 1 2 6 15 := Eq.trans (block_t (id := 0) (by kernel_rfl) (seq_t (by kernel_rfl) (TS71_17 c) rfl)) (by funext s h; kernel_rfl)
noncomputable def S71_19 (c : CF) (t0 t1 t2 t6 : AV) (h : Heap) : Res := S71_18 c t0 t1 t2 t6 t1 h
theorem TS71_19 (c : CF) : (rk d71 P0 c 254 c71.snd).1 k71 [] k71 gK = L4 (S71_19 c) 0 1 2 6 := Eq.trans (seq_t (by kernel_rfl) rfl (seq_t (by kernel_rfl) (TS71_18 c) rfl)) (by funext s h; kernel_rfl)
noncomputable def F71 (c : CF) (a0 a1 a2 : AV) (h : Heap) : Res := opt2 (box (.agg [(iL 0),(iL 0),cL,nL,nL,(.lit .nilFunc)]) h) fun t6 h1 => S71_19 c a0 a1 a2 t6 h1
theorem TF71 (c : CF) (a0 a1 a2 : AV) (h : Heap) : (rk d71 P0 c 254 c71).1 k71 [] k71 gK (argsTr gl 0 [a0,a1,a2]) h = F71 c a0 a1 a2 h := Eq.trans (congrFun (congrFun (seq_t (by kernel_rfl) (TS71_19 c) rfl) _) _) (by kernel_rfl)
noncomputable def N71 : FnF := n3 F71
theorem N71_ok : FnOk P0 gl 71 N71 := n3_ok namesOk mixedOrders lowOk Tryz.func71 (by kernel_rfl) (by kernel_rfl) (by kernel_rfl) TF71
noncomputable def c72 : Code := codeOf Tryz.f72
noncomputable def k72 : Kt := finK P0 Tryz.f72.results.toList
def d72 : List Nat := [3]
noncomputable def F72 (c : CF) (a0 a1 : AV) (h : Heap) : Res := opt2 (box (.agg [eL,nL]) h) fun t6 h1 => opt (nilCheckX a0) fun t12 => opt (fieldAddrX 1 t12) fun t13 => opt (loadX none t13 h1) fun t14 => opt (lookupX .str (.agg [eL,(iL 0),eL,nL]) t14 a1 true h1) fun t16 => opt (extractX t16 0) fun t17 => opt (extractX t16 1) fun t18 => opt2 (box (.agg [eL,(iL 0),eL,nL]) h1) fun t8 h2 => optH (storeX 4 t8 t17 h2) fun h3 => opt (notX t18) fun t20 => test t20 (none) (opt (fieldAddrX 0 t8) fun t22 => opt (loadX none t22 h3) fun t23 => eqH h3 h3 (opt (fieldAddrX 1 t8) fun t24 => opt (loadX none t24 h3) fun t25 => eqH h3 h3 (opt (fieldAddrX 2 t8) fun t26 => opt (loadX (some 2) t26 h3) fun t27 => eqH h3 h3 (opt2 (bsliceX 2 (.agg [eL,nL]) 1 [(0,t27)] h3) fun t28 h4 => opt (loadX none t24 h4) fun t25_1 => eqK t25_1 t25 (eqH h4 h4 (opt (loadX none t22 h4) fun t23_1 => eqK t23_1 t23 (eqH h4 h4 (opt2 (c 134 [t28] h4) fun t29 h5 => opt (loadX none t24 h5) fun t25_2 => eqK t25_2 t25 (eqH h5 h5 (opt (loadX none t22 h5) fun t23_2 => eqK t23_2 t23 (eqH h5 h5 (opt (indexAddrS 2 t29 (iL 0) h5) fun t30 => eqH h5 h5 (opt (loadX (some 2) t30 h5) fun t31 => eqH h5 h5 (optH (storeX 2 t6 t31 h5) fun h6 => opt (loadX (some 2) t6 h6) fun res => some ((.tup [t23,t25,res,tL]),h6)))))))))))))))
theorem TF72 (c : CF) (a0 a1 : AV) (h : Heap) : (rk d72 P0 c 32 c72).1 k72 [] k72 gK (argsTr gl 0 [a0,a1]) h = F72 c a0 a1 h := by kernel_rfl
noncomputable def N72 : FnF := n2 F72
theorem N72_ok : FnOk P0 gl 72 N72 := n2_ok namesOk mixedOrders lowOk Tryz.func72 (by kernel_rfl) (by kernel_rfl) (by kernel_rfl) TF72
noncomputable def c73 : Code := codeOf Tryz.f73
noncomputable def k73 : Kt := finK P0 Tryz.f73.results.toList
def d73 : List Nat := [4]
noncomputable def F73 (c : CF) (a0 a1 a2 : AV) (h : Heap) : Res := opt2 (c 58 [a2,(sL [46])] h) fun t13 h1 => opt (extractX t13 0) fun t14 => opt (extractX t13 1) fun t15 => opt (extractX t13 2) fun t16 => opt (notX t16) fun t18 => test t18 (opt (nilCheckX a1) fun t20 => opt (fieldAddrX 8 t20) fun t21 => opt (loadX none t21 h1) fun t22 => some ((.tup [t22,a2]),h1)) (none)
theorem TF73 (c : CF) (a0 a1 a2 : AV) (h : Heap) : (rk d73 P0 c 31 c73).1 k73 [] k73 gK (argsTr gl 0 [a0,a1,a2]) h = F73 c a0 a1 a2 h := by kernel_rfl
noncomputable def N73 : FnF := n3 F73
theorem N73_ok : FnOk P0 gl 73 N73 := n3_ok namesOk mixedOrders lowOk Tryz.func73 (by kernel_rfl) (by kernel_rfl) (by kernel_rfl) TF73
noncomputable def c74 : Code := codeOf Tryz.f74
noncomputable def k74 : Kt := finK P0 Tryz.f74.results.toList
def d74 : List Nat := []
noncomputable def F74 (c : CF) (a0 a1 : AV) (h : Heap) : Res := opt2 (box a0 h) fun t2 h1 => opt (fieldAddrX 0 t2) fun t4 => opt (loadX none t4 h1) fun t5 => opt (loadX none a1 h1) fun t6 => opt (fastBin .eql t5 t6) fun t7 => some (t7,h1)
theorem TF74 (c : CF) (a0 a1 : AV) (h : Heap) : (rk d74 P0 c 8 c74).1 k74 [] k74 gK (argsTr gl 0 [a0,a1]) h = F74 c a0 a1 h := by kernel_rfl
noncomputable def N74 : FnF := n2 F74
theorem N74_ok : FnOk P0 gl 74 N74 := n2_ok namesOk mixedOrders lowOk Tryz.func74 (by kernel_rfl) (by kernel_rfl) (by kernel_rfl) TF74
noncomputable def c75 : Code := codeOf Tryz.f75
noncomputable def k75 : Kt := finK P0 Tryz.f75.results.toList
def d75 : List Nat := []
noncomputable def F75 (c : CF) (a0 a1 a2 a3 : AV) (h : Heap) : Res := opt2 (box (.agg [(iL 0),(iL 0),cL,nL,nL,(.lit .nilFunc)]) h) fun t5 h1 => opt (loadX none a1 h1) fun t6 => opt (loadX none a2 h1) fun t7 => opt (buildX [eL,(iL 0),(iL 0),cL,nL,nL,(.lit .nilFunc),pL,pL] [(0,1),(1,6),(7,1),(8,1)] [(3,t7)]) fun t8 => opt2 (box t8 h1) fun t9 h2 => opt (fieldAddrX 1 a3) fun t10 => opt (loadX none t10 h2) fun t11 => opt (fieldAddrX 3 a3) fun t13 => opt (loadX (some 9) t13 h2) fun t14 => opt2 (c 69 [t6,t9,t11,a0,t14] h2) fun t15 h3 => optH (storeX 6 t5 t15 h3) fun h4 => opt (loadX (some 6) t5 h4) fun res => some (res,h4)
theorem TF75 (c : CF) (a0 a1 a2 a3 : AV) (h : Heap) : (rk d75 P0 c 16 c75).1 k75 [] k75 gK (argsTr gl 0 [a0,a1,a2,a3]) h = F75 c a0 a1 a2 a3 h := by kernel_rfl
noncomputable def N75 : FnF := n4 F75
theorem N75_ok : FnOk P0 gl 75 N75 := n4_ok namesOk mixedOrders lowOk Tryz.func75 (by kernel_rfl) (by kernel_rfl) (by kernel_rfl) TF75
noncomputable def c76 : Code := codeOf Tryz.f76
noncomputable def k76 : Kt := finK P0 Tryz.f76.results.toList
def d76 : List Nat := [3,5,11,16,19,22]
noncomputable def S76_0 (c : CF) (t2 t5 t8 : AV) (h : Heap) : Res := opt (fastBin .gtr t8 (iL 0)) fun t85 => test t85 (none) (opt2 (c 136 [t5] h) fun t91 h1 => opt (extractX t91 0) fun t92 => opt (extractX t91 1) fun t93 => opt2 (box (.agg [(iL 0),(iL 0),eL,nL]) h1) fun t10 h2 => optH (storeX 4 t10 t92 h2) fun h3 => opt (loadX (some 4) t10 h3) fun t94 => optH (storeX 4 t2 t94 h3) fun h4 => opt (loadX (some 4) t2 h4) fun res => some ((.tup [res,(iL 0),(iL 0)]),h4))
theorem TS76_0 (c : CF) : (rk d76 P0 c 95 c76.s6).1 k76 [] k76 gK = L3 (S76_0 c) 2 5 8 := by funext s h; kernel_rfl
noncomputable def S76_2 (c : CF) (r1 : A4) (t2 t5 t8 t9 : AV) (h : Heap) : Res := opt (fastBin .add t9 (iL 1)) fun t34 => r1 t2 t5 t8 t34 h
theorem TS76_2 (c : CF) (r1 : A4) : (rk d76 P0 c 95 c76.s5.fst.snd.bd.bd.s2).1 (L4 r1 2 5 8 9) [(0,(L3 (S76_0 c) 2 5 8))] k76 gK = L4 (S76_2 c r1) 2 5 8 9 := by funext s h; kernel_rfl
noncomputable def S76_3 (c : CF) (r1 : A4) (t2 t5 t8 t9 : AV) (h : Heap) : Res := opt (indexAddrS 3 t5 t9 h) fun t57 => opt (fieldAddrX 0 t57) fun t58 => opt (loadX none t58 h) fun t59 => opt (fastBin .eql t59 (iL 1)) fun t61 => test t61 (opt (fastBin .add t8 (iL 1)) fun t63 => opt (fastBin .gtr t63 (iL 40)) fun t65 => test t65 (none) (S76_2 c r1 t2 t5 t63 t9 h)) (opt (fastBin .eql t59 (iL 2)) fun t73 => test t73 (opt (fastBin .eql t8 (iL 0)) fun t75 => test t75 (none) (opt (fastBin .sub t8 (iL 1)) fun t83 => S76_2 c r1 t2 t5 t83 t9 h)) (S76_2 c r1 t2 t5 t8 t9 h))
theorem TS76_3 (c : CF) (r1 : A4) : (rk d76 P0 c 95 c76.s5.fst.snd.bd.bd.snd.fst.bd.snd).1 (L4 (S76_2 c r1) 2 5 8 9) [(1,(L4 (S76_2 c r1) 2 5 8 9)),(0,(L3 (S76_0 c) 2 5 8))] k76 gK = L4 (S76_3 c r1) 2 5 8 9 := by funext s h; kernel_rfl
noncomputable def S76_4 (c : CF) (r1 : A4) (t2 t5 t8 t9 : AV) (h : Heap) : Res := opt (fastBin .gtr t9 (iL 0)) fun t36 => test t36 (opt (fastBin .eql t8 (iL 0)) fun t39 => test t39 (opt (indexAddrS 3 t5 t9 h) fun t44 => opt (fieldAddrX 0 t44) fun t45 => opt (loadX none t45 h) fun t46 => opt (fastBin .neq t46 (iL 2)) fun t47 => test t47 (none) (S76_3 c r1 t2 t5 t8 t9 h)) (S76_3 c r1 t2 t5 t8 t9 h)) (S76_3 c r1 t2 t5 t8 t9 h)
theorem TS76_4 (c : CF) (r1 : A4) : (rk d76 P0 c 95 c76.s5.fst.snd.bd.bd.snd).1 (L4 r1 2 5 8 9) [(0,(L3 (S76_0 c) 2 5 8))] k76 gK = L4 (S76_4 c r1) 2 5 8 9 := Eq.trans (seq_t (by kernel_rfl) (TS76_2 c r1) (block_t (id := 1) (by kernel_rfl) (seq_t (by kernel_rfl) (TS76_3 c r1) rfl))) (by funext s h; kernel_rfl)
noncomputable def S76_5b (c : CF) (r1 : A4) (t2 t5 t8 t9 : AV) (h : Heap) : Res := opt (lenS t5) fun t31 => opt (fastBin .lss t9 t31) fun t32 => test t32 (S76_4 c r1 t2 t5 t8 t9 h) (S76_0 c t2 t5 t8 h)
theorem TS76_5b (c : CF) (r1 : A4) : (rk d76 P0 c 95 c76.s5.fst.snd.bd.bd).1 (L4 r1 2 5 8 9) [(0,(L3 (S76_0 c) 2 5 8))] k76 gK = L4 (S76_5b c r1) 2 5 8 9 := Eq.trans (seq_t (by kernel_rfl) (TS76_4 c r1) rfl) (by funext s h; kernel_rfl)
noncomputable def S76_1l (c : CF) : Nat → A4
  | 0 => fun _ _ _ _ _ => none
  | k + 1 => S76_5b c (S76_1l c k)
theorem TS76_1l (c : CF) : (rk d76 P0 c 95 c76.s5.fst.snd.bd).1 (L3 (S76_0 c) 2 5 8) [(0,(L3 (S76_0 c) 2 5 8))] k76 gK = L4 (S76_1l c rounds) 2 5 8 9 := loop_t (by kernel_rfl) (loop_ind (A := fun m => L4 (S76_1l c m) 2 5 8 9) rfl (fun m => TS76_5b c (S76_1l c m)) rounds)
noncomputable def S76_6 (c : CF) (t2 t5 t8 t9 : AV) (h : Heap) : Res := S76_1l c rounds t2 t5 t8 t9 h
theorem TS76_6 (c : CF) : (rk d76 P0 c 95 c76.s5.fst.snd).1 (L3 (S76_0 c) 2 5 8) [] k76 gK = L4 (S76_6 c) 2 5 8 9 := Eq.trans (block_t (id := 0) (by kernel_rfl) (TS76_1l c)) (by funext s h; kernel_rfl)
noncomputable def S76_7 (c : CF) (t2 t5 t8 : AV) (h : Heap) : Res := S76_6 c t2 t5 t8 (iL 0) h
theorem TS76_7 (c : CF) : (rk d76 P0 c 95 c76.s5).1 k76 [] k76 gK = L3 (S76_7 c) 2 5 8 := Eq.trans (seq_t (by kernel_rfl) (TS76_0 c) (seq_t (by kernel_rfl) (TS76_6 c) rfl)) (by funext s h; kernel_rfl)
noncomputable def S76_8 (c : CF) (t2 t5 : AV) (h : Heap) : Res := S76_7 c t2 t5 (iL 0) h
theorem TS76_8 (c : CF) : (rk d76 P0 c 95 c76.s4).1 k76 [] k76 gK = L2 (S76_8 c) 2 5 := Eq.trans (seq_t (by kernel_rfl) (TS76_7 c) rfl) (by funext s h; kernel_rfl)
noncomputable def S76_9 (c : CF) (t2 t5 : AV) (h : Heap) : Res := opt (lenS t5) fun t24 => opt (fastBin .eql t24 (iL 0)) fun t25 => test t25 (none) (S76_8 c t2 t5 h)
theorem TS76_9 (c : CF) : (rk d76 P0 c 95 c76.s3).1 k76 [] k76 gK = L2 (S76_9 c) 2 5 := Eq.trans (seq_t (by kernel_rfl) (TS76_8 c) rfl) (by funext s h; kernel_rfl)
noncomputable def S76_10 (c : CF) (t2 t5 t6 : AV) (h : Heap) : Res := opt (fastBin .neq t6 (iL 0)) fun t19 => test t19 (none) (S76_9 c t2 t5 h)
theorem TS76_10 (c : CF) : (rk d76 P0 c 95 c76.s2).1 k76 [] k76 gK = L3 (S76_10 c) 2 5 6 := Eq.trans (seq_t (by kernel_rfl) (TS76_9 c) rfl) (by funext s h; kernel_rfl)
noncomputable def S76_11 (c : CF) (t0 t2 : AV) (h : Heap) : Res := opt2 (c 135 [t0] h) fun t14 h1 => opt (extractX t14 0) fun t15 => opt (extractX t14 1) fun t16 => opt (extractX t14 2) fun t17 => S76_10 c t2 t15 t16 h1
theorem TS76_11 (c : CF) : (rk d76 P0 c 95 c76.snd).1 k76 [] k76 gK = L2 (S76_11 c) 0 2 := Eq.trans (seq_t (by kernel_rfl) (TS76_10 c) rfl) (by funext s h; kernel_rfl)
noncomputable def F76 (c : CF) (a0 : AV) (h : Heap) : Res := opt2 (box (.agg [(iL 0),(iL 0),eL,nL]) h) fun t2 h1 => S76_11 c a0 t2 h1
theorem TF76 (c : CF) (a0 : AV) (h : Heap) : (rk d76 P0 c 95 c76).1 k76 [] k76 gK (argsTr gl 0 [a0]) h = F76 c a0 h := Eq.trans (congrFun (congrFun (seq_t (by kernel_rfl) (TS76_11 c) rfl) _) _) (by kernel_rfl)
noncomputable def N76 : FnF := n1 F76
theorem N76_ok : FnOk P0 gl 76 N76 := n1_ok namesOk mixedOrders lowOk Tryz.func76 (by kernel_rfl) (by kernel_rfl) (by kernel_rfl) TF76
noncomputable def c77 : Code := codeOf Tryz.f77
noncomputable def k77 : Kt := finK P0 Tryz.f77.results.toList
def d77 : List Nat := []
noncomputable def F77 (c : CF) (a0 : AV) (h : Heap) : Res := opt2 (box a0 h) fun t1 h1 => opt (fieldAddrX 0 t1) fun t3 => opt (loadX none t3 h1) fun t4 => opt (fastBin .eql t4 (iL 1)) fun t5 => some (t5,h1)
theorem TF77 (c : CF) (a0 : AV) (h : Heap) : (rk d77 P0 c 6 c77).1 k77 [] k77 gK (argsTr gl 0 [a0]) h = F77 c a0 h := by kernel_rfl
noncomputable def N77 : FnF := n1 F77
theorem N77_ok : FnOk P0 gl 77 N77 := n1_ok namesOk mixedOrders lowOk Tryz.func77 (by kernel_rfl) (by kernel_rfl) (by kernel_rfl) TF77
noncomputable def c78 : Code := codeOf Tryz.f78
noncomputable def k78 : Kt := finK P0 Tryz.f78.results.toList
def d78 : List Nat := []
noncomputable def F78 (c : CF) (a0 : AV) (h : Heap) : Res := opt2 (box a0 h) fun t1 h1 => opt (fieldAddrX 0 t1) fun t3 => opt (loadX none t3 h1) fun t4 => opt (fastBin .eql t4 (iL 3)) fun t5 => some (t5,h1)
theorem TF78 (c : CF) (a0 : AV) (h : Heap) : (rk d78 P0 c 6 c78).1 k78 [] k78 gK (argsTr gl 0 [a0]) h = F78 c a0 h := by kernel_rfl
noncomputable def N78 : FnF := n1 F78
theorem N78_ok : FnOk P0 gl 78 N78 := n1_ok namesOk mixedOrders lowOk Tryz.func78 (by kernel_rfl) (by kernel_rfl) (by kernel_rfl) TF78
noncomputable def c79 : Code := codeOf Tryz.f79
noncomputable def k79 : Kt := finK P0 Tryz.f79.results.toList
def d79 : List Nat := []
noncomputable def F79 (c : CF) (a0 : AV) (h : Heap) : Res := opt2 (c 137 [a0] h) fun t4 h1 => test t4 (opt2 (c 138 [a0] h1) fun t7 h2 => opt (notX t7) fun t8 => some (t8,h2)) (some (fL,h1))
theorem TF79 (c : CF) (a0 : AV) (h : Heap) : (rk d79 P0 c 10 c79).1 k79 [] k79 gK (argsTr gl 0 [a0]) h = F79 c a0 h := by kernel_rfl
noncomputable def N79 : FnF := n1 F79
theorem N79_ok : FnOk P0 gl 79 N79 := n1_ok namesOk mixedOrders lowOk Tryz.func79 (by kernel_rfl) (by kernel_rfl) (by kernel_rfl) TF79
end Go.Proofs.YtomjidlkaocmkaaGreat
