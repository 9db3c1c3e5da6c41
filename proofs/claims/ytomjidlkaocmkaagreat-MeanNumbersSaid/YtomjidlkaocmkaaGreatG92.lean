import Derived.Test.YtomjidlkaocmkaaGreatG91
namespace Go.Proofs.YtomjidlkaocmkaaGreat
open Go.Am
set_option maxRecDepth 100000
set_option linter.unusedSimpArgs false
set_option linter.unusedVariables false
noncomputable def c81 : Code := codeOf Tryz.f81
noncomputable def k81 : Kt := finK P0 Tryz.f81.results.toList
def d81 : List Nat := [2,8,11,18,27,35,37,5]
noncomputable def S81_1b (c : CF) (r0 : A6) (t0 t1 t5 t6 t7 t8 : AV) (h : Heap) : Res := opt (fastBin .lss t8 t6) fun t76 => test t76 (opt (nilCheckX t1) fun t81 => opt (fieldAddrX 1 t81) fun t82 => opt (loadX none t82 h) fun t83 => eqH h h (opt (fieldAddrX 3 t5) fun t86 => opt (loadX none t86 h) fun t87 => eqH h h (opt (indexAddrS 4 t87 t8 h) fun t89 => eqH h h (opt (loadX (some 4) t89 h) fun t90 => eqH h h (opt2 (c 140 [t0,t90] h) fun t91 h1 => opt (loadX none t82 h1) fun t83_1 => eqK t83_1 t83 (eqH h1 h1 (opt (buildX [eL,eL] [(0,1),(1,1)] [(0,t7),(1,t91)]) fun t92 => opt2 (bsliceX 2 (.agg [eL,eL]) 1 [(0,t92)] h1) fun t93 h2 => eqH h2 h1 (opt2 (appendX 2 32 t83 t93 h1) fun t94 h3 => opt (nilCheckX t1) fun t95 => opt (fieldAddrX 1 t95) fun t96 => optH (storeX 1 t96 t94 h3) fun h4 => opt (fastBin .add t8 (iL 1)) fun t78 => r0 t0 t1 t5 t6 t7 t78 h4)))))))) (some ((.lit (.tuple #[])),h))
theorem TS81_1b (c : CF) (r0 : A6) : (rk d81 P0 c 264 c81.s4.bd.snd.thn.s4.bd.bd).1 (L6 r0 0 1 5 6 7 8) [(1,k81),(0,k81)] k81 gK = L6 (S81_1b c r0) 0 1 5 6 7 8 := by funext s h; kernel_rfl
noncomputable def S81_0l (c : CF) : Nat → A6
  | 0 => fun _ _ _ _ _ _ _ => none
  | k + 1 => S81_1b c (S81_0l c k)
theorem TS81_0l (c : CF) : (rk d81 P0 c 264 c81.s4.bd.snd.thn.s4.bd).1 k81 [(1,k81),(0,k81)] k81 gK = L6 (S81_0l c rounds) 0 1 5 6 7 8 := loop_t (by kernel_rfl) (loop_ind (A := fun m => L6 (S81_0l c m) 0 1 5 6 7 8) rfl (fun m => TS81_1b c (S81_0l c m)) rounds)
noncomputable def S81_2 (c : CF) (t0 t1 t5 t6 t7 t8 : AV) (h : Heap) : Res := S81_0l c rounds t0 t1 t5 t6 t7 t8 h
theorem TS81_2 (c : CF) : (rk d81 P0 c 264 c81.s4.bd.snd.thn.s4).1 k81 [(0,k81)] k81 gK = L6 (S81_2 c) 0 1 5 6 7 8 := Eq.trans (block_t (id := 1) (by kernel_rfl) (TS81_0l c)) (by funext s h; kernel_rfl)
noncomputable def S81_3 (c : CF) (t0 t1 t5 t6 t7 : AV) (h : Heap) : Res := S81_2 c t0 t1 t5 t6 t7 (iL 2) h
theorem TS81_3 (c : CF) : (rk d81 P0 c 264 c81.s4.bd.snd.thn.s3).1 k81 [(0,k81)] k81 gK = L5 (S81_3 c) 0 1 5 6 7 := Eq.trans (seq_t (by kernel_rfl) (TS81_2 c) rfl) (by funext s h; kernel_rfl)
noncomputable def S81_4 (c : CF) (t0 t1 t5 t6 t7 : AV) (h : Heap) : Res := opt2 (c 79 [t7] h) fun t65 h1 => opt (notX t65) fun t66 => test t66 (none) (S81_3 c t0 t1 t5 t6 t7 h1)
theorem TS81_4 (c : CF) : (rk d81 P0 c 264 c81.s4.bd.snd.thn.s2).1 k81 [(0,k81)] k81 gK = L5 (S81_4 c) 0 1 5 6 7 := Eq.trans (seq_t (by kernel_rfl) (TS81_3 c) rfl) (by funext s h; kernel_rfl)
noncomputable def S81_5 (c : CF) (t0 t1 t5 t6 : AV) (h : Heap) : Res := opt (fieldAddrX 3 t5) fun t59 => opt (loadX none t59 h) fun t60 => opt (indexAddrS 4 t60 (iL 1) h) fun t61 => opt (fieldAddrX 2 t61) fun t62 => opt (loadX none t62 h) fun t63 => S81_4 c t0 t1 t5 t6 t63 h
theorem TS81_5 (c : CF) : (rk d81 P0 c 264 c81.s4.bd.snd.thn.snd).1 k81 [(0,k81)] k81 gK = L4 (S81_5 c) 0 1 5 6 := Eq.trans (seq_t (by kernel_rfl) (TS81_4 c) rfl) (by funext s h; kernel_rfl)
noncomputable def S81_7b (c : CF) (r6 : A5) (t0 t1 t5 t6 t9 : AV) (h : Heap) : Res := opt (fastBin .lss t9 t6) fun t109 => test t109 (opt (nilCheckX t1) fun t114 => opt (fieldAddrX 2 t114) fun t115 => opt (loadX none t115 h) fun t116 => eqH h h (opt (fieldAddrX 3 t5) fun t118 => opt (loadX none t118 h) fun t119 => eqH h h (opt (indexAddrS 4 t119 t9 h) fun t121 => eqH h h (opt (loadX (some 4) t121 h) fun t122 => eqH h h (opt2 (c 140 [t0,t122] h) fun t123 h1 => opt (loadX none t115 h1) fun t116_1 => eqK t116_1 t116 (eqH h1 h1 (opt2 (bsliceX 1 eL 1 [(0,t123)] h1) fun t124 h2 => eqH h2 h1 (opt2 (appendX 1 16 t116 t124 h1) fun t125 h3 => opt (nilCheckX t1) fun t126 => opt (fieldAddrX 2 t126) fun t127 => optH (storeX 1 t127 t125 h3) fun h4 => opt (fastBin .add t9 (iL 1)) fun t111 => r6 t0 t1 t5 t6 t111 h4)))))))) (some ((.lit (.tuple #[])),h))
theorem TS81_7b (c : CF) (r6 : A5) : (rk d81 P0 c 264 c81.s4.bd.snd.els.snd.thn.s2.bd.bd).1 (L5 r6 0 1 5 6 9) [(3,k81),(0,k81)] k81 gK = L5 (S81_7b c r6) 0 1 5 6 9 := by funext s h; kernel_rfl
noncomputable def S81_6l (c : CF) : Nat → A5
  | 0 => fun _ _ _ _ _ _ => none
  | k + 1 => S81_7b c (S81_6l c k)
theorem TS81_6l (c : CF) : (rk d81 P0 c 264 c81.s4.bd.snd.els.snd.thn.s2.bd).1 k81 [(3,k81),(0,k81)] k81 gK = L5 (S81_6l c rounds) 0 1 5 6 9 := loop_t (by kernel_rfl) (loop_ind (A := fun m => L5 (S81_6l c m) 0 1 5 6 9) rfl (fun m => TS81_7b c (S81_6l c m)) rounds)
noncomputable def S81_8 (c : CF) (t0 t1 t5 t6 t9 : AV) (h : Heap) : Res := S81_6l c rounds t0 t1 t5 t6 t9 h
theorem TS81_8 (c : CF) : (rk d81 P0 c 264 c81.s4.bd.snd.els.snd.thn.s2).1 k81 [(0,k81)] k81 gK = L5 (S81_8 c) 0 1 5 6 9 := Eq.trans (block_t (id := 3) (by kernel_rfl) (TS81_6l c)) (by funext s h; kernel_rfl)
noncomputable def S81_9 (c : CF) (t0 t1 t5 t6 : AV) (h : Heap) : Res := S81_8 c t0 t1 t5 t6 (iL 1) h
theorem TS81_9 (c : CF) : (rk d81 P0 c 264 c81.s4.bd.snd.els.snd.thn.snd).1 k81 [(0,k81)] k81 gK = L4 (S81_9 c) 0 1 5 6 := Eq.trans (seq_t (by kernel_rfl) (TS81_8 c) rfl) (by funext s h; kernel_rfl)
noncomputable def S81_10 (c : CF) (t1 t10 : AV) (h : Heap) : Res := opt (nilCheckX t1) fun t178 => opt (fieldAddrX 4 t178) fun t179 => opt (loadX none t179 h) fun t180 => eqH h h (opt (loadX (some 11) t10 h) fun t181 => eqH h h (opt2 (bsliceX 11 (.agg [eL,eL,(iL 0),(iL 0),eL,cL,eL,eL,nL,nL,nL]) 1 [(0,t181)] h) fun t182 h1 => opt (loadX none t179 h1) fun t180_1 => eqK t180_1 t180 (eqH h1 h1 (opt2 (appendX 11 184 t180 t182 h1) fun t183 h2 => opt (nilCheckX t1) fun t184 => opt (fieldAddrX 4 t184) fun t185 => optH (storeX 1 t185 t183 h2) fun h3 => some ((.lit (.tuple #[])),h3)))))
theorem TS81_10 (c : CF) : (rk d81 P0 c 264 c81.s4.bd.snd.els.snd.els.snd.els.snd.thn.s4).1 k81 [(0,k81)] k81 gK = L2 (S81_10 c) 1 10 := by funext s h; kernel_rfl
noncomputable def S81_11 (c : CF) (t0 t1 t5 t10 : AV) (h : Heap) : Res := opt (nilCheckX t0) fun t165 => opt (fieldAddrX 1 t165) fun t166 => opt (loadX none t166 h) fun t167 => opt (fastBin .eql t167 (iL 0)) fun t168 => test t168 (opt (fieldAddrX 3 t5) fun t170 => opt (loadX none t170 h) fun t171 => opt (indexAddrS 4 t171 (iL 3) h) fun t172 => opt (loadX (some 4) t172 h) fun t173 => opt2 (c 144 [t0,t173] h) fun t174 h1 => opt (fieldAddrX 2 t10) fun t175 => optH (storeX 9 t175 t174 h1) fun h2 => S81_10 c t1 t10 h2) (S81_10 c t1 t10 h)
theorem TS81_11 (c : CF) : (rk d81 P0 c 264 c81.s4.bd.snd.els.snd.els.snd.els.snd.thn.s3).1 k81 [(0,k81)] k81 gK = L4 (S81_11 c) 0 1 5 10 := Eq.trans (seq_t (by kernel_rfl) (TS81_10 c) rfl) (by funext s h; kernel_rfl)
noncomputable def S81_12 (c : CF) (t0 t1 t5 t10 : AV) (h : Heap) : Res := opt (fieldAddrX 3 t5) fun t158 => opt (loadX none t158 h) fun t159 => opt (indexAddrS 4 t159 (iL 2) h) fun t160 => opt (loadX (some 4) t160 h) fun t161 => opt2 (c 143 [t0,t161] h) fun t162 h1 => opt (fieldAddrX 1 t10) fun t163 => optH (storeX 1 t163 t162 h1) fun h2 => S81_11 c t0 t1 t5 t10 h2
theorem TS81_12 (c : CF) : (rk d81 P0 c 264 c81.s4.bd.snd.els.snd.els.snd.els.snd.thn.s2).1 k81 [(0,k81)] k81 gK = L4 (S81_12 c) 0 1 5 10 := Eq.trans (seq_t (by kernel_rfl) (TS81_11 c) rfl) (by funext s h; kernel_rfl)
noncomputable def S81_13 (c : CF) (t0 t1 t5 : AV) (h : Heap) : Res := opt (fieldAddrX 3 t5) fun t151 => opt (loadX none t151 h) fun t152 => opt (indexAddrS 4 t152 (iL 1) h) fun t153 => opt (loadX (some 4) t153 h) fun t154 => opt2 (c 142 [t0,t154] h) fun t155 h1 => opt (buildX [eL,eL,(iL 0),(iL 0),eL,cL,eL,eL,nL,nL,nL] [(0,1),(1,1),(2,9)] [(0,t155)]) fun t156 => opt2 (box (.agg [eL,eL,(iL 0),(iL 0),eL,cL,eL,eL,nL,nL,nL]) h1) fun t10 h2 => optH (storeX 11 t10 t156 h2) fun h3 => S81_12 c t0 t1 t5 t10 h3
theorem TS81_13 (c : CF) : (rk d81 P0 c 264 c81.s4.bd.snd.els.snd.els.snd.els.snd.thn.snd).1 k81 [(0,k81)] k81 gK = L3 (S81_13 c) 0 1 5 := Eq.trans (seq_t (by kernel_rfl) (TS81_12 c) rfl) (by funext s h; kernel_rfl)
noncomputable def S81_14 (c : CF) (t1 t11 : AV) (h : Heap) : Res := opt (nilCheckX t1) fun t256 => opt (fieldAddrX 5 t256) fun t257 => opt (loadX none t257 h) fun t258 => eqH h h (opt (loadX (some 12) t11 h) fun t259 => eqH h h (opt2 (bsliceX 12 (.agg [eL,nL,eL,(iL 0),(iL 0),eL,cL,eL,eL,nL,nL,nL]) 1 [(0,t259)] h) fun t260 h1 => opt (loadX none t257 h1) fun t258_1 => eqK t258_1 t258 (eqH h1 h1 (opt2 (appendX 12 208 t258 t260 h1) fun t261 h2 => opt (nilCheckX t1) fun t262 => opt (fieldAddrX 5 t262) fun t263 => optH (storeX 1 t263 t261 h2) fun h3 => some ((.lit (.tuple #[])),h3)))))
theorem TS81_14 (c : CF) : (rk d81 P0 c 264 c81.s4.bd.snd.els.snd.els.snd.els.snd.els.snd.thn.s6).1 k81 [(0,k81)] k81 gK = L2 (S81_14 c) 1 11 := by funext s h; kernel_rfl
noncomputable def S81_15 (c : CF) (t0 t1 t5 t11 : AV) (h : Heap) : Res := opt (nilCheckX t0) fun t243 => opt (fieldAddrX 1 t243) fun t244 => opt (loadX none t244 h) fun t245 => opt (fastBin .eql t245 (iL 0)) fun t246 => test t246 (opt (fieldAddrX 3 t5) fun t248 => opt (loadX none t248 h) fun t249 => opt (indexAddrS 4 t249 (iL 4) h) fun t250 => opt (loadX (some 4) t250 h) fun t251 => opt2 (c 144 [t0,t251] h) fun t252 h1 => opt (fieldAddrX 3 t11) fun t253 => optH (storeX 9 t253 t252 h1) fun h2 => S81_14 c t1 t11 h2) (S81_14 c t1 t11 h)
theorem TS81_15 (c : CF) : (rk d81 P0 c 264 c81.s4.bd.snd.els.snd.els.snd.els.snd.els.snd.thn.s5).1 k81 [(0,k81)] k81 gK = L4 (S81_15 c) 0 1 5 11 := Eq.trans (seq_t (by kernel_rfl) (TS81_14 c) rfl) (by funext s h; kernel_rfl)
noncomputable def S81_16 (c : CF) (t0 t1 t5 t11 : AV) (h : Heap) : Res := opt (fieldAddrX 3 t5) fun t236 => opt (loadX none t236 h) fun t237 => opt (indexAddrS 4 t237 (iL 3) h) fun t238 => opt (loadX (some 4) t238 h) fun t239 => opt2 (c 143 [t0,t239] h) fun t240 h1 => opt (fieldAddrX 2 t11) fun t241 => optH (storeX 1 t241 t240 h1) fun h2 => S81_15 c t0 t1 t5 t11 h2
theorem TS81_16 (c : CF) : (rk d81 P0 c 264 c81.s4.bd.snd.els.snd.els.snd.els.snd.els.snd.thn.s4).1 k81 [(0,k81)] k81 gK = L4 (S81_16 c) 0 1 5 11 := Eq.trans (seq_t (by kernel_rfl) (TS81_15 c) rfl) (by funext s h; kernel_rfl)
noncomputable def S81_17 (c : CF) (t0 t1 t5 t11 : AV) (h : Heap) : Res := opt (fieldAddrX 3 t5) fun t229 => opt (loadX none t229 h) fun t230 => opt (indexAddrS 4 t230 (iL 2) h) fun t231 => opt (loadX (some 4) t231 h) fun t232 => opt2 (c 145 [t0,t232] h) fun t233 h1 => opt (fieldAddrX 1 t11) fun t234 => optH (storeX 1 t234 t233 h1) fun h2 => S81_16 c t0 t1 t5 t11 h2
theorem TS81_17 (c : CF) : (rk d81 P0 c 264 c81.s4.bd.snd.els.snd.els.snd.els.snd.els.snd.thn.s3).1 k81 [(0,k81)] k81 gK = L4 (S81_17 c) 0 1 5 11 := Eq.trans (seq_t (by kernel_rfl) (TS81_16 c) rfl) (by funext s h; kernel_rfl)
noncomputable def S81_18 (c : CF) (t0 t1 t5 : AV) (h : Heap) : Res := opt (fieldAddrX 3 t5) fun t222 => opt (loadX none t222 h) fun t223 => opt (indexAddrS 4 t223 (iL 1) h) fun t224 => opt (loadX (some 4) t224 h) fun t225 => opt2 (c 142 [t0,t225] h) fun t226 h1 => opt (buildX [eL,nL,eL,(iL 0),(iL 0),eL,cL,eL,eL,nL,nL,nL] [(0,1),(1,1),(2,1),(3,9)] [(0,t226)]) fun t227 => opt2 (box (.agg [eL,nL,eL,(iL 0),(iL 0),eL,cL,eL,eL,nL,nL,nL]) h1) fun t11 h2 => optH (storeX 12 t11 t227 h2) fun h3 => S81_17 c t0 t1 t5 t11 h3
theorem TS81_18 (c : CF) : (rk d81 P0 c 264 c81.s4.bd.snd.els.snd.els.snd.els.snd.els.snd.thn.s2).1 k81 [(0,k81)] k81 gK = L3 (S81_18 c) 0 1 5 := Eq.trans (seq_t (by kernel_rfl) (TS81_17 c) rfl) (by funext s h; kernel_rfl)
noncomputable def S81_19 (c : CF) (t0 t1 t5 : AV) (h : Heap) : Res := opt (fieldAddrX 3 t5) fun t210 => opt (loadX none t210 h) fun t211 => opt (indexAddrS 4 t211 (iL 2) h) fun t212 => opt (fieldAddrX 3 t212) fun t213 => opt (loadX none t213 h) fun t214 => opt (lenS t214) fun t215 => opt (fastBin .gtr t215 (iL 6)) fun t216 => test t216 (none) (S81_18 c t0 t1 t5 h)
theorem TS81_19 (c : CF) : (rk d81 P0 c 264 c81.s4.bd.snd.els.snd.els.snd.els.snd.els.snd.thn.snd).1 k81 [(0,k81)] k81 gK = L3 (S81_19 c) 0 1 5 := Eq.trans (seq_t (by kernel_rfl) (TS81_18 c) rfl) (by funext s h; kernel_rfl)
noncomputable def S81_20 (c : CF) (t0 t1 t5 t6 : AV) (h : Heap) : Res := opt (fastBin .neq t6 (iL 5)) fun t189 => test t189 (none) (opt (fieldAddrX 3 t5) fun t191 => opt (loadX none t191 h) fun t192 => opt (indexAddrS 4 t192 (iL 1) h) fun t193 => opt (loadX (some 4) t193 h) fun t194 => opt2 (c 78 [t194] h) fun t195 h1 => opt (notX t195) fun t196 => test t196 (none) (opt (fieldAddrX 3 t5) fun t199 => opt (loadX none t199 h1) fun t200 => opt (indexAddrS 4 t200 (iL 2) h1) fun t201 => opt (loadX (some 4) t201 h1) fun t202 => opt2 (c 77 [t202] h1) fun t203 h2 => opt (notX t203) fun t204 => test t204 (none) (S81_19 c t0 t1 t5 h2)))
theorem TS81_20 (c : CF) : (rk d81 P0 c 264 c81.s4.bd.snd.els.snd.els.snd.els.snd.els.snd.thn).1 k81 [(0,k81)] k81 gK = L4 (S81_20 c) 0 1 5 6 := Eq.trans (seq_t (by kernel_rfl) (TS81_19 c) rfl) (by funext s h; kernel_rfl)
noncomputable def S81_21 (c : CF) (t0 t1 t5 t6 t186 : AV) (h : Heap) : Res := test t186 (S81_20 c t0 t1 t5 t6 h) (none)
theorem TS81_21 (c : CF) : (rk d81 P0 c 264 c81.s4.bd.snd.els.snd.els.snd.els.snd.els.snd).1 k81 [(0,k81)] k81 gK = L5 (S81_21 c) 0 1 5 6 186 := Eq.trans (cond_t (by kernel_rfl) (TS81_20 c) rfl) (by funext s h; kernel_rfl)
noncomputable def S81_22 (c : CF) (t0 t1 t5 t6 : AV) (h : Heap) : Res := opt (fastBin .neq t6 (iL 4)) fun t137 => test t137 (none) (opt (fieldAddrX 3 t5) fun t139 => opt (loadX none t139 h) fun t140 => opt (indexAddrS 4 t140 (iL 1) h) fun t141 => opt (loadX (some 4) t141 h) fun t142 => opt2 (c 78 [t142] h) fun t143 h1 => opt (notX t143) fun t144 => test t144 (none) (S81_13 c t0 t1 t5 h1))
theorem TS81_22 (c : CF) : (rk d81 P0 c 264 c81.s4.bd.snd.els.snd.els.snd.els.snd.thn).1 k81 [(0,k81)] k81 gK = L4 (S81_22 c) 0 1 5 6 := Eq.trans (seq_t (by kernel_rfl) (TS81_13 c) rfl) (by funext s h; kernel_rfl)
noncomputable def S81_23 (c : CF) (t0 t1 t5 t6 t40 : AV) (h : Heap) : Res := opt (fastBin .eql t40 (sL [102,117,110])) fun t187 => S81_21 c t0 t1 t5 t6 t187 h
theorem TS81_23 (c : CF) : (rk d81 P0 c 264 c81.s4.bd.snd.els.snd.els.snd.els.snd.els).1 k81 [(0,k81)] k81 gK = L5 (S81_23 c) 0 1 5 6 40 := Eq.trans (seq_t (by kernel_rfl) (TS81_21 c) rfl) (by funext s h; kernel_rfl)
noncomputable def S81_24 (c : CF) (t0 t1 t5 t6 t40 t134 : AV) (h : Heap) : Res := test t134 (S81_22 c t0 t1 t5 t6 h) (S81_23 c t0 t1 t5 t6 t40 h)
theorem TS81_24 (c : CF) : (rk d81 P0 c 264 c81.s4.bd.snd.els.snd.els.snd.els.snd).1 k81 [(0,k81)] k81 gK = L6 (S81_24 c) 0 1 5 6 40 134 := Eq.trans (cond_t (by kernel_rfl) (TS81_22 c) (TS81_23 c)) (by funext s h; kernel_rfl)
noncomputable def S81_25 (c : CF) (t0 t1 t5 t6 t40 : AV) (h : Heap) : Res := opt (fastBin .eql t40 (sL [99,111,110,115,116])) fun t135 => S81_24 c t0 t1 t5 t6 t40 t135 h
theorem TS81_25 (c : CF) : (rk d81 P0 c 264 c81.s4.bd.snd.els.snd.els.snd.els).1 k81 [(0,k81)] k81 gK = L5 (S81_25 c) 0 1 5 6 40 := Eq.trans (seq_t (by kernel_rfl) (TS81_24 c) rfl) (by funext s h; kernel_rfl)
noncomputable def S81_26 (c : CF) (t0 t1 t5 t6 t40 t128 : AV) (h : Heap) : Res := test t128 (opt (loadX (some 4) t5 h) fun t132 => opt2 (c 141 [t0,t1,t132] h) fun t133 h1 => some ((.lit (.tuple #[])),h1)) (S81_25 c t0 t1 t5 t6 t40 h)
theorem TS81_26 (c : CF) : (rk d81 P0 c 264 c81.s4.bd.snd.els.snd.els.snd).1 k81 [(0,k81)] k81 gK = L6 (S81_26 c) 0 1 5 6 40 128 := Eq.trans (cond_t (by kernel_rfl) rfl (TS81_25 c)) (by funext s h; kernel_rfl)
noncomputable def S81_27 (c : CF) (t0 t1 t5 t6 : AV) (h : Heap) : Res := opt (fieldAddrX 3 t5) fun t99 => opt (loadX none t99 h) fun t100 => opt2 (c 139 [t100] h) fun t101 h1 => opt (notX t101) fun t102 => test t102 (none) (S81_9 c t0 t1 t5 t6 h1)
theorem TS81_27 (c : CF) : (rk d81 P0 c 264 c81.s4.bd.snd.els.snd.thn).1 k81 [(0,k81)] k81 gK = L4 (S81_27 c) 0 1 5 6 := Eq.trans (seq_t (by kernel_rfl) (TS81_9 c) rfl) (by funext s h; kernel_rfl)
noncomputable def S81_28 (c : CF) (t0 t1 t5 t6 t40 : AV) (h : Heap) : Res := opt (fastBin .eql t40 (sL [116,121,112,101])) fun t129 => S81_26 c t0 t1 t5 t6 t40 t129 h
theorem TS81_28 (c : CF) : (rk d81 P0 c 264 c81.s4.bd.snd.els.snd.els).1 k81 [(0,k81)] k81 gK = L5 (S81_28 c) 0 1 5 6 40 := Eq.trans (seq_t (by kernel_rfl) (TS81_26 c) rfl) (by funext s h; kernel_rfl)
noncomputable def S81_29 (c : CF) (t0 t1 t5 t6 t40 t97 : AV) (h : Heap) : Res := test t97 (S81_27 c t0 t1 t5 t6 h) (S81_28 c t0 t1 t5 t6 t40 h)
theorem TS81_29 (c : CF) : (rk d81 P0 c 264 c81.s4.bd.snd.els.snd).1 k81 [(0,k81)] k81 gK = L6 (S81_29 c) 0 1 5 6 40 97 := Eq.trans (cond_t (by kernel_rfl) (TS81_27 c) (TS81_28 c)) (by funext s h; kernel_rfl)
noncomputable def S81_30 (c : CF) (t0 t1 t5 t6 : AV) (h : Heap) : Res := opt (fastBin .lss t6 (iL 2)) fun t48 => test t48 (none) (opt (fieldAddrX 3 t5) fun t50 => opt (loadX none t50 h) fun t51 => opt2 (c 139 [t51] h) fun t52 h1 => opt (notX t52) fun t53 => test t53 (none) (S81_5 c t0 t1 t5 t6 h1))
theorem TS81_30 (c : CF) : (rk d81 P0 c 264 c81.s4.bd.snd.thn).1 k81 [(0,k81)] k81 gK = L4 (S81_30 c) 0 1 5 6 := Eq.trans (seq_t (by kernel_rfl) (TS81_5 c) rfl) (by funext s h; kernel_rfl)
noncomputable def S81_31 (c : CF) (t0 t1 t5 t6 t40 : AV) (h : Heap) : Res := opt (fastBin .eql t40 (sL [101,120,112,111,114,116])) fun t98 => S81_29 c t0 t1 t5 t6 t40 t98 h
theorem TS81_31 (c : CF) : (rk d81 P0 c 264 c81.s4.bd.snd.els).1 k81 [(0,k81)] k81 gK = L5 (S81_31 c) 0 1 5 6 40 := Eq.trans (seq_t (by kernel_rfl) (TS81_29 c) rfl) (by funext s h; kernel_rfl)
noncomputable def S81_32 (c : CF) (t0 t1 t5 t6 t40 t45 : AV) (h : Heap) : Res := test t45 (S81_30 c t0 t1 t5 t6 h) (S81_31 c t0 t1 t5 t6 t40 h)
theorem TS81_32 (c : CF) : (rk d81 P0 c 264 c81.s4.bd.snd).1 k81 [(0,k81)] k81 gK = L6 (S81_32 c) 0 1 5 6 40 45 := Eq.trans (cond_t (by kernel_rfl) (TS81_30 c) (TS81_31 c)) (by funext s h; kernel_rfl)
noncomputable def S81_33 (c : CF) (t0 t1 t5 t6 t40 : AV) (h : Heap) : Res := opt (fastBin .eql t40 (sL [105,109,112,111,114,116])) fun t46 => S81_32 c t0 t1 t5 t6 t40 t46 h
theorem TS81_33 (c : CF) : (rk d81 P0 c 264 c81.s4).1 k81 [] k81 gK = L5 (S81_33 c) 0 1 5 6 40 := Eq.trans (block_t (id := 0) (by kernel_rfl) (seq_t (by kernel_rfl) (TS81_32 c) rfl)) (by funext s h; kernel_rfl)
noncomputable def S81_34 (c : CF) (t0 t1 t5 t6 : AV) (h : Heap) : Res := opt (fieldAddrX 3 t5) fun t36 => opt (loadX none t36 h) fun t37 => opt (indexAddrS 4 t37 (iL 0) h) fun t38 => opt (fieldAddrX 2 t38) fun t39 => opt (loadX none t39 h) fun t40 => S81_33 c t0 t1 t5 t6 t40 h
theorem TS81_34 (c : CF) : (rk d81 P0 c 264 c81.s3).1 k81 [] k81 gK = L4 (S81_34 c) 0 1 5 6 := Eq.trans (seq_t (by kernel_rfl) (TS81_33 c) rfl) (by funext s h; kernel_rfl)
noncomputable def S81_35 (c : CF) (t0 t1 t5 : AV) (h : Heap) : Res := opt (fieldAddrX 3 t5) fun t33 => opt (loadX none t33 h) fun t34 => opt (lenS t34) fun t35 => S81_34 c t0 t1 t5 t35 h
theorem TS81_35 (c : CF) : (rk d81 P0 c 264 c81.s2).1 k81 [] k81 gK = L3 (S81_35 c) 0 1 5 := Eq.trans (seq_t (by kernel_rfl) (TS81_34 c) rfl) (by funext s h; kernel_rfl)
noncomputable def S81_36 (c : CF) (t0 t1 t5 : AV) (h : Heap) : Res := opt (loadX (some 4) t5 h) fun t12 => opt2 (c 77 [t12] h) fun t13 h1 => opt (notX t13) fun t14 => test t14 (none) (opt (fieldAddrX 3 t5) fun t16 => opt (loadX none t16 h1) fun t17 => opt (lenS t17) fun t18 => opt (fastBin .eql t18 (iL 0)) fun t19 => test t19 (none) (opt (fieldAddrX 3 t5) fun t22 => opt (loadX none t22 h1) fun t23 => opt (indexAddrS 4 t23 (iL 0) h1) fun t24 => opt (loadX (some 4) t24 h1) fun t25 => opt2 (c 78 [t25] h1) fun t26 h2 => opt (notX t26) fun t27 => test t27 (none) (S81_35 c t0 t1 t5 h2)))
theorem TS81_36 (c : CF) : (rk d81 P0 c 264 c81.snd).1 k81 [] k81 gK = L3 (S81_36 c) 0 1 5 := Eq.trans (seq_t (by kernel_rfl) (TS81_35 c) rfl) (by funext s h; kernel_rfl)
noncomputable def F81 (c : CF) (a0 a1 a2 : AV) (h : Heap) : Res := opt2 (box a2 h) fun t5 h1 => S81_36 c a0 a1 t5 h1
theorem TF81 (c : CF) (a0 a1 a2 : AV) (h : Heap) : (rk d81 P0 c 264 c81).1 k81 [] k81 gK (argsTr gl 0 [a0,a1,a2]) h = F81 c a0 a1 a2 h := Eq.trans (congrFun (congrFun (seq_t (by kernel_rfl) (TS81_36 c) rfl) _) _) (by kernel_rfl)
noncomputable def N81 : FnF := n3 F81
theorem N81_ok : FnOk P0 gl 81 N81 := n3_ok namesOk mixedOrders lowOk Tryz.func81 (by kernel_rfl) (by kernel_rfl) (by kernel_rfl) TF81
noncomputable def c82 : Code := codeOf Tryz.f82
noncomputable def k82 : Kt := finK P0 Tryz.f82.results.toList
def d82 : List Nat := [5,6,7,8,9,10,11,12,13,14,15,16,17,18,19,20,21,22,23,24,25,26,27,28,29,30]
noncomputable def S82_1b (c : CF) (r0 : A3) (t0 t1 t2 : AV) (h : Heap) : Res := opt (fastBin .sub t2 t1) fun t21 => opt (fastBin .leq t21 (iL 12)) fun t23 => test t23 (opt2 (c 146 [t0,t1,t2] h) fun t27 h1 => some ((.lit (.tuple #[])),h1)) (none)
theorem TS82_1b (c : CF) (r0 : A3) : (rk d82 P0 c 134 c82.s2.bd.bd).1 (L3 r0 0 1 2) [(0,k82)] k82 gK = L3 (S82_1b c r0) 0 1 2 := by funext s h; kernel_rfl
noncomputable def S82_0l (c : CF) : Nat → A3
  | 0 => fun _ _ _ _ => none
  | k + 1 => S82_1b c (S82_0l c k)
theorem TS82_0l (c : CF) : (rk d82 P0 c 134 c82.s2.bd).1 k82 [(0,k82)] k82 gK = L3 (S82_0l c rounds) 0 1 2 := loop_t (by kernel_rfl) (loop_ind (A := fun m => L3 (S82_0l c m) 0 1 2) rfl (fun m => TS82_1b c (S82_0l c m)) rounds)
noncomputable def S82_2 (c : CF) (t0 t1 t2 : AV) (h : Heap) : Res := S82_0l c rounds t0 t1 t2 h
theorem TS82_2 (c : CF) : (rk d82 P0 c 134 c82.s2).1 k82 [] k82 gK = L3 (S82_2 c) 0 1 2 := Eq.trans (block_t (id := 0) (by kernel_rfl) (TS82_0l c)) (by funext s h; kernel_rfl)
noncomputable def S82_3 (c : CF) (t0 t1 t2 : AV) (h : Heap) : Res := S82_2 c t0 t1 t2 h
theorem TS82_3 (c : CF) : (rk d82 P0 c 134 c82.snd).1 k82 [] k82 gK = L3 (S82_3 c) 0 1 2 := Eq.trans (seq_t (by kernel_rfl) (TS82_2 c) rfl) (by funext s h; kernel_rfl)
noncomputable def F82 (c : CF) (a0 a1 a2 a3 : AV) (h : Heap) : Res := S82_3 c a0 a1 a2 h
theorem TF82 (c : CF) (a0 a1 a2 a3 : AV) (h : Heap) : (rk d82 P0 c 134 c82).1 k82 [] k82 gK (argsTr gl 0 [a0,a1,a2,a3]) h = F82 c a0 a1 a2 a3 h := Eq.trans (congrFun (congrFun (seq_t (by kernel_rfl) (TS82_3 c) rfl) _) _) (by kernel_rfl)
noncomputable def N82 : FnF := n4 F82
theorem N82_ok : FnOk P0 gl 82 N82 := n4_ok namesOk mixedOrders lowOk Tryz.func82 (by kernel_rfl) (by kernel_rfl) (by kernel_rfl) TF82
noncomputable def c83 : Code := codeOf Tryz.f83
noncomputable def k83 : Kt := finK P0 Tryz.f83.results.toList
def d83 : List Nat := [1]
noncomputable def F83 (c : CF) (a0 : AV) (h : Heap) : Res := opt2 (c 156 [a0] h) fun t7 h1 => some (t7,h1)
theorem TF83 (c : CF) (a0 : AV) (h : Heap) : (rk d83 P0 c 8 c83).1 k83 [] k83 gK (argsTr gl 0 [a0]) h = F83 c a0 h := by kernel_rfl
noncomputable def N83 : FnF := n1 F83
theorem N83_ok : FnOk P0 gl 83 N83 := n1_ok namesOk mixedOrders lowOk Tryz.func83 (by kernel_rfl) (by kernel_rfl) (by kernel_rfl) TF83
noncomputable def c84 : Code := codeOf Tryz.f84
noncomputable def k84 : Kt := finK P0 Tryz.f84.results.toList
def d84 : List Nat := []
noncomputable def S84_0 (c : CF) (h : Heap) : Res := some ((iL (-1)),h)
theorem TS84_0 (c : CF) : (rk d84 P0 c 19 c84.s2).1 k84 [] k84 gK = L0 (S84_0 c) := by funext s h; kernel_rfl
noncomputable def S84_2b (c : CF) (r1 : A4) (t0 t1 t7 t8 : AV) (h : Heap) : Res := opt (fastBin .lss t8 t7) fun t9 => test t9 (opt (indexAddrS 1 t0 t8 h) fun t14 => opt (loadX none t14 h) fun t15 => opt (fastBin .eql t1 t15) fun t16 => test t16 (some (t8,h)) (opt (fastBin .add t8 (iL 1)) fun t18 => r1 t0 t1 t7 t18 h)) (S84_0 c h)
theorem TS84_2b (c : CF) (r1 : A4) : (rk d84 P0 c 19 c84.snd.fst.snd.bd.bd).1 (L4 r1 0 1 7 8) [(0,(L0 (S84_0 c)))] k84 gK = L4 (S84_2b c r1) 0 1 7 8 := by funext s h; kernel_rfl
noncomputable def S84_1l (c : CF) : Nat → A4
  | 0 => fun _ _ _ _ _ => none
  | k + 1 => S84_2b c (S84_1l c k)
theorem TS84_1l (c : CF) : (rk d84 P0 c 19 c84.snd.fst.snd.bd).1 (L0 (S84_0 c)) [(0,(L0 (S84_0 c)))] k84 gK = L4 (S84_1l c rounds) 0 1 7 8 := loop_t (by kernel_rfl) (loop_ind (A := fun m => L4 (S84_1l c m) 0 1 7 8) rfl (fun m => TS84_2b c (S84_1l c m)) rounds)
noncomputable def S84_3 (c : CF) (t0 t1 t7 t8 : AV) (h : Heap) : Res := S84_1l c rounds t0 t1 t7 t8 h
theorem TS84_3 (c : CF) : (rk d84 P0 c 19 c84.snd.fst.snd).1 (L0 (S84_0 c)) [] k84 gK = L4 (S84_3 c) 0 1 7 8 := Eq.trans (block_t (id := 0) (by kernel_rfl) (TS84_1l c)) (by funext s h; kernel_rfl)
noncomputable def S84_4 (c : CF) (t0 t1 : AV) (h : Heap) : Res := opt (lenS t0) fun t7 => S84_3 c t0 t1 t7 (iL 0) h
theorem TS84_4 (c : CF) : (rk d84 P0 c 19 c84.snd).1 k84 [] k84 gK = L2 (S84_4 c) 0 1 := Eq.trans (seq_t (by kernel_rfl) (TS84_0 c) (seq_t (by kernel_rfl) (TS84_3 c) rfl)) (by funext s h; kernel_rfl)
noncomputable def F84 (c : CF) (a0 a1 : AV) (h : Heap) : Res := S84_4 c a0 a1 h
theorem TF84 (c : CF) (a0 a1 : AV) (h : Heap) : (rk d84 P0 c 19 c84).1 k84 [] k84 gK (argsTr gl 0 [a0,a1]) h = F84 c a0 a1 h := Eq.trans (congrFun (congrFun (seq_t (by kernel_rfl) (TS84_4 c) rfl) _) _) (by kernel_rfl)
noncomputable def N84 : FnF := n2 F84
theorem N84_ok : FnOk P0 gl 84 N84 := n2_ok namesOk mixedOrders lowOk Tryz.func84 (by kernel_rfl) (by kernel_rfl) (by kernel_rfl) TF84
noncomputable def c99 : Code := codeOf Tryz.f99
noncomputable def k99 : Kt := finK P0 Tryz.f99.results.toList
def d99 : List Nat := []
noncomputable def S99_0 (c : CF) (h : Heap) : Res := some ((iL (-1)),h)
theorem TS99_0 (c : CF) : (rk d99 P0 c 19 c99.s2).1 k99 [] k99 gK = L0 (S99_0 c) := by funext s h; kernel_rfl
noncomputable def S99_2b (c : CF) (r1 : A4) (t0 t1 t7 t8 : AV) (h : Heap) : Res := opt (fastBin .lss t8 t7) fun t9 => test t9 (opt (indexAddrS 6 t0 t8 h) fun t14 => opt (loadX (some 6) t14 h) fun t15 => opt2 (callV P0 c t1 [t15] h) fun t16 h1 => test t16 (some (t8,h1)) (opt (fastBin .add t8 (iL 1)) fun t18 => r1 t0 t1 t7 t18 h1)) (S99_0 c h)
theorem TS99_2b (c : CF) (r1 : A4) : (rk d99 P0 c 19 c99.snd.fst.snd.bd.bd).1 (L4 r1 0 1 7 8) [(0,(L0 (S99_0 c)))] k99 gK = L4 (S99_2b c r1) 0 1 7 8 := by funext s h; kernel_rfl
noncomputable def S99_1l (c : CF) : Nat → A4
  | 0 => fun _ _ _ _ _ => none
  | k + 1 => S99_2b c (S99_1l c k)
theorem TS99_1l (c : CF) : (rk d99 P0 c 19 c99.snd.fst.snd.bd).1 (L0 (S99_0 c)) [(0,(L0 (S99_0 c)))] k99 gK = L4 (S99_1l c rounds) 0 1 7 8 := loop_t (by kernel_rfl) (loop_ind (A := fun m => L4 (S99_1l c m) 0 1 7 8) rfl (fun m => TS99_2b c (S99_1l c m)) rounds)
noncomputable def S99_3 (c : CF) (t0 t1 t7 t8 : AV) (h : Heap) : Res := S99_1l c rounds t0 t1 t7 t8 h
theorem TS99_3 (c : CF) : (rk d99 P0 c 19 c99.snd.fst.snd).1 (L0 (S99_0 c)) [] k99 gK = L4 (S99_3 c) 0 1 7 8 := Eq.trans (block_t (id := 0) (by kernel_rfl) (TS99_1l c)) (by funext s h; kernel_rfl)
noncomputable def S99_4 (c : CF) (t0 t1 : AV) (h : Heap) : Res := opt (lenS t0) fun t7 => S99_3 c t0 t1 t7 (iL 0) h
theorem TS99_4 (c : CF) : (rk d99 P0 c 19 c99.snd).1 k99 [] k99 gK = L2 (S99_4 c) 0 1 := Eq.trans (seq_t (by kernel_rfl) (TS99_0 c) (seq_t (by kernel_rfl) (TS99_3 c) rfl)) (by funext s h; kernel_rfl)
noncomputable def F99 (c : CF) (a0 a1 : AV) (h : Heap) : Res := S99_4 c a0 a1 h
theorem TF99 (c : CF) (a0 a1 : AV) (h : Heap) : (rk d99 P0 c 19 c99).1 k99 [] k99 gK (argsTr gl 0 [a0,a1]) h = F99 c a0 a1 h := Eq.trans (congrFun (congrFun (seq_t (by kernel_rfl) (TS99_4 c) rfl) _) _) (by kernel_rfl)
noncomputable def N99 : FnF := n2 F99
theorem N99_ok : FnOk P0 gl 99 N99 := n2_ok namesOk mixedOrders lowOk Tryz.func99 (by kernel_rfl) (by kernel_rfl) (by kernel_rfl) TF99
noncomputable def c100 : Code := codeOf Tryz.f100
noncomputable def k100 : Kt := finK P0 Tryz.f100.results.toList
def d100 : List Nat := [5,11,25]
noncomputable def S100_0 (c : CF) (h : Heap) : Res := none
theorem TS100_0 (c : CF) : (rk d100 P0 c 79 c100.s4).1 k100 [] k100 gK = L0 (S100_0 c) := by funext s h; kernel_rfl
noncomputable def S100_2 (c : CF) (r1 : A5) (t1 t4 t48 t49 t50 : AV) (h : Heap) : Res := opt (fastBin .add t50 (iL 1)) fun t77 => r1 t1 t4 t48 t49 t77 h
theorem TS100_2 (c : CF) (r1 : A5) : (rk d100 P0 c 79 c100.s3.fst.snd.bd.bd.s3).1 (L5 r1 1 4 48 49 50) [(4,(L0 (S100_0 c)))] k100 gK = L5 (S100_2 c r1) 1 4 48 49 50 := by funext s h; kernel_rfl
noncomputable def S100_3 (c : CF) (r1 : A5) (t1 t4 t11 t12 : AV) (h : Heap) : Res := opt (fieldAddrX 2 t11) fun t73 => opt (loadX none t73 h) fun t74 => opt2 (c 181 [t12,t74] h) fun t75 h1 => opt (buildX [(iL 0),eL,eL,nL] [(0,1),(1,1),(2,1),(3,1)] [(0,(iL 3)),(1,t1),(2,t75)]) fun t76 => optH (storeX 4 t4 t76 h1) fun h2 => opt (loadX (some 4) t4 h2) fun res => some ((.tup [res,tL]),h2)
theorem TS100_3 (c : CF) (r1 : A5) : (rk d100 P0 c 79 c100.s3.fst.snd.bd.bd.s2.fst.bd.s2.thn.s2).1 (L5 (S100_2 c r1) 1 4 48 49 50) [(5,(L5 (S100_2 c r1) 1 4 48 49 50)),(4,(L0 (S100_0 c)))] k100 gK = L4 (S100_3 c r1) 1 4 11 12 := by funext s h; kernel_rfl
noncomputable def S100_5b (c : CF) (r1 : A5) (r4 : A7) (t1 t4 t11 t12 t59 t60 t61 : AV) (h : Heap) : Res := opt (fastBin .lss t61 t60) fun t62 => test t62 (opt (indexAddrS 2 t59 t61 h) fun t63 => opt (loadX (some 2) t63 h) fun t64 => opt2 (box (.agg [eL,eL]) h) fun t14 h1 => optH (storeX 2 t14 t64 h1) fun h2 => opt (fieldAddrX 1 t14) fun t66 => opt (loadX none t66 h2) fun t67 => opt2 (bsliceX 1 eL 1 [(0,t67)] h2) fun t68 h3 => opt2 (appendX 1 16 t12 t68 h3) fun t69 h4 => opt (fastBin .add t61 (iL 1)) fun t70 => r4 t1 t4 t11 t69 t59 t60 t70 h4) (S100_3 c r1 t1 t4 t11 t12 h)
theorem TS100_5b (c : CF) (r1 : A5) (r4 : A7) : (rk d100 P0 c 79 c100.s3.fst.snd.bd.bd.s2.fst.bd.s2.thn.snd.fst.snd.bd.bd).1 (L7 r4 1 4 11 12 59 60 61) [(6,(L4 (S100_3 c r1) 1 4 11 12)),(5,(L5 (S100_2 c r1) 1 4 48 49 50)),(4,(L0 (S100_0 c)))] k100 gK = L7 (S100_5b c r1 r4) 1 4 11 12 59 60 61 := by funext s h; kernel_rfl
noncomputable def S100_4l (c : CF) (r1 : A5) : Nat → A7
  | 0 => fun _ _ _ _ _ _ _ _ => none
  | k + 1 => S100_5b c r1 (S100_4l c r1 k)
theorem TS100_4l (c : CF) (r1 : A5) : (rk d100 P0 c 79 c100.s3.fst.snd.bd.bd.s2.fst.bd.s2.thn.snd.fst.snd.bd).1 (L4 (S100_3 c r1) 1 4 11 12) [(6,(L4 (S100_3 c r1) 1 4 11 12)),(5,(L5 (S100_2 c r1) 1 4 48 49 50)),(4,(L0 (S100_0 c)))] k100 gK = L7 (S100_4l c r1 rounds) 1 4 11 12 59 60 61 := loop_t (by kernel_rfl) (loop_ind (A := fun m => L7 (S100_4l c r1 m) 1 4 11 12 59 60 61) rfl (fun m => TS100_5b c r1 (S100_4l c r1 m)) rounds)
noncomputable def S100_6 (c : CF) (r1 : A5) (t1 t4 t11 t12 t59 t60 t61 : AV) (h : Heap) : Res := S100_4l c r1 rounds t1 t4 t11 t12 t59 t60 t61 h
theorem TS100_6 (c : CF) (r1 : A5) : (rk d100 P0 c 79 c100.s3.fst.snd.bd.bd.s2.fst.bd.s2.thn.snd.fst.snd).1 (L4 (S100_3 c r1) 1 4 11 12) [(5,(L5 (S100_2 c r1) 1 4 48 49 50)),(4,(L0 (S100_0 c)))] k100 gK = L7 (S100_6 c r1) 1 4 11 12 59 60 61 := Eq.trans (block_t (id := 6) (by kernel_rfl) (TS100_4l c r1)) (by funext s h; kernel_rfl)
noncomputable def S100_7 (c : CF) (r1 : A5) (t1 t4 t11 t12 : AV) (h : Heap) : Res := opt (fieldAddrX 1 t11) fun t58 => opt (loadX none t58 h) fun t59 => opt (lenS t59) fun t60 => S100_6 c r1 t1 t4 t11 t12 t59 t60 (iL 0) h
theorem TS100_7 (c : CF) (r1 : A5) : (rk d100 P0 c 79 c100.s3.fst.snd.bd.bd.s2.fst.bd.s2.thn.snd).1 (L5 (S100_2 c r1) 1 4 48 49 50) [(5,(L5 (S100_2 c r1) 1 4 48 49 50)),(4,(L0 (S100_0 c)))] k100 gK = L4 (S100_7 c r1) 1 4 11 12 := Eq.trans (seq_t (by kernel_rfl) (TS100_3 c r1) (seq_t (by kernel_rfl) (TS100_6 c r1) rfl)) (by funext s h; kernel_rfl)
noncomputable def S100_8 (c : CF) (r1 : A5) (t1 t4 t11 : AV) (h : Heap) : Res := S100_7 c r1 t1 t4 t11 nL h
theorem TS100_8 (c : CF) (r1 : A5) : (rk d100 P0 c 79 c100.s3.fst.snd.bd.bd.s2.fst.bd.s2.thn).1 (L5 (S100_2 c r1) 1 4 48 49 50) [(5,(L5 (S100_2 c r1) 1 4 48 49 50)),(4,(L0 (S100_0 c)))] k100 gK = L3 (S100_8 c r1) 1 4 11 := Eq.trans (seq_t (by kernel_rfl) (TS100_7 c r1) rfl) (by funext s h; kernel_rfl)
noncomputable def S100_9 (c : CF) (r1 : A5) (t1 t4 t11 t48 t49 t50 t57 : AV) (h : Heap) : Res := test t57 (S100_8 c r1 t1 t4 t11 h) (S100_2 c r1 t1 t4 t48 t49 t50 h)
theorem TS100_9 (c : CF) (r1 : A5) : (rk d100 P0 c 79 c100.s3.fst.snd.bd.bd.s2.fst.bd.s2).1 (L5 (S100_2 c r1) 1 4 48 49 50) [(5,(L5 (S100_2 c r1) 1 4 48 49 50)),(4,(L0 (S100_0 c)))] k100 gK = L7 (S100_9 c r1) 1 4 11 48 49 50 57 := Eq.trans (cond_t (by kernel_rfl) (TS100_8 c r1) rfl) (by funext s h; kernel_rfl)
noncomputable def S100_10 (c : CF) (r1 : A5) (t1 t4 t11 t48 t49 t50 : AV) (h : Heap) : Res := opt (fieldAddrX 0 t11) fun t54 => opt (loadX none t54 h) fun t55 => opt (fastBin .eql t55 t1) fun t57 => S100_9 c r1 t1 t4 t11 t48 t49 t50 t57 h
theorem TS100_10 (c : CF) (r1 : A5) : (rk d100 P0 c 79 c100.s3.fst.snd.bd.bd.s2.fst.bd.snd).1 (L5 (S100_2 c r1) 1 4 48 49 50) [(5,(L5 (S100_2 c r1) 1 4 48 49 50)),(4,(L0 (S100_0 c)))] k100 gK = L6 (S100_10 c r1) 1 4 11 48 49 50 := Eq.trans (seq_t (by kernel_rfl) (TS100_9 c r1) rfl) (by funext s h; kernel_rfl)
noncomputable def S100_11 (c : CF) (r1 : A5) (t1 t4 t48 t49 t50 : AV) (h : Heap) : Res := opt (indexAddrS 12 t48 t50 h) fun t52 => opt (loadX (some 12) t52 h) fun t53 => opt2 (box (.agg [eL,nL,eL,(iL 0),(iL 0),eL,cL,eL,eL,nL,nL,nL]) h) fun t11 h1 => optH (storeX 12 t11 t53 h1) fun h2 => S100_10 c r1 t1 t4 t11 t48 t49 t50 h2
theorem TS100_11 (c : CF) (r1 : A5) : (rk d100 P0 c 79 c100.s3.fst.snd.bd.bd.s2).1 (L5 r1 1 4 48 49 50) [(4,(L0 (S100_0 c)))] k100 gK = L5 (S100_11 c r1) 1 4 48 49 50 := Eq.trans (seq_t (by kernel_rfl) (TS100_2 c r1) (block_t (id := 5) (by kernel_rfl) (seq_t (by kernel_rfl) (TS100_10 c r1) rfl))) (by funext s h; kernel_rfl)
noncomputable def S100_12 (c : CF) (r1 : A5) (t1 t4 t48 t49 t50 t51 : AV) (h : Heap) : Res := test t51 (S100_11 c r1 t1 t4 t48 t49 t50 h) (S100_0 c h)
theorem TS100_12 (c : CF) (r1 : A5) : (rk d100 P0 c 79 c100.s3.fst.snd.bd.bd.snd).1 (L5 r1 1 4 48 49 50) [(4,(L0 (S100_0 c)))] k100 gK = L6 (S100_12 c r1) 1 4 48 49 50 51 := Eq.trans (seq_t (by kernel_rfl) (TS100_11 c r1) rfl) (by funext s h; kernel_rfl)
noncomputable def S100_13b (c : CF) (r1 : A5) (t1 t4 t48 t49 t50 : AV) (h : Heap) : Res := opt (fastBin .lss t50 t49) fun t51 => S100_12 c r1 t1 t4 t48 t49 t50 t51 h
theorem TS100_13b (c : CF) (r1 : A5) : (rk d100 P0 c 79 c100.s3.fst.snd.bd.bd).1 (L5 r1 1 4 48 49 50) [(4,(L0 (S100_0 c)))] k100 gK = L5 (S100_13b c r1) 1 4 48 49 50 := Eq.trans (seq_t (by kernel_rfl) (TS100_12 c r1) rfl) (by funext s h; kernel_rfl)
noncomputable def S100_1l (c : CF) : Nat → A5
  | 0 => fun _ _ _ _ _ _ => none
  | k + 1 => S100_13b c (S100_1l c k)
theorem TS100_1l (c : CF) : (rk d100 P0 c 79 c100.s3.fst.snd.bd).1 (L0 (S100_0 c)) [(4,(L0 (S100_0 c)))] k100 gK = L5 (S100_1l c rounds) 1 4 48 49 50 := loop_t (by kernel_rfl) (loop_ind (A := fun m => L5 (S100_1l c m) 1 4 48 49 50) rfl (fun m => TS100_13b c (S100_1l c m)) rounds)
noncomputable def S100_14 (c : CF) (t1 t4 t48 t49 t50 : AV) (h : Heap) : Res := S100_1l c rounds t1 t4 t48 t49 t50 h
theorem TS100_14 (c : CF) : (rk d100 P0 c 79 c100.s3.fst.snd).1 (L0 (S100_0 c)) [] k100 gK = L5 (S100_14 c) 1 4 48 49 50 := Eq.trans (block_t (id := 4) (by kernel_rfl) (TS100_1l c)) (by funext s h; kernel_rfl)
noncomputable def S100_15 (c : CF) (t1 t2 t4 : AV) (h : Heap) : Res := opt (fieldAddrX 5 t2) fun t47 => opt (loadX none t47 h) fun t48 => opt (lenS t48) fun t49 => S100_14 c t1 t4 t48 t49 (iL 0) h
theorem TS100_15 (c : CF) : (rk d100 P0 c 79 c100.s3).1 k100 [] k100 gK = L3 (S100_15 c) 1 2 4 := Eq.trans (seq_t (by kernel_rfl) (TS100_0 c) (seq_t (by kernel_rfl) (TS100_14 c) rfl)) (by funext s h; kernel_rfl)
noncomputable def S100_17b (c : CF) (r16 : A6) (t1 t2 t4 t32 t33 t34 : AV) (h : Heap) : Res := opt (fastBin .lss t34 t33) fun t35 => test t35 (opt (indexAddrS 11 t32 t34 h) fun t36 => opt (loadX (some 11) t36 h) fun t37 => opt2 (box (.agg [eL,eL,(iL 0),(iL 0),eL,cL,eL,eL,nL,nL,nL]) h) fun t9 h1 => optH (storeX 11 t9 t37 h1) fun h2 => opt (fieldAddrX 0 t9) fun t38 => opt (loadX none t38 h2) fun t39 => opt (fastBin .eql t39 t1) fun t41 => test t41 (none) (opt (fastBin .add t34 (iL 1)) fun t46 => r16 t1 t2 t4 t32 t33 t46 h2)) (S100_15 c t1 t2 t4 h)
theorem TS100_17b (c : CF) (r16 : A6) : (rk d100 P0 c 79 c100.s2.fst.snd.bd.bd).1 (L6 r16 1 2 4 32 33 34) [(2,(L3 (S100_15 c) 1 2 4))] k100 gK = L6 (S100_17b c r16) 1 2 4 32 33 34 := by funext s h; kernel_rfl
noncomputable def S100_16l (c : CF) : Nat → A6
  | 0 => fun _ _ _ _ _ _ _ => none
  | k + 1 => S100_17b c (S100_16l c k)
theorem TS100_16l (c : CF) : (rk d100 P0 c 79 c100.s2.fst.snd.bd).1 (L3 (S100_15 c) 1 2 4) [(2,(L3 (S100_15 c) 1 2 4))] k100 gK = L6 (S100_16l c rounds) 1 2 4 32 33 34 := loop_t (by kernel_rfl) (loop_ind (A := fun m => L6 (S100_16l c m) 1 2 4 32 33 34) rfl (fun m => TS100_17b c (S100_16l c m)) rounds)
noncomputable def S100_18 (c : CF) (t1 t2 t4 t32 t33 t34 : AV) (h : Heap) : Res := S100_16l c rounds t1 t2 t4 t32 t33 t34 h
theorem TS100_18 (c : CF) : (rk d100 P0 c 79 c100.s2.fst.snd).1 (L3 (S100_15 c) 1 2 4) [] k100 gK = L6 (S100_18 c) 1 2 4 32 33 34 := Eq.trans (block_t (id := 2) (by kernel_rfl) (TS100_16l c)) (by funext s h; kernel_rfl)
noncomputable def S100_19 (c : CF) (t1 t2 t4 : AV) (h : Heap) : Res := opt (fieldAddrX 4 t2) fun t31 => opt (loadX none t31 h) fun t32 => opt (lenS t32) fun t33 => S100_18 c t1 t2 t4 t32 t33 (iL 0) h
theorem TS100_19 (c : CF) : (rk d100 P0 c 79 c100.s2).1 k100 [] k100 gK = L3 (S100_19 c) 1 2 4 := Eq.trans (seq_t (by kernel_rfl) (TS100_15 c) (seq_t (by kernel_rfl) (TS100_18 c) rfl)) (by funext s h; kernel_rfl)
noncomputable def S100_21b (c : CF) (r20 : A6) (t1 t2 t4 t16 t17 t18 : AV) (h : Heap) : Res := opt (fastBin .lss t18 t17) fun t19 => test t19 (opt (indexAddrS 2 t16 t18 h) fun t20 => opt (loadX (some 2) t20 h) fun t21 => opt2 (box (.agg [eL,nL]) h) fun t7 h1 => optH (storeX 2 t7 t21 h1) fun h2 => opt (fieldAddrX 0 t7) fun t22 => opt (loadX none t22 h2) fun t23 => opt (fastBin .eql t23 t1) fun t25 => test t25 (none) (opt (fastBin .add t18 (iL 1)) fun t30 => r20 t1 t2 t4 t16 t17 t30 h2)) (S100_19 c t1 t2 t4 h)
theorem TS100_21b (c : CF) (r20 : A6) : (rk d100 P0 c 79 c100.snd.fst.snd.bd.bd).1 (L6 r20 1 2 4 16 17 18) [(0,(L3 (S100_19 c) 1 2 4))] k100 gK = L6 (S100_21b c r20) 1 2 4 16 17 18 := by funext s h; kernel_rfl
noncomputable def S100_20l (c : CF) : Nat → A6
  | 0 => fun _ _ _ _ _ _ _ => none
  | k + 1 => S100_21b c (S100_20l c k)
theorem TS100_20l (c : CF) : (rk d100 P0 c 79 c100.snd.fst.snd.bd).1 (L3 (S100_19 c) 1 2 4) [(0,(L3 (S100_19 c) 1 2 4))] k100 gK = L6 (S100_20l c rounds) 1 2 4 16 17 18 := loop_t (by kernel_rfl) (loop_ind (A := fun m => L6 (S100_20l c m) 1 2 4 16 17 18) rfl (fun m => TS100_21b c (S100_20l c m)) rounds)
noncomputable def S100_22 (c : CF) (t1 t2 t4 t16 t17 t18 : AV) (h : Heap) : Res := S100_20l c rounds t1 t2 t4 t16 t17 t18 h
theorem TS100_22 (c : CF) : (rk d100 P0 c 79 c100.snd.fst.snd).1 (L3 (S100_19 c) 1 2 4) [] k100 gK = L6 (S100_22 c) 1 2 4 16 17 18 := Eq.trans (block_t (id := 0) (by kernel_rfl) (TS100_20l c)) (by funext s h; kernel_rfl)
noncomputable def S100_23 (c : CF) (t1 t2 t4 : AV) (h : Heap) : Res := opt (fieldAddrX 3 t2) fun t15 => opt (loadX none t15 h) fun t16 => opt (lenS t16) fun t17 => S100_22 c t1 t2 t4 t16 t17 (iL 0) h
theorem TS100_23 (c : CF) : (rk d100 P0 c 79 c100.snd).1 k100 [] k100 gK = L3 (S100_23 c) 1 2 4 := Eq.trans (seq_t (by kernel_rfl) (TS100_19 c) (seq_t (by kernel_rfl) (TS100_22 c) rfl)) (by funext s h; kernel_rfl)
noncomputable def F100 (c : CF) (a0 a1 : AV) (h : Heap) : Res := opt2 (box a0 h) fun t2 h1 => opt2 (box (.agg [(iL 0),eL,eL,nL]) h1) fun t4 h2 => S100_23 c a1 t2 t4 h2
theorem TF100 (c : CF) (a0 a1 : AV) (h : Heap) : (rk d100 P0 c 79 c100).1 k100 [] k100 gK (argsTr gl 0 [a0,a1]) h = F100 c a0 a1 h := Eq.trans (congrFun (congrFun (seq_t (by kernel_rfl) (TS100_23 c) rfl) _) _) (by kernel_rfl)
noncomputable def N100 : FnF := n2 F100
theorem N100_ok : FnOk P0 gl 100 N100 := n2_ok namesOk mixedOrders lowOk Tryz.func100 (by kernel_rfl) (by kernel_rfl) (by kernel_rfl) TF100
noncomputable def c101 : Code := codeOf Tryz.f101
noncomputable def k101 : Kt := finK P0 Tryz.f101.results.toList
def d101 : List Nat := [4,5,6]
noncomputable def S101_0 (c : CF) (t1 t2 : AV) (h : Heap) : Res := opt (loadX (some 4) t1 h) fun t26 => optH (storeX 4 t2 t26 h) fun h1 => opt (loadX (some 4) t2 h1) fun res => some (res,h1)
theorem TS101_0 (c : CF) : (rk d101 P0 c 27 c101.s3).1 k101 [] k101 gK = L2 (S101_0 c) 1 2 := by funext s h; kernel_rfl
noncomputable def S101_2b (c : CF) (r1 : A4) (t1 t2 t11 t12 : AV) (h : Heap) : Res := opt (fastBin .lss t12 t11) fun t13 => test t13 (none) (S101_0 c t1 t2 h)
theorem TS101_2b (c : CF) (r1 : A4) : (rk d101 P0 c 27 c101.s2.fst.snd.bd.bd).1 (L4 r1 1 2 11 12) [(0,(L2 (S101_0 c) 1 2))] k101 gK = L4 (S101_2b c r1) 1 2 11 12 := by funext s h; kernel_rfl
noncomputable def S101_1l (c : CF) : Nat → A4
  | 0 => fun _ _ _ _ _ => none
  | k + 1 => S101_2b c (S101_1l c k)
theorem TS101_1l (c : CF) : (rk d101 P0 c 27 c101.s2.fst.snd.bd).1 (L2 (S101_0 c) 1 2) [(0,(L2 (S101_0 c) 1 2))] k101 gK = L4 (S101_1l c rounds) 1 2 11 12 := loop_t (by kernel_rfl) (loop_ind (A := fun m => L4 (S101_1l c m) 1 2 11 12) rfl (fun m => TS101_2b c (S101_1l c m)) rounds)
noncomputable def S101_3 (c : CF) (t1 t2 t11 t12 : AV) (h : Heap) : Res := S101_1l c rounds t1 t2 t11 t12 h
theorem TS101_3 (c : CF) : (rk d101 P0 c 27 c101.s2.fst.snd).1 (L2 (S101_0 c) 1 2) [] k101 gK = L4 (S101_3 c) 1 2 11 12 := Eq.trans (block_t (id := 0) (by kernel_rfl) (TS101_1l c)) (by funext s h; kernel_rfl)
noncomputable def S101_4 (c : CF) (t1 t2 : AV) (h : Heap) : Res := opt (fieldAddrX 3 t1) fun t9 => opt (loadX none t9 h) fun t10 => opt (lenS t10) fun t11 => S101_3 c t1 t2 t11 (iL 0) h
theorem TS101_4 (c : CF) : (rk d101 P0 c 27 c101.s2).1 k101 [] k101 gK = L2 (S101_4 c) 1 2 := Eq.trans (seq_t (by kernel_rfl) (TS101_0 c) (seq_t (by kernel_rfl) (TS101_3 c) rfl)) (by funext s h; kernel_rfl)
noncomputable def S101_5 (c : CF) (t1 t2 : AV) (h : Heap) : Res := opt (fieldAddrX 3 t1) fun t5 => opt (loadX none t5 h) fun t6 => opt2 (c 182 [t6] h) fun t7 h1 => opt (fieldAddrX 3 t1) fun t8 => optH (storeX 1 t8 t7 h1) fun h2 => S101_4 c t1 t2 h2
theorem TS101_5 (c : CF) : (rk d101 P0 c 27 c101.snd).1 k101 [] k101 gK = L2 (S101_5 c) 1 2 := Eq.trans (seq_t (by kernel_rfl) (TS101_4 c) rfl) (by funext s h; kernel_rfl)
noncomputable def F101 (c : CF) (a0 : AV) (h : Heap) : Res := opt2 (box a0 h) fun t1 h1 => opt2 (box (.agg [(iL 0),eL,eL,nL]) h1) fun t2 h2 => S101_5 c t1 t2 h2
theorem TF101 (c : CF) (a0 : AV) (h : Heap) : (rk d101 P0 c 27 c101).1 k101 [] k101 gK (argsTr gl 0 [a0]) h = F101 c a0 h := Eq.trans (congrFun (congrFun (seq_t (by kernel_rfl) (TS101_5 c) rfl) _) _) (by kernel_rfl)
noncomputable def N101 : FnF := n1 F101
theorem N101_ok : FnOk P0 gl 101 N101 := n1_ok namesOk mixedOrders lowOk Tryz.func101 (by kernel_rfl) (by kernel_rfl) (by kernel_rfl) TF101
noncomputable def c102 : Code := codeOf Tryz.f102
noncomputable def k102 : Kt := finK P0 Tryz.f102.results.toList
def d102 : List Nat := []
noncomputable def F102 (c : CF) (a0 a1 : AV) (h : Heap) : Res := opt (lenS a0) fun t6 => opt (convI .u64 t6) fun t10 => opt2 (c 83 [t10] h) fun t11 h1 => opt2 (c 184 [a0,(iL 0),t6,t11,a1] h1) fun t13 h2 => some ((.lit (.tuple #[])),h2)
theorem TF102 (c : CF) (a0 a1 : AV) (h : Heap) : (rk d102 P0 c 14 c102).1 k102 [] k102 gK (argsTr gl 0 [a0,a1]) h = F102 c a0 a1 h := by kernel_rfl
noncomputable def N102 : FnF := n2 F102
theorem N102_ok : FnOk P0 gl 102 N102 := n2_ok namesOk mixedOrders lowOk Tryz.func102 (by kernel_rfl) (by kernel_rfl) (by kernel_rfl) TF102
noncomputable def c105 : Code := codeOf Tryz.f105
noncomputable def k105 : Kt := finK P0 Tryz.f105.results.toList
def d105 : List Nat := [2,4,10,12,14,17]
noncomputable def S105_0 (c : CF) (h : Heap) : Res := some ((iL 0),h)
theorem TS105_0 (c : CF) : (rk d105 P0 c 68 c105.s3).1 k105 [] k105 gK = L0 (S105_0 c) := by funext s h; kernel_rfl
noncomputable def S105_2 (c : CF) (r1 : A4) (t1 t4 t18 t19 t20 : AV) (h : Heap) : Res := opt (loadX (some 4) t4 h) fun t62 => opt2 (c 188 [t62] h) fun t63 h1 => opt (fastBin .neq t63 (iL 0)) fun t65 => test t65 (none) (opt (fastBin .add t20 (iL 1)) fun t67 => r1 t1 t18 t19 t67 h1)
theorem TS105_2 (c : CF) (r1 : A4) : (rk d105 P0 c 68 c105.s2.fst.snd.bd.bd.s2.fst.bd.s4).1 ((rk d105 P0 c 68 c105.s2.fst.snd.bd.bd.s3).1 (L4 r1 1 18 19 20) [(1,(L0 (S105_0 c)))] k105 gK) [(2,((rk d105 P0 c 68 c105.s2.fst.snd.bd.bd.s3).1 (L4 r1 1 18 19 20) [(1,(L0 (S105_0 c)))] k105 gK)),(1,(L0 (S105_0 c)))] k105 gK = L5 (S105_2 c r1) 1 4 18 19 20 := by funext s h; kernel_rfl
noncomputable def S105_3 (c : CF) (r1 : A4) (t1 t3 t4 t5 t18 t19 t20 t34 : AV) (h : Heap) : Res := test t34 (none) (opt (notX t5) fun t45 => test t45 (none) (opt (fastBin .gtr t3 (iL 0)) fun t48 => test t48 (opt (fieldAddrX 1 t1) fun t50 => opt (loadX none t50 h) fun t51 => eqH h h (opt (fastBin .sub t3 (iL 1)) fun t53 => opt (indexAddrS 4 t51 t53 h) fun t54 => eqH h h (opt (fieldAddrX 1 t54) fun t55 => opt (loadX none t55 h) fun t56 => eqH h h (opt (fieldAddrX 1 t4) fun t57 => opt (loadX none t57 h) fun t58 => eqH h h (opt (binX P0 .none .geq 9 t56 t58) fun t59 => test t59 (none) (S105_2 c r1 t1 t4 t18 t19 t20 h)))))) (S105_2 c r1 t1 t4 t18 t19 t20 h)))
theorem TS105_3 (c : CF) (r1 : A4) : (rk d105 P0 c 68 c105.s2.fst.snd.bd.bd.s2.fst.bd.s3.fst.bd.snd).1 (L5 (S105_2 c r1) 1 4 18 19 20) [(3,(L5 (S105_2 c r1) 1 4 18 19 20)),(2,((rk d105 P0 c 68 c105.s2.fst.snd.bd.bd.s3).1 (L4 r1 1 18 19 20) [(1,(L0 (S105_0 c)))] k105 gK)),(1,(L0 (S105_0 c)))] k105 gK = L8 (S105_3 c r1) 1 3 4 5 18 19 20 34 := by funext s h; kernel_rfl
noncomputable def S105_4 (c : CF) (r1 : A4) (t1 t3 t4 t5 t18 t19 t20 : AV) (h : Heap) : Res := opt (fieldAddrX 0 t4) fun t35 => opt (loadX none t35 h) fun t36 => opt (fastBin .lss t36 (iL 1)) fun t37 => test t37 (S105_3 c r1 t1 t3 t4 t5 t18 t19 t20 tL h) (opt (fieldAddrX 0 t4) fun t39 => opt (loadX none t39 h) fun t40 => opt (fastBin .gtr t40 (iL 3)) fun t41 => S105_3 c r1 t1 t3 t4 t5 t18 t19 t20 t41 h)
theorem TS105_4 (c : CF) (r1 : A4) : (rk d105 P0 c 68 c105.s2.fst.snd.bd.bd.s2.fst.bd.s3).1 ((rk d105 P0 c 68 c105.s2.fst.snd.bd.bd.s3).1 (L4 r1 1 18 19 20) [(1,(L0 (S105_0 c)))] k105 gK) [(2,((rk d105 P0 c 68 c105.s2.fst.snd.bd.bd.s3).1 (L4 r1 1 18 19 20) [(1,(L0 (S105_0 c)))] k105 gK)),(1,(L0 (S105_0 c)))] k105 gK = L7 (S105_4 c r1) 1 3 4 5 18 19 20 := Eq.trans (seq_t (by kernel_rfl) (TS105_2 c r1) (block_t (id := 3) (by kernel_rfl) (seq_t (by kernel_rfl) (TS105_3 c r1) rfl))) (by funext s h; kernel_rfl)
noncomputable def S105_5 (c : CF) (r1 : A4) (t1 t3 t4 t5 t18 t19 t20 : AV) (h : Heap) : Res := opt (fieldAddrX 0 t4) fun t28 => opt (loadX none t28 h) fun t29 => opt (fastBin .eql t29 (iL 1)) fun t30 => test t30 (none) (S105_4 c r1 t1 t3 t4 t5 t18 t19 t20 h)
theorem TS105_5 (c : CF) (r1 : A4) : (rk d105 P0 c 68 c105.s2.fst.snd.bd.bd.s2.fst.bd.s2).1 ((rk d105 P0 c 68 c105.s2.fst.snd.bd.bd.s3).1 (L4 r1 1 18 19 20) [(1,(L0 (S105_0 c)))] k105 gK) [(2,((rk d105 P0 c 68 c105.s2.fst.snd.bd.bd.s3).1 (L4 r1 1 18 19 20) [(1,(L0 (S105_0 c)))] k105 gK)),(1,(L0 (S105_0 c)))] k105 gK = L7 (S105_5 c r1) 1 3 4 5 18 19 20 := Eq.trans (seq_t (by kernel_rfl) (TS105_4 c r1) rfl) (by funext s h; kernel_rfl)
noncomputable def S105_6 (c : CF) (r1 : A4) (t1 t3 t4 t18 t19 t20 : AV) (h : Heap) : Res := opt (fieldAddrX 1 t4) fun t25 => opt (loadX none t25 h) fun t26 => opt2 (c 186 [t26] h) fun t27 h1 => S105_5 c r1 t1 t3 t4 t27 t18 t19 t20 h1
theorem TS105_6 (c : CF) (r1 : A4) : (rk d105 P0 c 68 c105.s2.fst.snd.bd.bd.s2.fst.bd.snd).1 ((rk d105 P0 c 68 c105.s2.fst.snd.bd.bd.s3).1 (L4 r1 1 18 19 20) [(1,(L0 (S105_0 c)))] k105 gK) [(2,((rk d105 P0 c 68 c105.s2.fst.snd.bd.bd.s3).1 (L4 r1 1 18 19 20) [(1,(L0 (S105_0 c)))] k105 gK)),(1,(L0 (S105_0 c)))] k105 gK = L6 (S105_6 c r1) 1 3 4 18 19 20 := Eq.trans (seq_t (by kernel_rfl) (TS105_5 c r1) rfl) (by funext s h; kernel_rfl)
noncomputable def S105_7 (c : CF) (r1 : A4) (t1 t18 t19 t20 : AV) (h : Heap) : Res := opt (indexAddrS 4 t18 t20 h) fun t23 => opt (loadX (some 4) t23 h) fun t24 => opt2 (box (.agg [(iL 0),eL,eL,nL]) h) fun t4 h1 => optH (storeX 4 t4 t24 h1) fun h2 => S105_6 c r1 t1 t20 t4 t18 t19 t20 h2
theorem TS105_7 (c : CF) (r1 : A4) : (rk d105 P0 c 68 c105.s2.fst.snd.bd.bd.s2).1 (L4 r1 1 18 19 20) [(1,(L0 (S105_0 c)))] k105 gK = L4 (S105_7 c r1) 1 18 19 20 := Eq.trans (seq_t (by kernel_rfl) rfl (block_t (id := 2) (by kernel_rfl) (seq_t (by kernel_rfl) (TS105_6 c r1) rfl))) (by funext s h; kernel_rfl)
noncomputable def S105_8 (c : CF) (r1 : A4) (t1 t18 t19 t20 t21 : AV) (h : Heap) : Res := test t21 (S105_7 c r1 t1 t18 t19 t20 h) (S105_0 c h)
theorem TS105_8 (c : CF) (r1 : A4) : (rk d105 P0 c 68 c105.s2.fst.snd.bd.bd.snd).1 (L4 r1 1 18 19 20) [(1,(L0 (S105_0 c)))] k105 gK = L5 (S105_8 c r1) 1 18 19 20 21 := Eq.trans (seq_t (by kernel_rfl) (TS105_7 c r1) rfl) (by funext s h; kernel_rfl)
noncomputable def S105_9b (c : CF) (r1 : A4) (t1 t18 t19 t20 : AV) (h : Heap) : Res := opt (fastBin .lss t20 t19) fun t21 => S105_8 c r1 t1 t18 t19 t20 t21 h
theorem TS105_9b (c : CF) (r1 : A4) : (rk d105 P0 c 68 c105.s2.fst.snd.bd.bd).1 (L4 r1 1 18 19 20) [(1,(L0 (S105_0 c)))] k105 gK = L4 (S105_9b c r1) 1 18 19 20 := Eq.trans (seq_t (by kernel_rfl) (TS105_8 c r1) rfl) (by funext s h; kernel_rfl)
noncomputable def S105_1l (c : CF) : Nat → A4
  | 0 => fun _ _ _ _ _ => none
  | k + 1 => S105_9b c (S105_1l c k)
theorem TS105_1l (c : CF) : (rk d105 P0 c 68 c105.s2.fst.snd.bd).1 (L0 (S105_0 c)) [(1,(L0 (S105_0 c)))] k105 gK = L4 (S105_1l c rounds) 1 18 19 20 := loop_t (by kernel_rfl) (loop_ind (A := fun m => L4 (S105_1l c m) 1 18 19 20) rfl (fun m => TS105_9b c (S105_1l c m)) rounds)
noncomputable def S105_10 (c : CF) (t1 t18 t19 t20 : AV) (h : Heap) : Res := S105_1l c rounds t1 t18 t19 t20 h
theorem TS105_10 (c : CF) : (rk d105 P0 c 68 c105.s2.fst.snd).1 (L0 (S105_0 c)) [] k105 gK = L4 (S105_10 c) 1 18 19 20 := Eq.trans (block_t (id := 1) (by kernel_rfl) (TS105_1l c)) (by funext s h; kernel_rfl)
noncomputable def S105_11 (c : CF) (t1 : AV) (h : Heap) : Res := opt (fieldAddrX 1 t1) fun t17 => opt (loadX none t17 h) fun t18 => opt (lenS t18) fun t19 => S105_10 c t1 t18 t19 (iL 0) h
theorem TS105_11 (c : CF) : (rk d105 P0 c 68 c105.s2).1 k105 [] k105 gK = L1 (S105_11 c) 1 := Eq.trans (seq_t (by kernel_rfl) (TS105_0 c) (seq_t (by kernel_rfl) (TS105_10 c) rfl)) (by funext s h; kernel_rfl)
noncomputable def S105_12 (c : CF) (t1 : AV) (h : Heap) : Res := opt (fieldAddrX 0 t1) fun t8 => opt (loadX none t8 h) fun t9 => opt2 (c 186 [t9] h) fun t10 h1 => opt (notX t10) fun t11 => test t11 (none) (opt (fieldAddrX 1 t1) fun t13 => opt (loadX none t13 h1) fun t14 => opt (lenS t14) fun t15 => opt (fastBin .gtr t15 (iL 32)) fun t16 => test t16 (none) (S105_11 c t1 h1))
theorem TS105_12 (c : CF) : (rk d105 P0 c 68 c105.snd).1 k105 [] k105 gK = L1 (S105_12 c) 1 := Eq.trans (seq_t (by kernel_rfl) (TS105_11 c) rfl) (by funext s h; kernel_rfl)
noncomputable def F105 (c : CF) (a0 : AV) (h : Heap) : Res := opt2 (box a0 h) fun t1 h1 => S105_12 c t1 h1
theorem TF105 (c : CF) (a0 : AV) (h : Heap) : (rk d105 P0 c 68 c105).1 k105 [] k105 gK (argsTr gl 0 [a0]) h = F105 c a0 h := Eq.trans (congrFun (congrFun (seq_t (by kernel_rfl) (TS105_12 c) rfl) _) _) (by kernel_rfl)
noncomputable def N105 : FnF := n1 F105
theorem N105_ok : FnOk P0 gl 105 N105 := n1_ok namesOk mixedOrders lowOk Tryz.func105 (by kernel_rfl) (by kernel_rfl) (by kernel_rfl) TF105
noncomputable def c106 : Code := codeOf Tryz.f106
noncomputable def k106 : Kt := finK P0 Tryz.f106.results.toList
def d106 : List Nat := [3]
noncomputable def S106_0 (c : CF) (t13 t14 : AV) (h : Heap) : Res := some ((.tup [t13,t14]),h)
theorem TS106_0 (c : CF) : (rk d106 P0 c 36 c106.s3).1 k106 [] k106 gK = L2 (S106_0 c) 13 14 := by funext s h; kernel_rfl
noncomputable def S106_1 (c : CF) (t3 t12 t13 t14 : AV) (h : Heap) : Res := opt (fastBin .eql t13 (iL 0)) fun t26 => test t26 (opt (fastBin .neq t12 t3) fun t30 => test t30 (none) (S106_0 c t13 t14 h)) (S106_0 c t13 t14 h)
theorem TS106_1 (c : CF) : (rk d106 P0 c 36 c106.s2).1 k106 [] k106 gK = L4 (S106_1 c) 3 12 13 14 := Eq.trans (seq_t (by kernel_rfl) (TS106_0 c) rfl) (by funext s h; kernel_rfl)
noncomputable def S106_2 (c : CF) (t0 t1 t3 t4 t5 t8 : AV) (h : Heap) : Res := opt (loadX none t4 h) fun t16 => opt (loadX (some 6) t5 h) fun t19 => opt (loadX (some 9) t8 h) fun t20 => opt2 (c 107 [t16,t0,t1,t19,t20] h) fun t21 h1 => opt (extractX t21 0) fun t22 => opt (extractX t21 1) fun t23 => opt (extractX t21 2) fun t24 => S106_1 c t3 t22 t23 t24 h1
theorem TS106_2 (c : CF) : (rk d106 P0 c 36 c106.snd).1 k106 [] k106 gK = L6 (S106_2 c) 0 1 3 4 5 8 := Eq.trans (seq_t (by kernel_rfl) (TS106_1 c) rfl) (by funext s h; kernel_rfl)
noncomputable def F106 (c : CF) (a0 a1 a2 a3 a4 a5 : AV) (h : Heap) : Res := opt2 (box a2 h) fun t8 h1 => S106_2 c a0 a1 a3 a4 a5 t8 h1
theorem TF106 (c : CF) (a0 a1 a2 a3 a4 a5 : AV) (h : Heap) : (rk d106 P0 c 36 c106).1 k106 [] k106 gK (argsTr gl 0 [a0,a1,a2,a3,a4,a5]) h = F106 c a0 a1 a2 a3 a4 a5 h := Eq.trans (congrFun (congrFun (seq_t (by kernel_rfl) (TS106_2 c) rfl) _) _) (by kernel_rfl)
noncomputable def N106 : FnF := n6 F106
theorem N106_ok : FnOk P0 gl 106 N106 := n6_ok namesOk mixedOrders lowOk Tryz.func106 (by kernel_rfl) (by kernel_rfl) (by kernel_rfl) TF106
noncomputable def c107 : Code := codeOf Tryz.f107
noncomputable def k107 : Kt := finK P0 Tryz.f107.results.toList
def d107 : List Nat := [2,6]
noncomputable def F107 (c : CF) (a0 a1 a2 a3 a4 : AV) (h : Heap) : Res := opt2 (box a3 h) fun t8 h1 => opt2 (box a4 h1) fun t9 h2 => opt (binX P0 .ptr .eql 77 a0 pL) fun t16 => test t16 (none) (opt (loadX (some 6) t8 h2) fun t18 => opt2 (c 189 [t18,a2] h2) fun t20 h3 => opt2 (c 190 [a1] h3) fun t22 h4 => opt (buildX [pL,nL,nL,(iL 0),(iL 0)] [(0,1),(1,1),(2,1),(3,1),(4,1)] [(0,a0),(1,t20),(2,t22)]) fun t23 => opt2 (box t23 h4) fun t24 h5 => opt (loadX (some 9) t9 h5) fun t26 => opt2 (c 191 [t24,t26] h5) fun t27 h6 => opt (nilCheckX t24) fun t29 => opt (fieldAddrX 3 t29) fun t30 => opt (loadX none t30 h6) fun t31 => opt (fastBin .neq t31 (iL 0)) fun t32 => test t32 (none) (some ((.tup [t27,(iL 0),(iL 0)]),h6)))
theorem TF107 (c : CF) (a0 a1 a2 a3 a4 : AV) (h : Heap) : (rk d107 P0 c 42 c107).1 k107 [] k107 gK (argsTr gl 0 [a0,a1,a2,a3,a4]) h = F107 c a0 a1 a2 a3 a4 h := by kernel_rfl
noncomputable def N107 : FnF := n5 F107
theorem N107_ok : FnOk P0 gl 107 N107 := n5_ok namesOk mixedOrders lowOk Tryz.func107 (by kernel_rfl) (by kernel_rfl) (by kernel_rfl) TF107
noncomputable def c108 : Code := codeOf Tryz.f108
noncomputable def k108 : Kt := finK P0 Tryz.f108.results.toList
def d108 : List Nat := []
noncomputable def S108_0 (c : CF) (t2 t3 : AV) (h : Heap) : Res := opt (loadX (some 3) t3 h) fun t72 => optH (storeX 3 t2 t72 h) fun h1 => opt (loadX (some 3) t2 h1) fun res => some (res,h1)
theorem TS108_0 (c : CF) : (rk d108 P0 c 73 c108.s5).1 k108 [] k108 gK = L2 (S108_0 c) 2 3 := by funext s h; kernel_rfl
noncomputable def S108_2b (c : CF) (r1 : A5) (t2 t3 t58 t59 t60 : AV) (h : Heap) : Res := opt (fastBin .lss t60 t59) fun t61 => test t61 (opt (indexAddrS 12 t58 t60 h) fun t62 => opt (loadX (some 12) t62 h) fun t63 => opt2 (box (.agg [eL,nL,eL,(iL 0),(iL 0),eL,cL,eL,eL,nL,nL,nL]) h) fun t11 h1 => optH (storeX 12 t11 t63 h1) fun h2 => opt (indexAddrA 3 1 t3 (iL 2)) fun t64 => opt (loadX none t64 h2) fun t65 => opt (fieldAddrX 0 t11) fun t66 => opt (loadX none t66 h2) fun t67 => opt2 (bsliceX 1 eL 1 [(0,t67)] h2) fun t68 h3 => opt2 (appendX 1 16 t65 t68 h3) fun t69 h4 => opt (indexAddrA 3 1 t3 (iL 2)) fun t70 => optH (storeX 1 t70 t69 h4) fun h5 => opt (fastBin .add t60 (iL 1)) fun t71 => r1 t2 t3 t58 t59 t71 h5) (S108_0 c t2 t3 h)
theorem TS108_2b (c : CF) (r1 : A5) : (rk d108 P0 c 73 c108.s4.fst.snd.bd.bd).1 (L5 r1 2 3 58 59 60) [(6,(L2 (S108_0 c) 2 3))] k108 gK = L5 (S108_2b c r1) 2 3 58 59 60 := by funext s h; kernel_rfl
noncomputable def S108_1l (c : CF) : Nat → A5
  | 0 => fun _ _ _ _ _ _ => none
  | k + 1 => S108_2b c (S108_1l c k)
theorem TS108_1l (c : CF) : (rk d108 P0 c 73 c108.s4.fst.snd.bd).1 (L2 (S108_0 c) 2 3) [(6,(L2 (S108_0 c) 2 3))] k108 gK = L5 (S108_1l c rounds) 2 3 58 59 60 := loop_t (by kernel_rfl) (loop_ind (A := fun m => L5 (S108_1l c m) 2 3 58 59 60) rfl (fun m => TS108_2b c (S108_1l c m)) rounds)
noncomputable def S108_3 (c : CF) (t2 t3 t58 t59 t60 : AV) (h : Heap) : Res := S108_1l c rounds t2 t3 t58 t59 t60 h
theorem TS108_3 (c : CF) : (rk d108 P0 c 73 c108.s4.fst.snd).1 (L2 (S108_0 c) 2 3) [] k108 gK = L5 (S108_3 c) 2 3 58 59 60 := Eq.trans (block_t (id := 6) (by kernel_rfl) (TS108_1l c)) (by funext s h; kernel_rfl)
noncomputable def S108_4 (c : CF) (t1 t2 t3 : AV) (h : Heap) : Res := opt (fieldAddrX 5 t1) fun t57 => opt (loadX none t57 h) fun t58 => opt (lenS t58) fun t59 => S108_3 c t2 t3 t58 t59 (iL 0) h
theorem TS108_4 (c : CF) : (rk d108 P0 c 73 c108.s4).1 k108 [] k108 gK = L3 (S108_4 c) 1 2 3 := Eq.trans (seq_t (by kernel_rfl) (TS108_0 c) (seq_t (by kernel_rfl) (TS108_3 c) rfl)) (by funext s h; kernel_rfl)
noncomputable def S108_6b (c : CF) (r5 : A6) (t1 t2 t3 t43 t44 t45 : AV) (h : Heap) : Res := opt (fastBin .lss t45 t44) fun t46 => test t46 (opt (indexAddrS 11 t43 t45 h) fun t47 => opt (loadX (some 11) t47 h) fun t48 => opt2 (box (.agg [eL,eL,(iL 0),(iL 0),eL,cL,eL,eL,nL,nL,nL]) h) fun t9 h1 => optH (storeX 11 t9 t48 h1) fun h2 => opt (indexAddrA 3 1 t3 (iL 2)) fun t49 => opt (loadX none t49 h2) fun t50 => opt (fieldAddrX 0 t9) fun t51 => opt (loadX none t51 h2) fun t52 => opt2 (bsliceX 1 eL 1 [(0,t52)] h2) fun t53 h3 => opt2 (appendX 1 16 t50 t53 h3) fun t54 h4 => opt (indexAddrA 3 1 t3 (iL 2)) fun t55 => optH (storeX 1 t55 t54 h4) fun h5 => opt (fastBin .add t45 (iL 1)) fun t56 => r5 t1 t2 t3 t43 t44 t56 h5) (S108_4 c t1 t2 t3 h)
theorem TS108_6b (c : CF) (r5 : A6) : (rk d108 P0 c 73 c108.s3.fst.snd.bd.bd).1 (L6 r5 1 2 3 43 44 45) [(4,(L3 (S108_4 c) 1 2 3))] k108 gK = L6 (S108_6b c r5) 1 2 3 43 44 45 := by funext s h; kernel_rfl
noncomputable def S108_5l (c : CF) : Nat → A6
  | 0 => fun _ _ _ _ _ _ _ => none
  | k + 1 => S108_6b c (S108_5l c k)
theorem TS108_5l (c : CF) : (rk d108 P0 c 73 c108.s3.fst.snd.bd).1 (L3 (S108_4 c) 1 2 3) [(4,(L3 (S108_4 c) 1 2 3))] k108 gK = L6 (S108_5l c rounds) 1 2 3 43 44 45 := loop_t (by kernel_rfl) (loop_ind (A := fun m => L6 (S108_5l c m) 1 2 3 43 44 45) rfl (fun m => TS108_6b c (S108_5l c m)) rounds)
noncomputable def S108_7 (c : CF) (t1 t2 t3 t43 t44 t45 : AV) (h : Heap) : Res := S108_5l c rounds t1 t2 t3 t43 t44 t45 h
theorem TS108_7 (c : CF) : (rk d108 P0 c 73 c108.s3.fst.snd).1 (L3 (S108_4 c) 1 2 3) [] k108 gK = L6 (S108_7 c) 1 2 3 43 44 45 := Eq.trans (block_t (id := 4) (by kernel_rfl) (TS108_5l c)) (by funext s h; kernel_rfl)
noncomputable def S108_8 (c : CF) (t1 t2 t3 : AV) (h : Heap) : Res := opt (fieldAddrX 4 t1) fun t42 => opt (loadX none t42 h) fun t43 => opt (lenS t43) fun t44 => S108_7 c t1 t2 t3 t43 t44 (iL 0) h
theorem TS108_8 (c : CF) : (rk d108 P0 c 73 c108.s3).1 k108 [] k108 gK = L3 (S108_8 c) 1 2 3 := Eq.trans (seq_t (by kernel_rfl) (TS108_4 c) (seq_t (by kernel_rfl) (TS108_7 c) rfl)) (by funext s h; kernel_rfl)
noncomputable def S108_10 (c : CF) (r9 : A6) (t1 t2 t3 t13 t14 t15 : AV) (h : Heap) : Res := opt (fastBin .add t15 (iL 1)) fun t41 => r9 t1 t2 t3 t13 t14 t41 h
theorem TS108_10 (c : CF) (r9 : A6) : (rk d108 P0 c 73 c108.s2.fst.snd.bd.bd.s3).1 (L6 r9 1 2 3 13 14 15) [(0,(L3 (S108_8 c) 1 2 3))] k108 gK = L6 (S108_10 c r9) 1 2 3 13 14 15 := by funext s h; kernel_rfl
noncomputable def S108_12b (c : CF) (r9 : A6) (r11 : A9) (t1 t2 t3 t13 t14 t15 t27 t28 t29 : AV) (h : Heap) : Res := opt (fastBin .lss t29 t28) fun t30 => test t30 (opt (indexAddrS 2 t27 t29 h) fun t31 => opt (loadX (some 2) t31 h) fun t32 => opt2 (box (.agg [eL,nL]) h) fun t7 h1 => optH (storeX 2 t7 t32 h1) fun h2 => opt (indexAddrA 3 1 t3 (iL 1)) fun t33 => opt (loadX none t33 h2) fun t34 => opt (fieldAddrX 0 t7) fun t35 => opt (loadX none t35 h2) fun t36 => opt2 (bsliceX 1 eL 1 [(0,t36)] h2) fun t37 h3 => opt2 (appendX 1 16 t34 t37 h3) fun t38 h4 => opt (indexAddrA 3 1 t3 (iL 1)) fun t39 => optH (storeX 1 t39 t38 h4) fun h5 => opt (fastBin .add t29 (iL 1)) fun t40 => r11 t1 t2 t3 t13 t14 t15 t27 t28 t40 h5) (S108_10 c r9 t1 t2 t3 t13 t14 t15 h)
theorem TS108_12b (c : CF) (r9 : A6) (r11 : A9) : (rk d108 P0 c 73 c108.s2.fst.snd.bd.bd.s2.fst.bd.s3.bd.bd).1 (L9 r11 1 2 3 13 14 15 27 28 29) [(2,(L6 (S108_10 c r9) 1 2 3 13 14 15)),(1,(L6 (S108_10 c r9) 1 2 3 13 14 15)),(0,(L3 (S108_8 c) 1 2 3))] k108 gK = L9 (S108_12b c r9 r11) 1 2 3 13 14 15 27 28 29 := by funext s h; kernel_rfl
noncomputable def S108_11l (c : CF) (r9 : A6) : Nat → A9
  | 0 => fun _ _ _ _ _ _ _ _ _ _ => none
  | k + 1 => S108_12b c r9 (S108_11l c r9 k)
theorem TS108_11l (c : CF) (r9 : A6) : (rk d108 P0 c 73 c108.s2.fst.snd.bd.bd.s2.fst.bd.s3.bd).1 (L6 (S108_10 c r9) 1 2 3 13 14 15) [(2,(L6 (S108_10 c r9) 1 2 3 13 14 15)),(1,(L6 (S108_10 c r9) 1 2 3 13 14 15)),(0,(L3 (S108_8 c) 1 2 3))] k108 gK = L9 (S108_11l c r9 rounds) 1 2 3 13 14 15 27 28 29 := loop_t (by kernel_rfl) (loop_ind (A := fun m => L9 (S108_11l c r9 m) 1 2 3 13 14 15 27 28 29) rfl (fun m => TS108_12b c r9 (S108_11l c r9 m)) rounds)
noncomputable def S108_13 (c : CF) (r9 : A6) (t1 t2 t3 t13 t14 t15 t27 t28 t29 : AV) (h : Heap) : Res := S108_11l c r9 rounds t1 t2 t3 t13 t14 t15 t27 t28 t29 h
theorem TS108_13 (c : CF) (r9 : A6) : (rk d108 P0 c 73 c108.s2.fst.snd.bd.bd.s2.fst.bd.s3).1 (L6 (S108_10 c r9) 1 2 3 13 14 15) [(1,(L6 (S108_10 c r9) 1 2 3 13 14 15)),(0,(L3 (S108_8 c) 1 2 3))] k108 gK = L9 (S108_13 c r9) 1 2 3 13 14 15 27 28 29 := Eq.trans (block_t (id := 2) (by kernel_rfl) (TS108_11l c r9)) (by funext s h; kernel_rfl)
noncomputable def S108_14 (c : CF) (r9 : A6) (t1 t2 t3 t5 t13 t14 t15 : AV) (h : Heap) : Res := opt (fieldAddrX 1 t5) fun t26 => opt (loadX none t26 h) fun t27 => opt (lenS t27) fun t28 => S108_13 c r9 t1 t2 t3 t13 t14 t15 t27 t28 (iL 0) h
theorem TS108_14 (c : CF) (r9 : A6) : (rk d108 P0 c 73 c108.s2.fst.snd.bd.bd.s2.fst.bd.s2).1 (L6 (S108_10 c r9) 1 2 3 13 14 15) [(1,(L6 (S108_10 c r9) 1 2 3 13 14 15)),(0,(L3 (S108_8 c) 1 2 3))] k108 gK = L7 (S108_14 c r9) 1 2 3 5 13 14 15 := Eq.trans (seq_t (by kernel_rfl) (TS108_13 c r9) rfl) (by funext s h; kernel_rfl)
noncomputable def S108_15 (c : CF) (r9 : A6) (t1 t2 t3 t5 t13 t14 t15 : AV) (h : Heap) : Res := opt (indexAddrA 3 1 t3 (iL 0)) fun t19 => opt (loadX none t19 h) fun t20 => opt (fieldAddrX 0 t5) fun t21 => opt (loadX none t21 h) fun t22 => opt2 (bsliceX 1 eL 1 [(0,t22)] h) fun t23 h1 => opt2 (appendX 1 16 t20 t23 h1) fun t24 h2 => opt (indexAddrA 3 1 t3 (iL 0)) fun t25 => optH (storeX 1 t25 t24 h2) fun h3 => S108_14 c r9 t1 t2 t3 t5 t13 t14 t15 h3
theorem TS108_15 (c : CF) (r9 : A6) : (rk d108 P0 c 73 c108.s2.fst.snd.bd.bd.s2.fst.bd.snd).1 (L6 (S108_10 c r9) 1 2 3 13 14 15) [(1,(L6 (S108_10 c r9) 1 2 3 13 14 15)),(0,(L3 (S108_8 c) 1 2 3))] k108 gK = L7 (S108_15 c r9) 1 2 3 5 13 14 15 := Eq.trans (seq_t (by kernel_rfl) (TS108_14 c r9) rfl) (by funext s h; kernel_rfl)
noncomputable def S108_16 (c : CF) (r9 : A6) (t1 t2 t3 t13 t14 t15 : AV) (h : Heap) : Res := opt (indexAddrS 2 t13 t15 h) fun t17 => opt (loadX (some 2) t17 h) fun t18 => opt2 (box (.agg [eL,nL]) h) fun t5 h1 => optH (storeX 2 t5 t18 h1) fun h2 => S108_15 c r9 t1 t2 t3 t5 t13 t14 t15 h2
theorem TS108_16 (c : CF) (r9 : A6) : (rk d108 P0 c 73 c108.s2.fst.snd.bd.bd.s2).1 (L6 r9 1 2 3 13 14 15) [(0,(L3 (S108_8 c) 1 2 3))] k108 gK = L6 (S108_16 c r9) 1 2 3 13 14 15 := Eq.trans (seq_t (by kernel_rfl) (TS108_10 c r9) (block_t (id := 1) (by kernel_rfl) (seq_t (by kernel_rfl) (TS108_15 c r9) rfl))) (by funext s h; kernel_rfl)
noncomputable def S108_17 (c : CF) (r9 : A6) (t1 t2 t3 t13 t14 t15 t16 : AV) (h : Heap) : Res := test t16 (S108_16 c r9 t1 t2 t3 t13 t14 t15 h) (S108_8 c t1 t2 t3 h)
theorem TS108_17 (c : CF) (r9 : A6) : (rk d108 P0 c 73 c108.s2.fst.snd.bd.bd.snd).1 (L6 r9 1 2 3 13 14 15) [(0,(L3 (S108_8 c) 1 2 3))] k108 gK = L7 (S108_17 c r9) 1 2 3 13 14 15 16 := Eq.trans (seq_t (by kernel_rfl) (TS108_16 c r9) rfl) (by funext s h; kernel_rfl)
noncomputable def S108_18b (c : CF) (r9 : A6) (t1 t2 t3 t13 t14 t15 : AV) (h : Heap) : Res := opt (fastBin .lss t15 t14) fun t16 => S108_17 c r9 t1 t2 t3 t13 t14 t15 t16 h
theorem TS108_18b (c : CF) (r9 : A6) : (rk d108 P0 c 73 c108.s2.fst.snd.bd.bd).1 (L6 r9 1 2 3 13 14 15) [(0,(L3 (S108_8 c) 1 2 3))] k108 gK = L6 (S108_18b c r9) 1 2 3 13 14 15 := Eq.trans (seq_t (by kernel_rfl) (TS108_17 c r9) rfl) (by funext s h; kernel_rfl)
noncomputable def S108_9l (c : CF) : Nat → A6
  | 0 => fun _ _ _ _ _ _ _ => none
  | k + 1 => S108_18b c (S108_9l c k)
theorem TS108_9l (c : CF) : (rk d108 P0 c 73 c108.s2.fst.snd.bd).1 (L3 (S108_8 c) 1 2 3) [(0,(L3 (S108_8 c) 1 2 3))] k108 gK = L6 (S108_9l c rounds) 1 2 3 13 14 15 := loop_t (by kernel_rfl) (loop_ind (A := fun m => L6 (S108_9l c m) 1 2 3 13 14 15) rfl (fun m => TS108_18b c (S108_9l c m)) rounds)
noncomputable def S108_19 (c : CF) (t1 t2 t3 t13 t14 t15 : AV) (h : Heap) : Res := S108_9l c rounds t1 t2 t3 t13 t14 t15 h
theorem TS108_19 (c : CF) : (rk d108 P0 c 73 c108.s2.fst.snd).1 (L3 (S108_8 c) 1 2 3) [] k108 gK = L6 (S108_19 c) 1 2 3 13 14 15 := Eq.trans (block_t (id := 0) (by kernel_rfl) (TS108_9l c)) (by funext s h; kernel_rfl)
noncomputable def S108_20 (c : CF) (t1 t2 t3 : AV) (h : Heap) : Res := opt (fieldAddrX 3 t1) fun t12 => opt (loadX none t12 h) fun t13 => opt (lenS t13) fun t14 => S108_19 c t1 t2 t3 t13 t14 (iL 0) h
theorem TS108_20 (c : CF) : (rk d108 P0 c 73 c108.s2).1 k108 [] k108 gK = L3 (S108_20 c) 1 2 3 := Eq.trans (seq_t (by kernel_rfl) (TS108_8 c) (seq_t (by kernel_rfl) (TS108_19 c) rfl)) (by funext s h; kernel_rfl)
noncomputable def S108_21 (c : CF) (t1 t2 : AV) (h : Heap) : Res := opt2 (box (.agg [nL,nL,nL]) h) fun t3 h1 => S108_20 c t1 t2 t3 h1
theorem TS108_21 (c : CF) : (rk d108 P0 c 73 c108.snd).1 k108 [] k108 gK = L2 (S108_21 c) 1 2 := Eq.trans (seq_t (by kernel_rfl) (TS108_20 c) rfl) (by funext s h; kernel_rfl)
noncomputable def F108 (c : CF) (a0 : AV) (h : Heap) : Res := opt2 (box a0 h) fun t1 h1 => opt2 (box (.agg [nL,nL,nL]) h1) fun t2 h2 => S108_21 c t1 t2 h2
theorem TF108 (c : CF) (a0 : AV) (h : Heap) : (rk d108 P0 c 73 c108).1 k108 [] k108 gK (argsTr gl 0 [a0]) h = F108 c a0 h := Eq.trans (congrFun (congrFun (seq_t (by kernel_rfl) (TS108_21 c) rfl) _) _) (by kernel_rfl)
noncomputable def N108 : FnF := n1 F108
theorem N108_ok : FnOk P0 gl 108 N108 := n1_ok namesOk mixedOrders lowOk Tryz.func108 (by kernel_rfl) (by kernel_rfl) (by kernel_rfl) TF108
noncomputable def c109 : Code := codeOf Tryz.f109
noncomputable def k109 : Kt := finK P0 Tryz.f109.results.toList
def d109 : List Nat := [5]
noncomputable def S109_0 (c : CF) (h : Heap) : Res := some ((.tup [eL,fL]),h)
theorem TS109_0 (c : CF) : (rk d109 P0 c 20 c109.s2).1 k109 [] k109 gK = L0 (S109_0 c) := by funext s h; kernel_rfl
noncomputable def S109_2b (c : CF) (r1 : A4) (t0 t6 t7 t8 : AV) (h : Heap) : Res := opt (fastBin .lss t8 t7) fun t9 => test t9 (opt (indexAddrS 1 t6 t8 h) fun t11 => opt (loadX none t11 h) fun t12 => opt (cutZ 1 t0 none (some t8) none h) fun t15 => opt2 (c 37 [t15,t12] h) fun t17 h1 => test t17 (none) (opt (fastBin .add t8 (iL 1)) fun t19 => r1 t0 t6 t7 t19 h1)) (S109_0 c h)
theorem TS109_2b (c : CF) (r1 : A4) : (rk d109 P0 c 20 c109.snd.fst.snd.bd.bd).1 (L4 r1 0 6 7 8) [(0,(L0 (S109_0 c)))] k109 gK = L4 (S109_2b c r1) 0 6 7 8 := by funext s h; kernel_rfl
noncomputable def S109_1l (c : CF) : Nat → A4
  | 0 => fun _ _ _ _ _ => none
  | k + 1 => S109_2b c (S109_1l c k)
theorem TS109_1l (c : CF) : (rk d109 P0 c 20 c109.snd.fst.snd.bd).1 (L0 (S109_0 c)) [(0,(L0 (S109_0 c)))] k109 gK = L4 (S109_1l c rounds) 0 6 7 8 := loop_t (by kernel_rfl) (loop_ind (A := fun m => L4 (S109_1l c m) 0 6 7 8) rfl (fun m => TS109_2b c (S109_1l c m)) rounds)
noncomputable def S109_3 (c : CF) (t0 t6 t7 t8 : AV) (h : Heap) : Res := S109_1l c rounds t0 t6 t7 t8 h
theorem TS109_3 (c : CF) : (rk d109 P0 c 20 c109.snd.fst.snd).1 (L0 (S109_0 c)) [] k109 gK = L4 (S109_3 c) 0 6 7 8 := Eq.trans (block_t (id := 0) (by kernel_rfl) (TS109_1l c)) (by funext s h; kernel_rfl)
noncomputable def S109_4 (c : CF) (t0 : AV) (h : Heap) : Res := opt (lenS t0) fun t7 => S109_3 c t0 t0 t7 (iL 0) h
theorem TS109_4 (c : CF) : (rk d109 P0 c 20 c109.snd).1 k109 [] k109 gK = L1 (S109_4 c) 0 := Eq.trans (seq_t (by kernel_rfl) (TS109_0 c) (seq_t (by kernel_rfl) (TS109_3 c) rfl)) (by funext s h; kernel_rfl)
noncomputable def F109 (c : CF) (a0 : AV) (h : Heap) : Res := S109_4 c a0 h
theorem TF109 (c : CF) (a0 : AV) (h : Heap) : (rk d109 P0 c 20 c109).1 k109 [] k109 gK (argsTr gl 0 [a0]) h = F109 c a0 h := Eq.trans (congrFun (congrFun (seq_t (by kernel_rfl) (TS109_4 c) rfl) _) _) (by kernel_rfl)
noncomputable def N109 : FnF := n1 F109
theorem N109_ok : FnOk P0 gl 109 N109 := n1_ok namesOk mixedOrders lowOk Tryz.func109 (by kernel_rfl) (by kernel_rfl) (by kernel_rfl) TF109
noncomputable def c110 : Code := codeOf Tryz.f110
noncomputable def k110 : Kt := finK P0 Tryz.f110.results.toList
def d110 : List Nat := []
noncomputable def F110 (c : CF) (a0 a1 : AV) (h : Heap) : Res := opt2 (c 192 [a0,a1] h) fun t7 h1 => opt (fastBin .geq t7 (iL 0)) fun t8 => some (t8,h1)
theorem TF110 (c : CF) (a0 a1 : AV) (h : Heap) : (rk d110 P0 c 9 c110).1 k110 [] k110 gK (argsTr gl 0 [a0,a1]) h = F110 c a0 a1 h := by kernel_rfl
noncomputable def N110 : FnF := n2 F110
theorem N110_ok : FnOk P0 gl 110 N110 := n2_ok namesOk mixedOrders lowOk Tryz.func110 (by kernel_rfl) (by kernel_rfl) (by kernel_rfl) TF110
noncomputable def c111 : Code := codeOf Tryz.f111
noncomputable def k111 : Kt := finK P0 Tryz.f111.results.toList
def d111 : List Nat := []
noncomputable def F111 (c : CF) (a0 a1 : AV) (h : Heap) : Res := opt2 (box a0 h) fun t2 h1 => opt (fieldAddrX 0 t2) fun t4 => opt (loadX none t4 h1) fun t5 => opt (fieldAddrX 0 a1) fun t6 => opt (loadX none t6 h1) fun t7 => opt (fastBin .eql t5 t7) fun t8 => some (t8,h1)
theorem TF111 (c : CF) (a0 a1 : AV) (h : Heap) : (rk d111 P0 c 9 c111).1 k111 [] k111 gK (argsTr gl 0 [a0,a1]) h = F111 c a0 a1 h := by kernel_rfl
noncomputable def N111 : FnF := n2 F111
theorem N111_ok : FnOk P0 gl 111 N111 := n2_ok namesOk mixedOrders lowOk Tryz.func111 (by kernel_rfl) (by kernel_rfl) (by kernel_rfl) TF111
noncomputable def c112 : Code := codeOf Tryz.f112
noncomputable def k112 : Kt := finK P0 Tryz.f112.results.toList
def d112 : List Nat := [3]
noncomputable def F112 (c : CF) (a0 a1 a2 : AV) (h : Heap) : Res := opt2 (box a1 h) fun t4 h1 => opt2 (box (.agg [(iL 0),eL,eL,nL]) h1) fun t6 h2 => opt2 (c 193 [a0,(.fn (.func 194) [] [t4])] h2) fun t11 h3 => opt (fastBin .lss t11 (iL 0)) fun t13 => test t13 (none) (opt (indexAddrS 2 a0 t11 h3) fun t17 => opt (loadX (some 2) t17 h3) fun t18 => opt2 (c 195 [t18,a2] h3) fun t20 h4 => opt (extractX t20 0) fun t21 => opt (extractX t20 1) fun t22 => optH (storeX 4 t6 t21 h4) fun h5 => opt (loadX (some 4) t6 h5) fun res => some ((.tup [res,t22]),h5))
theorem TF112 (c : CF) (a0 a1 a2 : AV) (h : Heap) : (rk d112 P0 c 23 c112).1 k112 [] k112 gK (argsTr gl 0 [a0,a1,a2]) h = F112 c a0 a1 a2 h := by kernel_rfl
noncomputable def N112 : FnF := n3 F112
theorem N112_ok : FnOk P0 gl 112 N112 := n3_ok namesOk mixedOrders lowOk Tryz.func112 (by kernel_rfl) (by kernel_rfl) (by kernel_rfl) TF112
noncomputable def c113 : Code := codeOf Tryz.f113
noncomputable def k113 : Kt := finK P0 Tryz.f113.results.toList
def d113 : List Nat := []
noncomputable def S113_1b (c : CF) (r0 : A6) (t0 t2 t8 t55 t56 t57 : AV) (h : Heap) : Res := opt (fastBin .lss t57 t56) fun t58 => test t58 (opt (indexAddrS 2 t55 t57 h) fun t60 => opt (loadX (some 2) t60 h) fun t61 => opt2 (box (.agg [eL,nL]) h) fun t10 h1 => optH (storeX 2 t10 t61 h1) fun h2 => opt (nilCheckX t0) fun t64 => opt (fieldAddrX 1 t64) fun t65 => opt (loadX none t65 h2) fun t66 => eqH h2 h2 (opt (fieldAddrX 0 t10) fun t68 => opt (loadX none t68 h2) fun t69 => eqH h2 h2 (opt (fastBin .add t2 t69) fun t70 => opt (lookupX .str (.agg [eL,(iL 0),eL,nL]) t66 t70 true h2) fun t71 => eqH h2 h2 (opt (extractX t71 0) fun t72 => opt (extractX t71 1) fun t73 => opt2 (box (.agg [eL,(iL 0),eL,nL]) h2) fun t11 h3 => opt (lookupX .str (.agg [eL,(iL 0),eL,nL]) t66 t70 true h3) fun t71_1 => eqK t71_1 t71 (eqH h3 h3 (opt (loadX none t68 h3) fun t69_1 => eqK t69_1 t69 (eqH h3 h3 (opt (loadX none t65 h3) fun t66_1 => eqK t66_1 t66 (eqH h3 h3 (optH (storeX 4 t11 t72 h3) fun h4 => opt (notX t73) fun t75 => test t75 (opt (nilCheckX t0) fun t77 => opt (fieldAddrX 1 t77) fun t78 => opt (loadX none t78 h4) fun t79 => eqH h4 h4 (opt (fieldAddrX 0 t10) fun t81 => opt (loadX none t81 h4) fun t82 => eqH h4 h4 (opt (fastBin .add t2 t82) fun t83 => opt (loadX (some 2) t10 h4) fun t86 => eqH h4 h4 (opt (buildX [eL,(iL 0),eL,nL] [(0,1),(1,1),(2,2)] [(0,t8),(1,t57),(2,t86)]) fun t87 => optH (mapSetX .str t79 t83 t87 h4) fun h5 => opt (fastBin .add t57 (iL 1)) fun t88 => r0 t0 t2 t8 t55 t56 t88 h5)))) (opt (fastBin .add t57 (iL 1)) fun t88_1 => r0 t0 t2 t8 t55 t56 t88_1 h4))))))))))) (some ((.lit (.tuple #[])),h))
theorem TS113_1b (c : CF) (r0 : A6) : (rk d113 P0 c 89 c113.s6.bd.bd).1 (L6 r0 0 2 8 55 56 57) [(0,k113)] k113 gK = L6 (S113_1b c r0) 0 2 8 55 56 57 := by funext s h; kernel_rfl
noncomputable def S113_0l (c : CF) : Nat → A6
  | 0 => fun _ _ _ _ _ _ _ => none
  | k + 1 => S113_1b c (S113_0l c k)
theorem TS113_0l (c : CF) : (rk d113 P0 c 89 c113.s6.bd).1 k113 [(0,k113)] k113 gK = L6 (S113_0l c rounds) 0 2 8 55 56 57 := loop_t (by kernel_rfl) (loop_ind (A := fun m => L6 (S113_0l c m) 0 2 8 55 56 57) rfl (fun m => TS113_1b c (S113_0l c m)) rounds)
noncomputable def S113_2 (c : CF) (t0 t2 t8 t55 t56 t57 : AV) (h : Heap) : Res := S113_0l c rounds t0 t2 t8 t55 t56 t57 h
theorem TS113_2 (c : CF) : (rk d113 P0 c 89 c113.s6).1 k113 [] k113 gK = L6 (S113_2 c) 0 2 8 55 56 57 := Eq.trans (block_t (id := 0) (by kernel_rfl) (TS113_0l c)) (by funext s h; kernel_rfl)
noncomputable def S113_3 (c : CF) (t0 t2 t7 t8 : AV) (h : Heap) : Res := opt (fieldAddrX 3 t7) fun t54 => opt (loadX none t54 h) fun t55 => opt (lenS t55) fun t56 => S113_2 c t0 t2 t8 t55 t56 (iL 0) h
theorem TS113_3 (c : CF) : (rk d113 P0 c 89 c113.s5).1 k113 [] k113 gK = L4 (S113_3 c) 0 2 7 8 := Eq.trans (seq_t (by kernel_rfl) (TS113_2 c) rfl) (by funext s h; kernel_rfl)
noncomputable def S113_4 (c : CF) (t0 t2 t7 t8 : AV) (h : Heap) : Res := opt (nilCheckX t0) fun t48 => opt (fieldAddrX 2 t48) fun t49 => opt (loadX none t49 h) fun t50 => eqH h h (opt (fieldAddrX 3 t7) fun t52 => opt (loadX none t52 h) fun t53 => eqH h h (optH (mapSetX .str t50 t8 t53 h) fun h1 => S113_3 c t0 t2 t7 t8 h1))
theorem TS113_4 (c : CF) : (rk d113 P0 c 89 c113.s4).1 k113 [] k113 gK = L4 (S113_4 c) 0 2 7 8 := Eq.trans (seq_t (by kernel_rfl) (TS113_3 c) rfl) (by funext s h; kernel_rfl)
noncomputable def S113_5 (c : CF) (t0 t2 t7 t8 : AV) (h : Heap) : Res := opt (fieldAddrX 1 t7) fun t43 => opt (loadX none t43 h) fun t44 => opt2 (c 187 [t44] h) fun t45 h1 => opt (notX t45) fun t46 => test t46 (some ((.lit (.tuple #[])),h1)) (S113_4 c t0 t2 t7 t8 h1)
theorem TS113_5 (c : CF) : (rk d113 P0 c 89 c113.s3).1 k113 [] k113 gK = L4 (S113_5 c) 0 2 7 8 := Eq.trans (seq_t (by kernel_rfl) (TS113_4 c) rfl) (by funext s h; kernel_rfl)
noncomputable def S113_6 (c : CF) (t0 t1 t2 t7 : AV) (h : Heap) : Res := opt (fastBin .add t1 (sL [46])) fun t39 => opt (fieldAddrX 1 t7) fun t40 => opt (loadX none t40 h) fun t41 => opt (fastBin .add t39 t41) fun t42 => S113_5 c t0 t2 t7 t42 h
theorem TS113_6 (c : CF) : (rk d113 P0 c 89 c113.s2).1 k113 [] k113 gK = L4 (S113_6 c) 0 1 2 7 := Eq.trans (seq_t (by kernel_rfl) (TS113_5 c) rfl) (by funext s h; kernel_rfl)
noncomputable def S113_7 (c : CF) (t0 t2 t7 t28 : AV) (h : Heap) : Res := test t28 (opt (nilCheckX t0) fun t30 => opt (fieldAddrX 0 t30) fun t31 => opt (loadX none t31 h) fun t32 => eqH h h (opt (fieldAddrX 1 t7) fun t34 => opt (loadX none t34 h) fun t35 => eqH h h (opt (fastBin .add t2 t35) fun t36 => opt (loadX (some 4) t7 h) fun t37 => eqH h h (optH (mapSetX .str t32 t36 t37 h) fun h1 => some ((.lit (.tuple #[])),h1))))) (some ((.lit (.tuple #[])),h))
theorem TS113_7 (c : CF) : (rk d113 P0 c 89 c113.snd.fst.snd.thn.fst.snd).1 ((rk d113 P0 c 89 c113.snd.fst.snd.thn.snd).1 (L4 (S113_6 c) 0 1 2 7) [] k113 gK) [] k113 gK = L4 (S113_7 c) 0 2 7 28 := by funext s h; kernel_rfl
noncomputable def S113_8 (c : CF) (t0 t2 t7 : AV) (h : Heap) : Res := opt (fieldAddrX 1 t7) fun t16 => opt (loadX none t16 h) fun t17 => opt2 (c 186 [t17] h) fun t18 h1 => test t18 (opt (fieldAddrX 0 t7) fun t20 => opt (loadX none t20 h1) fun t21 => opt (fastBin .eql t21 (iL 2)) fun t22 => test t22 (S113_7 c t0 t2 t7 tL h1) (opt (fieldAddrX 0 t7) fun t24 => opt (loadX none t24 h1) fun t25 => opt (fastBin .eql t25 (iL 3)) fun t26 => S113_7 c t0 t2 t7 t26 h1)) (S113_7 c t0 t2 t7 fL h1)
theorem TS113_8 (c : CF) : (rk d113 P0 c 89 c113.snd.fst.snd.thn).1 (L4 (S113_6 c) 0 1 2 7) [] k113 gK = L3 (S113_8 c) 0 2 7 := Eq.trans (seq_t (by kernel_rfl) rfl (seq_t (by kernel_rfl) (TS113_7 c) rfl)) (by funext s h; kernel_rfl)
noncomputable def S113_9 (c : CF) (t0 t1 t2 t7 t15 : AV) (h : Heap) : Res := test t15 (S113_8 c t0 t2 t7 h) (S113_6 c t0 t1 t2 t7 h)
theorem TS113_9 (c : CF) : (rk d113 P0 c 89 c113.snd.fst.snd).1 (L4 (S113_6 c) 0 1 2 7) [] k113 gK = L5 (S113_9 c) 0 1 2 7 15 := Eq.trans (cond_t (by kernel_rfl) (TS113_8 c) rfl) (by funext s h; kernel_rfl)
noncomputable def S113_10 (c : CF) (t0 t1 t2 t7 : AV) (h : Heap) : Res := opt (fieldAddrX 0 t7) fun t13 => opt (loadX none t13 h) fun t14 => opt (fastBin .neq t14 (iL 1)) fun t15 => S113_9 c t0 t1 t2 t7 t15 h
theorem TS113_10 (c : CF) : (rk d113 P0 c 89 c113.snd).1 k113 [] k113 gK = L4 (S113_10 c) 0 1 2 7 := Eq.trans (seq_t (by kernel_rfl) (TS113_6 c) (seq_t (by kernel_rfl) (TS113_9 c) rfl)) (by funext s h; kernel_rfl)
noncomputable def F113 (c : CF) (a0 a1 a2 a3 : AV) (h : Heap) : Res := opt2 (box a3 h) fun t7 h1 => S113_10 c a0 a1 a2 t7 h1
theorem TF113 (c : CF) (a0 a1 a2 a3 : AV) (h : Heap) : (rk d113 P0 c 89 c113).1 k113 [] k113 gK (argsTr gl 0 [a0,a1,a2,a3]) h = F113 c a0 a1 a2 a3 h := Eq.trans (congrFun (congrFun (seq_t (by kernel_rfl) (TS113_10 c) rfl) _) _) (by kernel_rfl)
noncomputable def N113 : FnF := n4 F113
theorem N113_ok : FnOk P0 gl 113 N113 := n4_ok namesOk mixedOrders lowOk Tryz.func113 (by kernel_rfl) (by kernel_rfl) (by kernel_rfl) TF113
noncomputable def c114 : Code := codeOf Tryz.f114
noncomputable def k114 : Kt := finK P0 Tryz.f114.results.toList
def d114 : List Nat := []
noncomputable def S114_1b (c : CF) (r0 : A5) (t0 t3 t45 t46 t47 : AV) (h : Heap) : Res := opt (fastBin .lss t47 t46) fun t48 => test t48 (opt (indexAddrS 12 t45 t47 h) fun t49 => opt (loadX (some 12) t49 h) fun t50 => opt2 (box (.agg [eL,nL,eL,(iL 0),(iL 0),eL,cL,eL,eL,nL,nL,nL]) h) fun t9 h1 => optH (storeX 12 t9 t50 h1) fun h2 => opt (fieldAddrX 0 t3) fun t52 => opt (loadX none t52 h2) fun t53 => eqH h2 h2 (opt (fieldAddrX 0 t9) fun t54 => opt (loadX none t54 h2) fun t55 => eqH h2 h2 (opt (fieldAddrX 1 t9) fun t56 => opt (loadX none t56 h2) fun t57 => eqH h2 h2 (opt (fieldAddrX 2 t9) fun t58 => opt (loadX none t58 h2) fun t59 => eqH h2 h2 (opt2 (c 117 [t57,t59] h2) fun t60 h3 => eqH h3 h2 (opt (buildX [(iL 0),eL,eL,nL] [(0,1),(1,1),(2,1),(3,1)] [(0,(iL 3)),(1,t55),(2,t60)]) fun t61 => opt2 (c 113 [t0,t53,eL,t61] h2) fun t62 h4 => opt (fastBin .add t47 (iL 1)) fun t63 => r0 t0 t3 t45 t46 t63 h4)))))) (some ((.lit (.tuple #[])),h))
theorem TS114_1b (c : CF) (r0 : A5) : (rk d114 P0 c 64 c114.s4.bd.bd).1 (L5 r0 0 3 45 46 47) [(4,k114)] k114 gK = L5 (S114_1b c r0) 0 3 45 46 47 := by funext s h; kernel_rfl
noncomputable def S114_0l (c : CF) : Nat → A5
  | 0 => fun _ _ _ _ _ _ => none
  | k + 1 => S114_1b c (S114_0l c k)
theorem TS114_0l (c : CF) : (rk d114 P0 c 64 c114.s4.bd).1 k114 [(4,k114)] k114 gK = L5 (S114_0l c rounds) 0 3 45 46 47 := loop_t (by kernel_rfl) (loop_ind (A := fun m => L5 (S114_0l c m) 0 3 45 46 47) rfl (fun m => TS114_1b c (S114_0l c m)) rounds)
noncomputable def S114_2 (c : CF) (t0 t3 t45 t46 t47 : AV) (h : Heap) : Res := S114_0l c rounds t0 t3 t45 t46 t47 h
theorem TS114_2 (c : CF) : (rk d114 P0 c 64 c114.s4).1 k114 [] k114 gK = L5 (S114_2 c) 0 3 45 46 47 := Eq.trans (block_t (id := 4) (by kernel_rfl) (TS114_0l c)) (by funext s h; kernel_rfl)
noncomputable def S114_3 (c : CF) (t0 t3 : AV) (h : Heap) : Res := opt (fieldAddrX 5 t3) fun t44 => opt (loadX none t44 h) fun t45 => opt (lenS t45) fun t46 => S114_2 c t0 t3 t45 t46 (iL 0) h
theorem TS114_3 (c : CF) : (rk d114 P0 c 64 c114.s3).1 k114 [] k114 gK = L2 (S114_3 c) 0 3 := Eq.trans (seq_t (by kernel_rfl) (TS114_2 c) rfl) (by funext s h; kernel_rfl)
noncomputable def S114_5b (c : CF) (r4 : A5) (t0 t3 t28 t29 t30 : AV) (h : Heap) : Res := opt (fastBin .lss t30 t29) fun t31 => test t31 (opt (indexAddrS 11 t28 t30 h) fun t32 => opt (loadX (some 11) t32 h) fun t33 => opt2 (box (.agg [eL,eL,(iL 0),(iL 0),eL,cL,eL,eL,nL,nL,nL]) h) fun t7 h1 => optH (storeX 11 t7 t33 h1) fun h2 => opt (fieldAddrX 0 t3) fun t35 => opt (loadX none t35 h2) fun t36 => opt (fieldAddrX 0 t7) fun t37 => opt (loadX none t37 h2) fun t38 => opt (fieldAddrX 1 t7) fun t39 => opt (loadX none t39 h2) fun t40 => opt (buildX [(iL 0),eL,eL,nL] [(0,1),(1,1),(2,1),(3,1)] [(0,(iL 2)),(1,t38),(2,t40)]) fun t41 => opt2 (c 113 [t0,t36,eL,t41] h2) fun t42 h3 => opt (fastBin .add t30 (iL 1)) fun t43 => r4 t0 t3 t28 t29 t43 h3) (S114_3 c t0 t3 h)
theorem TS114_5b (c : CF) (r4 : A5) : (rk d114 P0 c 64 c114.s2.fst.snd.bd.bd).1 (L5 r4 0 3 28 29 30) [(2,(L2 (S114_3 c) 0 3))] k114 gK = L5 (S114_5b c r4) 0 3 28 29 30 := by funext s h; kernel_rfl
noncomputable def S114_4l (c : CF) : Nat → A5
  | 0 => fun _ _ _ _ _ _ => none
  | k + 1 => S114_5b c (S114_4l c k)
theorem TS114_4l (c : CF) : (rk d114 P0 c 64 c114.s2.fst.snd.bd).1 (L2 (S114_3 c) 0 3) [(2,(L2 (S114_3 c) 0 3))] k114 gK = L5 (S114_4l c rounds) 0 3 28 29 30 := loop_t (by kernel_rfl) (loop_ind (A := fun m => L5 (S114_4l c m) 0 3 28 29 30) rfl (fun m => TS114_5b c (S114_4l c m)) rounds)
noncomputable def S114_6 (c : CF) (t0 t3 t28 t29 t30 : AV) (h : Heap) : Res := S114_4l c rounds t0 t3 t28 t29 t30 h
theorem TS114_6 (c : CF) : (rk d114 P0 c 64 c114.s2.fst.snd).1 (L2 (S114_3 c) 0 3) [] k114 gK = L5 (S114_6 c) 0 3 28 29 30 := Eq.trans (block_t (id := 2) (by kernel_rfl) (TS114_4l c)) (by funext s h; kernel_rfl)
noncomputable def S114_7 (c : CF) (t0 t3 : AV) (h : Heap) : Res := opt (fieldAddrX 4 t3) fun t27 => opt (loadX none t27 h) fun t28 => opt (lenS t28) fun t29 => S114_6 c t0 t3 t28 t29 (iL 0) h
theorem TS114_7 (c : CF) : (rk d114 P0 c 64 c114.s2).1 k114 [] k114 gK = L2 (S114_7 c) 0 3 := Eq.trans (seq_t (by kernel_rfl) (TS114_3 c) (seq_t (by kernel_rfl) (TS114_6 c) rfl)) (by funext s h; kernel_rfl)
noncomputable def S114_9b (c : CF) (r8 : A5) (t0 t3 t11 t12 t13 : AV) (h : Heap) : Res := opt (fastBin .lss t13 t12) fun t14 => test t14 (opt (indexAddrS 2 t11 t13 h) fun t15 => opt (loadX (some 2) t15 h) fun t16 => opt2 (box (.agg [eL,nL]) h) fun t5 h1 => optH (storeX 2 t5 t16 h1) fun h2 => opt (fieldAddrX 0 t3) fun t18 => opt (loadX none t18 h2) fun t19 => opt (fieldAddrX 0 t5) fun t20 => opt (loadX none t20 h2) fun t21 => opt (fieldAddrX 1 t5) fun t22 => opt (loadX none t22 h2) fun t23 => opt (buildX [(iL 0),eL,eL,nL] [(0,1),(1,1),(2,1),(3,1)] [(0,(iL 1)),(1,t21),(3,t23)]) fun t24 => opt2 (c 113 [t0,t19,eL,t24] h2) fun t25 h3 => opt (fastBin .add t13 (iL 1)) fun t26 => r8 t0 t3 t11 t12 t26 h3) (S114_7 c t0 t3 h)
theorem TS114_9b (c : CF) (r8 : A5) : (rk d114 P0 c 64 c114.snd.fst.snd.bd.bd).1 (L5 r8 0 3 11 12 13) [(0,(L2 (S114_7 c) 0 3))] k114 gK = L5 (S114_9b c r8) 0 3 11 12 13 := by funext s h; kernel_rfl
noncomputable def S114_8l (c : CF) : Nat → A5
  | 0 => fun _ _ _ _ _ _ => none
  | k + 1 => S114_9b c (S114_8l c k)
theorem TS114_8l (c : CF) : (rk d114 P0 c 64 c114.snd.fst.snd.bd).1 (L2 (S114_7 c) 0 3) [(0,(L2 (S114_7 c) 0 3))] k114 gK = L5 (S114_8l c rounds) 0 3 11 12 13 := loop_t (by kernel_rfl) (loop_ind (A := fun m => L5 (S114_8l c m) 0 3 11 12 13) rfl (fun m => TS114_9b c (S114_8l c m)) rounds)
noncomputable def S114_10 (c : CF) (t0 t3 t11 t12 t13 : AV) (h : Heap) : Res := S114_8l c rounds t0 t3 t11 t12 t13 h
theorem TS114_10 (c : CF) : (rk d114 P0 c 64 c114.snd.fst.snd).1 (L2 (S114_7 c) 0 3) [] k114 gK = L5 (S114_10 c) 0 3 11 12 13 := Eq.trans (block_t (id := 0) (by kernel_rfl) (TS114_8l c)) (by funext s h; kernel_rfl)
noncomputable def S114_11 (c : CF) (t0 t3 : AV) (h : Heap) : Res := opt (fieldAddrX 3 t3) fun t10 => opt (loadX none t10 h) fun t11 => opt (lenS t11) fun t12 => S114_10 c t0 t3 t11 t12 (iL 0) h
theorem TS114_11 (c : CF) : (rk d114 P0 c 64 c114.snd).1 k114 [] k114 gK = L2 (S114_11 c) 0 3 := Eq.trans (seq_t (by kernel_rfl) (TS114_7 c) (seq_t (by kernel_rfl) (TS114_10 c) rfl)) (by funext s h; kernel_rfl)
noncomputable def F114 (c : CF) (a0 a1 : AV) (h : Heap) : Res := opt2 (box a1 h) fun t3 h1 => S114_11 c a0 t3 h1
theorem TF114 (c : CF) (a0 a1 : AV) (h : Heap) : (rk d114 P0 c 64 c114).1 k114 [] k114 gK (argsTr gl 0 [a0,a1]) h = F114 c a0 a1 h := Eq.trans (congrFun (congrFun (seq_t (by kernel_rfl) (TS114_11 c) rfl) _) _) (by kernel_rfl)
noncomputable def N114 : FnF := n2 F114
theorem N114_ok : FnOk P0 gl 114 N114 := n2_ok namesOk mixedOrders lowOk Tryz.func114 (by kernel_rfl) (by kernel_rfl) (by kernel_rfl) TF114
noncomputable def c115 : Code := codeOf Tryz.f115
noncomputable def k115 : Kt := finK P0 Tryz.f115.results.toList
def d115 : List Nat := []
noncomputable def S115_0 (c : CF) (t3 : AV) (h : Heap) : Res := some (t3,h)
theorem TS115_0 (c : CF) : (rk d115 P0 c 74 c115.s5).1 k115 [] k115 gK = L1 (S115_0 c) 3 := by funext s h; kernel_rfl
noncomputable def S115_2 (c : CF) (r1 : A4) (t3 t48 t49 t50 : AV) (h : Heap) : Res := opt (fastBin .add t50 (iL 1)) fun t72 => r1 t3 t48 t49 t72 h
theorem TS115_2 (c : CF) (r1 : A4) : (rk d115 P0 c 74 c115.s4.fst.snd.bd.bd.s3).1 (L4 r1 3 48 49 50) [(6,(L1 (S115_0 c) 3))] k115 gK = L4 (S115_2 c r1) 3 48 49 50 := by funext s h; kernel_rfl
noncomputable def S115_3 (c : CF) (r1 : A4) (t3 t11 t48 t49 t50 : AV) (h : Heap) : Res := opt (fieldAddrX 2 t11) fun t68 => opt (loadX none t68 h) fun t69 => opt2 (bsliceX 1 eL 1 [(0,t69)] h) fun t70 h1 => opt2 (appendX 1 16 t3 t70 h1) fun t71 h2 => S115_2 c r1 t71 t48 t49 t50 h2
theorem TS115_3 (c : CF) (r1 : A4) : (rk d115 P0 c 74 c115.s4.fst.snd.bd.bd.s2.fst.bd.s2).1 (L4 (S115_2 c r1) 3 48 49 50) [(7,(L4 (S115_2 c r1) 3 48 49 50)),(6,(L1 (S115_0 c) 3))] k115 gK = L5 (S115_3 c r1) 3 11 48 49 50 := by funext s h; kernel_rfl
noncomputable def S115_5b (c : CF) (r1 : A4) (r4 : A8) (t3 t11 t48 t49 t50 t55 t56 t57 : AV) (h : Heap) : Res := opt (fastBin .lss t57 t56) fun t58 => test t58 (opt (indexAddrS 2 t55 t57 h) fun t59 => opt (loadX (some 2) t59 h) fun t60 => opt2 (box (.agg [eL,eL]) h) fun t13 h1 => optH (storeX 2 t13 t60 h1) fun h2 => opt (fieldAddrX 1 t13) fun t62 => opt (loadX none t62 h2) fun t63 => opt2 (bsliceX 1 eL 1 [(0,t63)] h2) fun t64 h3 => opt2 (appendX 1 16 t3 t64 h3) fun t65 h4 => opt (fastBin .add t57 (iL 1)) fun t66 => r4 t65 t11 t48 t49 t50 t55 t56 t66 h4) (S115_3 c r1 t3 t11 t48 t49 t50 h)
theorem TS115_5b (c : CF) (r1 : A4) (r4 : A8) : (rk d115 P0 c 74 c115.s4.fst.snd.bd.bd.s2.fst.bd.snd.fst.snd.bd.bd).1 (L8 r4 3 11 48 49 50 55 56 57) [(8,(L5 (S115_3 c r1) 3 11 48 49 50)),(7,(L4 (S115_2 c r1) 3 48 49 50)),(6,(L1 (S115_0 c) 3))] k115 gK = L8 (S115_5b c r1 r4) 3 11 48 49 50 55 56 57 := by funext s h; kernel_rfl
noncomputable def S115_4l (c : CF) (r1 : A4) : Nat → A8
  | 0 => fun _ _ _ _ _ _ _ _ _ => none
  | k + 1 => S115_5b c r1 (S115_4l c r1 k)
theorem TS115_4l (c : CF) (r1 : A4) : (rk d115 P0 c 74 c115.s4.fst.snd.bd.bd.s2.fst.bd.snd.fst.snd.bd).1 (L5 (S115_3 c r1) 3 11 48 49 50) [(8,(L5 (S115_3 c r1) 3 11 48 49 50)),(7,(L4 (S115_2 c r1) 3 48 49 50)),(6,(L1 (S115_0 c) 3))] k115 gK = L8 (S115_4l c r1 rounds) 3 11 48 49 50 55 56 57 := loop_t (by kernel_rfl) (loop_ind (A := fun m => L8 (S115_4l c r1 m) 3 11 48 49 50 55 56 57) rfl (fun m => TS115_5b c r1 (S115_4l c r1 m)) rounds)
noncomputable def S115_6 (c : CF) (r1 : A4) (t3 t11 t48 t49 t50 t55 t56 t57 : AV) (h : Heap) : Res := S115_4l c r1 rounds t3 t11 t48 t49 t50 t55 t56 t57 h
theorem TS115_6 (c : CF) (r1 : A4) : (rk d115 P0 c 74 c115.s4.fst.snd.bd.bd.s2.fst.bd.snd.fst.snd).1 (L5 (S115_3 c r1) 3 11 48 49 50) [(7,(L4 (S115_2 c r1) 3 48 49 50)),(6,(L1 (S115_0 c) 3))] k115 gK = L8 (S115_6 c r1) 3 11 48 49 50 55 56 57 := Eq.trans (block_t (id := 8) (by kernel_rfl) (TS115_4l c r1)) (by funext s h; kernel_rfl)
noncomputable def S115_7 (c : CF) (r1 : A4) (t3 t11 t48 t49 t50 : AV) (h : Heap) : Res := opt (fieldAddrX 1 t11) fun t54 => opt (loadX none t54 h) fun t55 => opt (lenS t55) fun t56 => S115_6 c r1 t3 t11 t48 t49 t50 t55 t56 (iL 0) h
theorem TS115_7 (c : CF) (r1 : A4) : (rk d115 P0 c 74 c115.s4.fst.snd.bd.bd.s2.fst.bd.snd).1 (L4 (S115_2 c r1) 3 48 49 50) [(7,(L4 (S115_2 c r1) 3 48 49 50)),(6,(L1 (S115_0 c) 3))] k115 gK = L5 (S115_7 c r1) 3 11 48 49 50 := Eq.trans (seq_t (by kernel_rfl) (TS115_3 c r1) (seq_t (by kernel_rfl) (TS115_6 c r1) rfl)) (by funext s h; kernel_rfl)
noncomputable def S115_8 (c : CF) (r1 : A4) (t3 t48 t49 t50 : AV) (h : Heap) : Res := opt (indexAddrS 12 t48 t50 h) fun t52 => opt (loadX (some 12) t52 h) fun t53 => opt2 (box (.agg [eL,nL,eL,(iL 0),(iL 0),eL,cL,eL,eL,nL,nL,nL]) h) fun t11 h1 => optH (storeX 12 t11 t53 h1) fun h2 => S115_7 c r1 t3 t11 t48 t49 t50 h2
theorem TS115_8 (c : CF) (r1 : A4) : (rk d115 P0 c 74 c115.s4.fst.snd.bd.bd.s2).1 (L4 r1 3 48 49 50) [(6,(L1 (S115_0 c) 3))] k115 gK = L4 (S115_8 c r1) 3 48 49 50 := Eq.trans (seq_t (by kernel_rfl) (TS115_2 c r1) (block_t (id := 7) (by kernel_rfl) (seq_t (by kernel_rfl) (TS115_7 c r1) rfl))) (by funext s h; kernel_rfl)
noncomputable def S115_9 (c : CF) (r1 : A4) (t3 t48 t49 t50 t51 : AV) (h : Heap) : Res := test t51 (S115_8 c r1 t3 t48 t49 t50 h) (S115_0 c t3 h)
theorem TS115_9 (c : CF) (r1 : A4) : (rk d115 P0 c 74 c115.s4.fst.snd.bd.bd.snd).1 (L4 r1 3 48 49 50) [(6,(L1 (S115_0 c) 3))] k115 gK = L5 (S115_9 c r1) 3 48 49 50 51 := Eq.trans (seq_t (by kernel_rfl) (TS115_8 c r1) rfl) (by funext s h; kernel_rfl)
noncomputable def S115_10b (c : CF) (r1 : A4) (t3 t48 t49 t50 : AV) (h : Heap) : Res := opt (fastBin .lss t50 t49) fun t51 => S115_9 c r1 t3 t48 t49 t50 t51 h
theorem TS115_10b (c : CF) (r1 : A4) : (rk d115 P0 c 74 c115.s4.fst.snd.bd.bd).1 (L4 r1 3 48 49 50) [(6,(L1 (S115_0 c) 3))] k115 gK = L4 (S115_10b c r1) 3 48 49 50 := Eq.trans (seq_t (by kernel_rfl) (TS115_9 c r1) rfl) (by funext s h; kernel_rfl)
noncomputable def S115_1l (c : CF) : Nat → A4
  | 0 => fun _ _ _ _ _ => none
  | k + 1 => S115_10b c (S115_1l c k)
theorem TS115_1l (c : CF) : (rk d115 P0 c 74 c115.s4.fst.snd.bd).1 (L1 (S115_0 c) 3) [(6,(L1 (S115_0 c) 3))] k115 gK = L4 (S115_1l c rounds) 3 48 49 50 := loop_t (by kernel_rfl) (loop_ind (A := fun m => L4 (S115_1l c m) 3 48 49 50) rfl (fun m => TS115_10b c (S115_1l c m)) rounds)
noncomputable def S115_11 (c : CF) (t3 t48 t49 t50 : AV) (h : Heap) : Res := S115_1l c rounds t3 t48 t49 t50 h
theorem TS115_11 (c : CF) : (rk d115 P0 c 74 c115.s4.fst.snd).1 (L1 (S115_0 c) 3) [] k115 gK = L4 (S115_11 c) 3 48 49 50 := Eq.trans (block_t (id := 6) (by kernel_rfl) (TS115_1l c)) (by funext s h; kernel_rfl)
noncomputable def S115_12 (c : CF) (t1 t3 : AV) (h : Heap) : Res := opt (fieldAddrX 5 t1) fun t47 => opt (loadX none t47 h) fun t48 => opt (lenS t48) fun t49 => S115_11 c t3 t48 t49 (iL 0) h
theorem TS115_12 (c : CF) : (rk d115 P0 c 74 c115.s4).1 k115 [] k115 gK = L2 (S115_12 c) 1 3 := Eq.trans (seq_t (by kernel_rfl) (TS115_0 c) (seq_t (by kernel_rfl) (TS115_11 c) rfl)) (by funext s h; kernel_rfl)
noncomputable def S115_14b (c : CF) (r13 : A5) (t1 t3 t35 t36 t37 : AV) (h : Heap) : Res := opt (fastBin .lss t37 t36) fun t38 => test t38 (opt (indexAddrS 11 t35 t37 h) fun t39 => opt (loadX (some 11) t39 h) fun t40 => opt2 (box (.agg [eL,eL,(iL 0),(iL 0),eL,cL,eL,eL,nL,nL,nL]) h) fun t9 h1 => optH (storeX 11 t9 t40 h1) fun h2 => opt (fieldAddrX 1 t9) fun t42 => opt (loadX none t42 h2) fun t43 => opt2 (bsliceX 1 eL 1 [(0,t43)] h2) fun t44 h3 => opt2 (appendX 1 16 t3 t44 h3) fun t45 h4 => opt (fastBin .add t37 (iL 1)) fun t46 => r13 t1 t45 t35 t36 t46 h4) (S115_12 c t1 t3 h)
theorem TS115_14b (c : CF) (r13 : A5) : (rk d115 P0 c 74 c115.s3.fst.snd.bd.bd).1 (L5 r13 1 3 35 36 37) [(4,(L2 (S115_12 c) 1 3))] k115 gK = L5 (S115_14b c r13) 1 3 35 36 37 := by funext s h; kernel_rfl
noncomputable def S115_13l (c : CF) : Nat → A5
  | 0 => fun _ _ _ _ _ _ => none
  | k + 1 => S115_14b c (S115_13l c k)
theorem TS115_13l (c : CF) : (rk d115 P0 c 74 c115.s3.fst.snd.bd).1 (L2 (S115_12 c) 1 3) [(4,(L2 (S115_12 c) 1 3))] k115 gK = L5 (S115_13l c rounds) 1 3 35 36 37 := loop_t (by kernel_rfl) (loop_ind (A := fun m => L5 (S115_13l c m) 1 3 35 36 37) rfl (fun m => TS115_14b c (S115_13l c m)) rounds)
noncomputable def S115_15 (c : CF) (t1 t3 t35 t36 t37 : AV) (h : Heap) : Res := S115_13l c rounds t1 t3 t35 t36 t37 h
theorem TS115_15 (c : CF) : (rk d115 P0 c 74 c115.s3.fst.snd).1 (L2 (S115_12 c) 1 3) [] k115 gK = L5 (S115_15 c) 1 3 35 36 37 := Eq.trans (block_t (id := 4) (by kernel_rfl) (TS115_13l c)) (by funext s h; kernel_rfl)
noncomputable def S115_16 (c : CF) (t1 t3 : AV) (h : Heap) : Res := opt (fieldAddrX 4 t1) fun t34 => opt (loadX none t34 h) fun t35 => opt (lenS t35) fun t36 => S115_15 c t1 t3 t35 t36 (iL 0) h
theorem TS115_16 (c : CF) : (rk d115 P0 c 74 c115.s3).1 k115 [] k115 gK = L2 (S115_16 c) 1 3 := Eq.trans (seq_t (by kernel_rfl) (TS115_12 c) (seq_t (by kernel_rfl) (TS115_15 c) rfl)) (by funext s h; kernel_rfl)
noncomputable def S115_18 (c : CF) (r17 : A5) (t1 t3 t15 t16 t17 : AV) (h : Heap) : Res := opt (fastBin .add t17 (iL 1)) fun t33 => r17 t1 t3 t15 t16 t33 h
theorem TS115_18 (c : CF) (r17 : A5) : (rk d115 P0 c 74 c115.s2.fst.snd.bd.bd.s3).1 (L5 r17 1 3 15 16 17) [(0,(L2 (S115_16 c) 1 3))] k115 gK = L5 (S115_18 c r17) 1 3 15 16 17 := by funext s h; kernel_rfl
noncomputable def S115_20b (c : CF) (r17 : A5) (r19 : A8) (t1 t3 t15 t16 t17 t22 t23 t24 : AV) (h : Heap) : Res := opt (fastBin .lss t24 t23) fun t25 => test t25 (opt (indexAddrS 2 t22 t24 h) fun t26 => opt (loadX (some 2) t26 h) fun t27 => opt2 (box (.agg [eL,nL]) h) fun t7 h1 => optH (storeX 2 t7 t27 h1) fun h2 => opt (fieldAddrX 1 t7) fun t29 => opt (loadX none t29 h2) fun t30 => opt2 (appendX 1 16 t3 t30 h2) fun t31 h3 => opt (fastBin .add t24 (iL 1)) fun t32 => r19 t1 t31 t15 t16 t17 t22 t23 t32 h3) (S115_18 c r17 t1 t3 t15 t16 t17 h)
theorem TS115_20b (c : CF) (r17 : A5) (r19 : A8) : (rk d115 P0 c 74 c115.s2.fst.snd.bd.bd.s2.fst.bd.s2.bd.bd).1 (L8 r19 1 3 15 16 17 22 23 24) [(2,(L5 (S115_18 c r17) 1 3 15 16 17)),(1,(L5 (S115_18 c r17) 1 3 15 16 17)),(0,(L2 (S115_16 c) 1 3))] k115 gK = L8 (S115_20b c r17 r19) 1 3 15 16 17 22 23 24 := by funext s h; kernel_rfl
noncomputable def S115_19l (c : CF) (r17 : A5) : Nat → A8
  | 0 => fun _ _ _ _ _ _ _ _ _ => none
  | k + 1 => S115_20b c r17 (S115_19l c r17 k)
theorem TS115_19l (c : CF) (r17 : A5) : (rk d115 P0 c 74 c115.s2.fst.snd.bd.bd.s2.fst.bd.s2.bd).1 (L5 (S115_18 c r17) 1 3 15 16 17) [(2,(L5 (S115_18 c r17) 1 3 15 16 17)),(1,(L5 (S115_18 c r17) 1 3 15 16 17)),(0,(L2 (S115_16 c) 1 3))] k115 gK = L8 (S115_19l c r17 rounds) 1 3 15 16 17 22 23 24 := loop_t (by kernel_rfl) (loop_ind (A := fun m => L8 (S115_19l c r17 m) 1 3 15 16 17 22 23 24) rfl (fun m => TS115_20b c r17 (S115_19l c r17 m)) rounds)
noncomputable def S115_21 (c : CF) (r17 : A5) (t1 t3 t15 t16 t17 t22 t23 t24 : AV) (h : Heap) : Res := S115_19l c r17 rounds t1 t3 t15 t16 t17 t22 t23 t24 h
theorem TS115_21 (c : CF) (r17 : A5) : (rk d115 P0 c 74 c115.s2.fst.snd.bd.bd.s2.fst.bd.s2).1 (L5 (S115_18 c r17) 1 3 15 16 17) [(1,(L5 (S115_18 c r17) 1 3 15 16 17)),(0,(L2 (S115_16 c) 1 3))] k115 gK = L8 (S115_21 c r17) 1 3 15 16 17 22 23 24 := Eq.trans (block_t (id := 2) (by kernel_rfl) (TS115_19l c r17)) (by funext s h; kernel_rfl)
noncomputable def S115_22 (c : CF) (r17 : A5) (t1 t3 t5 t15 t16 t17 : AV) (h : Heap) : Res := opt (fieldAddrX 1 t5) fun t21 => opt (loadX none t21 h) fun t22 => opt (lenS t22) fun t23 => S115_21 c r17 t1 t3 t15 t16 t17 t22 t23 (iL 0) h
theorem TS115_22 (c : CF) (r17 : A5) : (rk d115 P0 c 74 c115.s2.fst.snd.bd.bd.s2.fst.bd.snd).1 (L5 (S115_18 c r17) 1 3 15 16 17) [(1,(L5 (S115_18 c r17) 1 3 15 16 17)),(0,(L2 (S115_16 c) 1 3))] k115 gK = L6 (S115_22 c r17) 1 3 5 15 16 17 := Eq.trans (seq_t (by kernel_rfl) (TS115_21 c r17) rfl) (by funext s h; kernel_rfl)
noncomputable def S115_23 (c : CF) (r17 : A5) (t1 t3 t15 t16 t17 : AV) (h : Heap) : Res := opt (indexAddrS 2 t15 t17 h) fun t19 => opt (loadX (some 2) t19 h) fun t20 => opt2 (box (.agg [eL,nL]) h) fun t5 h1 => optH (storeX 2 t5 t20 h1) fun h2 => S115_22 c r17 t1 t3 t5 t15 t16 t17 h2
theorem TS115_23 (c : CF) (r17 : A5) : (rk d115 P0 c 74 c115.s2.fst.snd.bd.bd.s2).1 (L5 r17 1 3 15 16 17) [(0,(L2 (S115_16 c) 1 3))] k115 gK = L5 (S115_23 c r17) 1 3 15 16 17 := Eq.trans (seq_t (by kernel_rfl) (TS115_18 c r17) (block_t (id := 1) (by kernel_rfl) (seq_t (by kernel_rfl) (TS115_22 c r17) rfl))) (by funext s h; kernel_rfl)
noncomputable def S115_24 (c : CF) (r17 : A5) (t1 t3 t15 t16 t17 t18 : AV) (h : Heap) : Res := test t18 (S115_23 c r17 t1 t3 t15 t16 t17 h) (S115_16 c t1 t3 h)
theorem TS115_24 (c : CF) (r17 : A5) : (rk d115 P0 c 74 c115.s2.fst.snd.bd.bd.snd).1 (L5 r17 1 3 15 16 17) [(0,(L2 (S115_16 c) 1 3))] k115 gK = L6 (S115_24 c r17) 1 3 15 16 17 18 := Eq.trans (seq_t (by kernel_rfl) (TS115_23 c r17) rfl) (by funext s h; kernel_rfl)
noncomputable def S115_25b (c : CF) (r17 : A5) (t1 t3 t15 t16 t17 : AV) (h : Heap) : Res := opt (fastBin .lss t17 t16) fun t18 => S115_24 c r17 t1 t3 t15 t16 t17 t18 h
theorem TS115_25b (c : CF) (r17 : A5) : (rk d115 P0 c 74 c115.s2.fst.snd.bd.bd).1 (L5 r17 1 3 15 16 17) [(0,(L2 (S115_16 c) 1 3))] k115 gK = L5 (S115_25b c r17) 1 3 15 16 17 := Eq.trans (seq_t (by kernel_rfl) (TS115_24 c r17) rfl) (by funext s h; kernel_rfl)
noncomputable def S115_17l (c : CF) : Nat → A5
  | 0 => fun _ _ _ _ _ _ => none
  | k + 1 => S115_25b c (S115_17l c k)
theorem TS115_17l (c : CF) : (rk d115 P0 c 74 c115.s2.fst.snd.bd).1 (L2 (S115_16 c) 1 3) [(0,(L2 (S115_16 c) 1 3))] k115 gK = L5 (S115_17l c rounds) 1 3 15 16 17 := loop_t (by kernel_rfl) (loop_ind (A := fun m => L5 (S115_17l c m) 1 3 15 16 17) rfl (fun m => TS115_25b c (S115_17l c m)) rounds)
noncomputable def S115_26 (c : CF) (t1 t3 t15 t16 t17 : AV) (h : Heap) : Res := S115_17l c rounds t1 t3 t15 t16 t17 h
theorem TS115_26 (c : CF) : (rk d115 P0 c 74 c115.s2.fst.snd).1 (L2 (S115_16 c) 1 3) [] k115 gK = L5 (S115_26 c) 1 3 15 16 17 := Eq.trans (block_t (id := 0) (by kernel_rfl) (TS115_17l c)) (by funext s h; kernel_rfl)
noncomputable def S115_27 (c : CF) (t1 t3 : AV) (h : Heap) : Res := opt (fieldAddrX 3 t1) fun t14 => opt (loadX none t14 h) fun t15 => opt (lenS t15) fun t16 => S115_26 c t1 t3 t15 t16 (iL 0) h
theorem TS115_27 (c : CF) : (rk d115 P0 c 74 c115.s2).1 k115 [] k115 gK = L2 (S115_27 c) 1 3 := Eq.trans (seq_t (by kernel_rfl) (TS115_16 c) (seq_t (by kernel_rfl) (TS115_26 c) rfl)) (by funext s h; kernel_rfl)
noncomputable def S115_28 (c : CF) (t1 : AV) (h : Heap) : Res := S115_27 c t1 nL h
theorem TS115_28 (c : CF) : (rk d115 P0 c 74 c115.snd).1 k115 [] k115 gK = L1 (S115_28 c) 1 := Eq.trans (seq_t (by kernel_rfl) (TS115_27 c) rfl) (by funext s h; kernel_rfl)
noncomputable def F115 (c : CF) (a0 : AV) (h : Heap) : Res := opt2 (box a0 h) fun t1 h1 => S115_28 c t1 h1
theorem TF115 (c : CF) (a0 : AV) (h : Heap) : (rk d115 P0 c 74 c115).1 k115 [] k115 gK (argsTr gl 0 [a0]) h = F115 c a0 h := Eq.trans (congrFun (congrFun (seq_t (by kernel_rfl) (TS115_28 c) rfl) _) _) (by kernel_rfl)
noncomputable def N115 : FnF := n1 F115
theorem N115_ok : FnOk P0 gl 115 N115 := n1_ok namesOk mixedOrders lowOk Tryz.func115 (by kernel_rfl) (by kernel_rfl) (by kernel_rfl) TF115
noncomputable def c116 : Code := codeOf Tryz.f116
noncomputable def k116 : Kt := finK P0 Tryz.f116.results.toList
def d116 : List Nat := []
noncomputable def F116 (c : CF) (a0 a1 : AV) (h : Heap) : Res := opt2 (box a0 h) fun t2 h1 => opt2 (c 196 [a1] h1) fun t6 h2 => test t6 (opt2 (c 197 [a1] h2) fun t9 h3 => opt2 (c 35 [t9,(.fn (.func 198) [] [t2])] h3) fun t11 h4 => opt (notX t11) fun t12 => some (t12,h4)) (some (fL,h2))
theorem TF116 (c : CF) (a0 a1 : AV) (h : Heap) : (rk d116 P0 c 14 c116).1 k116 [] k116 gK (argsTr gl 0 [a0,a1]) h = F116 c a0 a1 h := by kernel_rfl
noncomputable def N116 : FnF := n2 F116
theorem N116_ok : FnOk P0 gl 116 N116 := n2_ok namesOk mixedOrders lowOk Tryz.func116 (by kernel_rfl) (by kernel_rfl) (by kernel_rfl) TF116
noncomputable def c117 : Code := codeOf Tryz.f117
noncomputable def k117 : Kt := finK P0 Tryz.f117.results.toList
def d117 : List Nat := []
noncomputable def S117_0 (c : CF) (t1 t5 : AV) (h : Heap) : Res := opt2 (c 181 [t5,t1] h) fun t22 h1 => some (t22,h1)
theorem TS117_0 (c : CF) : (rk d117 P0 c 23 c117.s3).1 k117 [] k117 gK = L2 (S117_0 c) 1 5 := by funext s h; kernel_rfl
noncomputable def S117_2b (c : CF) (r1 : A5) (t1 t5 t8 t9 t10 : AV) (h : Heap) : Res := opt (fastBin .lss t10 t9) fun t11 => test t11 (opt (indexAddrS 2 t8 t10 h) fun t12 => opt (loadX (some 2) t12 h) fun t13 => opt2 (box (.agg [eL,eL]) h) fun t7 h1 => optH (storeX 2 t7 t13 h1) fun h2 => opt (fieldAddrX 1 t7) fun t15 => opt (loadX none t15 h2) fun t16 => opt2 (bsliceX 1 eL 1 [(0,t16)] h2) fun t17 h3 => opt2 (appendX 1 16 t5 t17 h3) fun t18 h4 => opt (fastBin .add t10 (iL 1)) fun t19 => r1 t1 t18 t8 t9 t19 h4) (S117_0 c t1 t5 h)
theorem TS117_2b (c : CF) (r1 : A5) : (rk d117 P0 c 23 c117.s2.fst.snd.bd.bd).1 (L5 r1 1 5 8 9 10) [(0,(L2 (S117_0 c) 1 5))] k117 gK = L5 (S117_2b c r1) 1 5 8 9 10 := by funext s h; kernel_rfl
noncomputable def S117_1l (c : CF) : Nat → A5
  | 0 => fun _ _ _ _ _ _ => none
  | k + 1 => S117_2b c (S117_1l c k)
theorem TS117_1l (c : CF) : (rk d117 P0 c 23 c117.s2.fst.snd.bd).1 (L2 (S117_0 c) 1 5) [(0,(L2 (S117_0 c) 1 5))] k117 gK = L5 (S117_1l c rounds) 1 5 8 9 10 := loop_t (by kernel_rfl) (loop_ind (A := fun m => L5 (S117_1l c m) 1 5 8 9 10) rfl (fun m => TS117_2b c (S117_1l c m)) rounds)
noncomputable def S117_3 (c : CF) (t1 t5 t8 t9 t10 : AV) (h : Heap) : Res := S117_1l c rounds t1 t5 t8 t9 t10 h
theorem TS117_3 (c : CF) : (rk d117 P0 c 23 c117.s2.fst.snd).1 (L2 (S117_0 c) 1 5) [] k117 gK = L5 (S117_3 c) 1 5 8 9 10 := Eq.trans (block_t (id := 0) (by kernel_rfl) (TS117_1l c)) (by funext s h; kernel_rfl)
noncomputable def S117_4 (c : CF) (t0 t1 t5 : AV) (h : Heap) : Res := opt (lenS t0) fun t9 => S117_3 c t1 t5 t0 t9 (iL 0) h
theorem TS117_4 (c : CF) : (rk d117 P0 c 23 c117.s2).1 k117 [] k117 gK = L3 (S117_4 c) 0 1 5 := Eq.trans (seq_t (by kernel_rfl) (TS117_0 c) (seq_t (by kernel_rfl) (TS117_3 c) rfl)) (by funext s h; kernel_rfl)
noncomputable def S117_5 (c : CF) (t0 t1 : AV) (h : Heap) : Res := S117_4 c t0 t1 nL h
theorem TS117_5 (c : CF) : (rk d117 P0 c 23 c117.snd).1 k117 [] k117 gK = L2 (S117_5 c) 0 1 := Eq.trans (seq_t (by kernel_rfl) (TS117_4 c) rfl) (by funext s h; kernel_rfl)
noncomputable def F117 (c : CF) (a0 a1 : AV) (h : Heap) : Res := S117_5 c a0 a1 h
theorem TF117 (c : CF) (a0 a1 : AV) (h : Heap) : (rk d117 P0 c 23 c117).1 k117 [] k117 gK (argsTr gl 0 [a0,a1]) h = F117 c a0 a1 h := Eq.trans (congrFun (congrFun (seq_t (by kernel_rfl) (TS117_5 c) rfl) _) _) (by kernel_rfl)
noncomputable def N117 : FnF := n2 F117
theorem N117_ok : FnOk P0 gl 117 N117 := n2_ok namesOk mixedOrders lowOk Tryz.func117 (by kernel_rfl) (by kernel_rfl) (by kernel_rfl) TF117
noncomputable def c118 : Code := codeOf Tryz.f118
noncomputable def k118 : Kt := finK P0 Tryz.f118.results.toList
def d118 : List Nat := []
noncomputable def F118 (c : CF) (a0 a1 : AV) (h : Heap) : Res := opt2 (c 199 [a0,a1] h) fun t10 h1 => opt (fastBin .geq t10 (iL 0)) fun t12 => test t12 (opt (fastCut a0 none (some t10) none) fun t15 => eqH h1 h1 (opt (lenStr a1) fun t19 => opt (fastBin .add t10 t19) fun t20 => opt (fastCut a0 (some t20) none none) fun t21 => eqH h1 h1 (some ((.tup [t15,t21,tL]),h1)))) (some ((.tup [a0,eL,fL]),h1))
theorem TF118 (c : CF) (a0 a1 : AV) (h : Heap) : (rk d118 P0 c 23 c118).1 k118 [] k118 gK (argsTr gl 0 [a0,a1]) h = F118 c a0 a1 h := by kernel_rfl
noncomputable def N118 : FnF := n2 F118
theorem N118_ok : FnOk P0 gl 118 N118 := n2_ok namesOk mixedOrders lowOk Tryz.func118 (by kernel_rfl) (by kernel_rfl) (by kernel_rfl) TF118
noncomputable def c119 : Code := codeOf Tryz.f119
noncomputable def k119 : Kt := finK P0 Tryz.f119.results.toList
def d119 : List Nat := [3]
noncomputable def S119_0 (c : CF) (t11 : AV) (h : Heap) : Res := test t11 (some ((.tup [eL,fL]),h)) (none)
theorem TS119_0 (c : CF) : (rk d119 P0 c 17 c119.snd.fst.snd).1 ((rk d119 P0 c 17 c119.s2).1 k119 [] k119 gK) [] k119 gK = L1 (S119_0 c) 11 := by funext s h; kernel_rfl
noncomputable def S119_1 (c : CF) (t0 : AV) (h : Heap) : Res := opt2 (c 196 [t0] h) fun t5 h1 => opt (notX t5) fun t6 => test t6 (S119_0 c tL h1) (opt (fastIndex t0 (iL 0)) fun t9 => opt (fastBin .neq t9 (uL 91)) fun t10 => S119_0 c t10 h1)
theorem TS119_1 (c : CF) : (rk d119 P0 c 17 c119.snd).1 k119 [] k119 gK = L1 (S119_1 c) 0 := Eq.trans (seq_t (by kernel_rfl) rfl (seq_t (by kernel_rfl) (TS119_0 c) rfl)) (by funext s h; kernel_rfl)
noncomputable def F119 (c : CF) (a0 : AV) (h : Heap) : Res := S119_1 c a0 h
theorem TF119 (c : CF) (a0 : AV) (h : Heap) : (rk d119 P0 c 17 c119).1 k119 [] k119 gK (argsTr gl 0 [a0]) h = F119 c a0 h := Eq.trans (congrFun (congrFun (seq_t (by kernel_rfl) (TS119_1 c) rfl) _) _) (by kernel_rfl)
noncomputable def N119 : FnF := n1 F119
theorem N119_ok : FnOk P0 gl 119 N119 := n1_ok namesOk mixedOrders lowOk Tryz.func119 (by kernel_rfl) (by kernel_rfl) (by kernel_rfl) TF119
noncomputable def c120 : Code := codeOf Tryz.f120
noncomputable def k120 : Kt := finK P0 Tryz.f120.results.toList
def d120 : List Nat := []
noncomputable def F120 (c : CF) (a0 : AV) (h : Heap) : Res := opt (litBi P0 .real [23] 99 [false] [a0]) fun t4 => opt2 (c 200 [t4] h) fun t5 h1 => test t5 (opt (litBi P0 .imag [23] 99 [false] [a0]) fun t8 => opt2 (c 200 [t8] h1) fun t9 h2 => some (t9,h2)) (some (fL,h1))
theorem TF120 (c : CF) (a0 : AV) (h : Heap) : (rk d120 P0 c 11 c120).1 k120 [] k120 gK (argsTr gl 0 [a0]) h = F120 c a0 h := by kernel_rfl
noncomputable def N120 : FnF := n1 F120
theorem N120_ok : FnOk P0 gl 120 N120 := n1_ok namesOk mixedOrders lowOk Tryz.func120 (by kernel_rfl) (by kernel_rfl) (by kernel_rfl) TF120
noncomputable def c124 : Code := codeOf Tryz.f124
noncomputable def k124 : Kt := finK P0 Tryz.f124.results.toList
def d124 : List Nat := []
noncomputable def F124 (c : CF) (a0 a1 : AV) (h : Heap) : Res := opt2 (c 204 [a0,a1] h) fun t7 h1 => opt (fastBin .geq t7 (iL 0)) fun t8 => some (t8,h1)
theorem TF124 (c : CF) (a0 a1 : AV) (h : Heap) : (rk d124 P0 c 9 c124).1 k124 [] k124 gK (argsTr gl 0 [a0,a1]) h = F124 c a0 a1 h := by kernel_rfl
noncomputable def N124 : FnF := n2 F124
theorem N124_ok : FnOk P0 gl 124 N124 := n2_ok namesOk mixedOrders lowOk Tryz.func124 (by kernel_rfl) (by kernel_rfl) (by kernel_rfl) TF124
noncomputable def c125 : Code := codeOf Tryz.f125
noncomputable def k125 : Kt := finK P0 Tryz.f125.results.toList
def d125 : List Nat := []
noncomputable def F125 (c : CF) (a0 a1 : AV) (h : Heap) : Res := opt2 (box a0 h) fun t2 h1 => opt (fieldAddrX 0 t2) fun t4 => opt (loadX none t4 h1) fun t5 => opt (loadX none a1 h1) fun t6 => opt (fastBin .eql t5 t6) fun t7 => some (t7,h1)
theorem TF125 (c : CF) (a0 a1 : AV) (h : Heap) : (rk d125 P0 c 8 c125).1 k125 [] k125 gK (argsTr gl 0 [a0,a1]) h = F125 c a0 a1 h := by kernel_rfl
noncomputable def N125 : FnF := n2 F125
theorem N125_ok : FnOk P0 gl 125 N125 := n2_ok namesOk mixedOrders lowOk Tryz.func125 (by kernel_rfl) (by kernel_rfl) (by kernel_rfl) TF125
noncomputable def c131 : Code := codeOf Tryz.f131
noncomputable def k131 : Kt := finK P0 Tryz.f131.results.toList
def d131 : List Nat := [2]
noncomputable def S131_0 (c : CF) (t0 : AV) (h : Heap) : Res := opt (litBi P0 .real [23] 99 [false] [t0]) fun t18 => opt (convX P0 99 3 t18 h) fun t19 => some ((.tup [t19,tL]),h)
theorem TS131_0 (c : CF) : (rk d131 P0 c 20 c131.s2).1 k131 [] k131 gK = L1 (S131_0 c) 0 := by funext s h; kernel_rfl
noncomputable def S131_1 (c : CF) (t0 : AV) (h : Heap) : Res := opt2 (c 120 [t0] h) fun t5 h1 => opt (notX t5) fun t6 => test t6 (none) (opt (litBi P0 .imag [23] 99 [false] [t0]) fun t9 => opt (binX P0 .none .neq 99 t9 (.lit (.float .f64 0))) fun t10 => test t10 (none) (opt (litBi P0 .real [23] 99 [false] [t0]) fun t14 => opt (binX P0 .none .lss 99 t14 (.lit (.float .f64 0))) fun t15 => test t15 (none) (S131_0 c t0 h1)))
theorem TS131_1 (c : CF) : (rk d131 P0 c 20 c131.snd).1 k131 [] k131 gK = L1 (S131_1 c) 0 := Eq.trans (seq_t (by kernel_rfl) (TS131_0 c) rfl) (by funext s h; kernel_rfl)
noncomputable def F131 (c : CF) (a0 : AV) (h : Heap) : Res := S131_1 c a0 h
theorem TF131 (c : CF) (a0 : AV) (h : Heap) : (rk d131 P0 c 20 c131).1 k131 [] k131 gK (argsTr gl 0 [a0]) h = F131 c a0 h := Eq.trans (congrFun (congrFun (seq_t (by kernel_rfl) (TS131_1 c) rfl) _) _) (by kernel_rfl)
noncomputable def N131 : FnF := n1 F131
theorem N131_ok : FnOk P0 gl 131 N131 := n1_ok namesOk mixedOrders lowOk Tryz.func131 (by kernel_rfl) (by kernel_rfl) (by kernel_rfl) TF131
noncomputable def c132 : Code := codeOf Tryz.f132
noncomputable def k132 : Kt := finK P0 Tryz.f132.results.toList
def d132 : List Nat := [2,7,9,5]
noncomputable def S132_0 (c : CF) (t0 t1 t2 : AV) (h : Heap) : Res := opt (fastBin .eql t0 (sL [97,100,100])) fun t19 => test t19 (none) (opt (fastBin .eql t0 (sL [115,117,98])) fun t24 => test t24 (none) (opt (fastBin .eql t0 (sL [109,117,108])) fun t29 => test t29 (opt (binX P0 .none .mul 23 t1 t2) fun t32 => opt2 (c 120 [t32] h) fun t34 h1 => opt (notX t34) fun t35 => test t35 (some ((.tup [cL,(iL 44)]),h1)) (opt2 (c 207 [t32] h1) fun t37 h2 => some ((.tup [t37,(iL 0)]),h2))) (none)))
theorem TS132_0 (c : CF) : (rk d132 P0 c 38 c132.s2).1 k132 [] k132 gK = L3 (S132_0 c) 0 1 2 := by funext s h; kernel_rfl
noncomputable def S132_1 (c : CF) (t0 t1 t2 : AV) (h : Heap) : Res := opt2 (c 120 [t1] h) fun t10 h1 => opt (notX t10) fun t11 => test t11 (none) (opt2 (c 120 [t2] h1) fun t14 h2 => opt (notX t14) fun t15 => test t15 (none) (S132_0 c t0 t1 t2 h2))
theorem TS132_1 (c : CF) : (rk d132 P0 c 38 c132.snd).1 k132 [] k132 gK = L3 (S132_1 c) 0 1 2 := Eq.trans (seq_t (by kernel_rfl) (TS132_0 c) rfl) (by funext s h; kernel_rfl)
noncomputable def F132 (c : CF) (a0 a1 a2 : AV) (h : Heap) : Res := S132_1 c a0 a1 a2 h
theorem TF132 (c : CF) (a0 a1 a2 : AV) (h : Heap) : (rk d132 P0 c 38 c132).1 k132 [] k132 gK (argsTr gl 0 [a0,a1,a2]) h = F132 c a0 a1 a2 h := Eq.trans (congrFun (congrFun (seq_t (by kernel_rfl) (TS132_1 c) rfl) _) _) (by kernel_rfl)
noncomputable def N132 : FnF := n3 F132
theorem N132_ok : FnOk P0 gl 132 N132 := n3_ok namesOk mixedOrders lowOk Tryz.func132 (by kernel_rfl) (by kernel_rfl) (by kernel_rfl) TF132
noncomputable def c134 : Code := codeOf Tryz.f134
noncomputable def k134 : Kt := finK P0 Tryz.f134.results.toList
def d134 : List Nat := []
noncomputable def S134_0 (c : CF) (t0 : AV) (h : Heap) : Res := some (t0,h)
theorem TS134_0 (c : CF) : (rk d134 P0 c 23 c134.s3).1 k134 [] k134 gK = L1 (S134_0 c) 0 := by funext s h; kernel_rfl
noncomputable def S134_2b (c : CF) (r1 : A4) (t0 t7 t8 t9 : AV) (h : Heap) : Res := opt (fastBin .lss t9 t8) fun t10 => test t10 (opt (indexAddrS 2 t7 t9 h) fun t12 => opt (loadX (some 2) t12 h) fun t13 => opt2 (box (.agg [eL,nL]) h) fun t4 h1 => optH (storeX 2 t4 t13 h1) fun h2 => opt (fieldAddrX 1 t4) fun t16 => opt (loadX none t16 h2) fun t17 => opt2 (c 183 [t17] h2) fun t18 h3 => opt (indexAddrS 2 t0 t9 h3) fun t19 => opt (fieldAddrX 1 t19) fun t20 => optH (storeX 1 t20 t18 h3) fun h4 => opt (fastBin .add t9 (iL 1)) fun t21 => r1 t0 t7 t8 t21 h4) (S134_0 c t0 h)
theorem TS134_2b (c : CF) (r1 : A4) : (rk d134 P0 c 23 c134.s2.fst.snd.bd.bd).1 (L4 r1 0 7 8 9) [(0,(L1 (S134_0 c) 0))] k134 gK = L4 (S134_2b c r1) 0 7 8 9 := by funext s h; kernel_rfl
noncomputable def S134_1l (c : CF) : Nat → A4
  | 0 => fun _ _ _ _ _ => none
  | k + 1 => S134_2b c (S134_1l c k)
theorem TS134_1l (c : CF) : (rk d134 P0 c 23 c134.s2.fst.snd.bd).1 (L1 (S134_0 c) 0) [(0,(L1 (S134_0 c) 0))] k134 gK = L4 (S134_1l c rounds) 0 7 8 9 := loop_t (by kernel_rfl) (loop_ind (A := fun m => L4 (S134_1l c m) 0 7 8 9) rfl (fun m => TS134_2b c (S134_1l c m)) rounds)
noncomputable def S134_3 (c : CF) (t0 t7 t8 t9 : AV) (h : Heap) : Res := S134_1l c rounds t0 t7 t8 t9 h
theorem TS134_3 (c : CF) : (rk d134 P0 c 23 c134.s2.fst.snd).1 (L1 (S134_0 c) 0) [] k134 gK = L4 (S134_3 c) 0 7 8 9 := Eq.trans (block_t (id := 0) (by kernel_rfl) (TS134_1l c)) (by funext s h; kernel_rfl)
noncomputable def S134_4 (c : CF) (t0 : AV) (h : Heap) : Res := opt (lenS t0) fun t8 => S134_3 c t0 t0 t8 (iL 0) h
theorem TS134_4 (c : CF) : (rk d134 P0 c 23 c134.s2).1 k134 [] k134 gK = L1 (S134_4 c) 0 := Eq.trans (seq_t (by kernel_rfl) (TS134_0 c) (seq_t (by kernel_rfl) (TS134_3 c) rfl)) (by funext s h; kernel_rfl)
noncomputable def S134_5 (c : CF) (t0 : AV) (h : Heap) : Res := opt2 (c 182 [t0] h) fun t6 h1 => S134_4 c t6 h1
theorem TS134_5 (c : CF) : (rk d134 P0 c 23 c134.snd).1 k134 [] k134 gK = L1 (S134_5 c) 0 := Eq.trans (seq_t (by kernel_rfl) (TS134_4 c) rfl) (by funext s h; kernel_rfl)
noncomputable def F134 (c : CF) (a0 : AV) (h : Heap) : Res := S134_5 c a0 h
theorem TF134 (c : CF) (a0 : AV) (h : Heap) : (rk d134 P0 c 23 c134).1 k134 [] k134 gK (argsTr gl 0 [a0]) h = F134 c a0 h := Eq.trans (congrFun (congrFun (seq_t (by kernel_rfl) (TS134_5 c) rfl) _) _) (by kernel_rfl)
noncomputable def N134 : FnF := n1 F134
theorem N134_ok : FnOk P0 gl 134 N134 := n1_ok namesOk mixedOrders lowOk Tryz.func134 (by kernel_rfl) (by kernel_rfl) (by kernel_rfl) TF134
noncomputable def c135 : Code := codeOf Tryz.f135
noncomputable def k135 : Kt := finK P0 Tryz.f135.results.toList
def d135 : List Nat := [2,15,16,26,30]
noncomputable def S135_0 (c : CF) (t5 : AV) (h : Heap) : Res := some ((.tup [t5,(iL 0),(iL 0)]),h)
theorem TS135_0 (c : CF) : (rk d135 P0 c 147 c135.s4).1 k135 [] k135 gK = L1 (S135_0 c) 5 := by funext s h; kernel_rfl
noncomputable def S135_3b (c : CF) (r1 : A3) (r2 : A0) (h : Heap) : Res := none
theorem TS135_3b (c : CF) (r1 : A3) (r2 : A0) : (rk d135 P0 c 147 c135.s3.fst.snd.bd.bd.snd.bd.snd.bd.snd.els.snd.thn.bd.bd).1 (L0 r2) [(5,(L3 r1 0 5 6)),(2,(L3 r1 0 5 6)),(1,(L3 r1 0 5 6)),(0,(L1 (S135_0 c) 5))] k135 gK = L0 (S135_3b c r1 r2) := by funext s h; kernel_rfl
noncomputable def S135_2l (c : CF) (r1 : A3) : Nat → A0
  | 0 => fun _ => none
  | k + 1 => S135_3b c r1 (S135_2l c r1 k)
theorem TS135_2l (c : CF) (r1 : A3) : (rk d135 P0 c 147 c135.s3.fst.snd.bd.bd.snd.bd.snd.bd.snd.els.snd.thn.bd).1 (L3 r1 0 5 6) [(5,(L3 r1 0 5 6)),(2,(L3 r1 0 5 6)),(1,(L3 r1 0 5 6)),(0,(L1 (S135_0 c) 5))] k135 gK = L0 (S135_2l c r1 rounds) := loop_t (by kernel_rfl) (loop_ind (A := fun m => L0 (S135_2l c r1 m)) rfl (fun m => TS135_3b c r1 (S135_2l c r1 m)) rounds)
noncomputable def S135_4 (c : CF) (r1 : A3) (t0 t5 t6 t12 : AV) (h : Heap) : Res := opt (fastCut t0 (some t6) (some t12) none) fun t71 => opt (buildX [(iL 0),(iL 0),eL] [(0,1),(1,1),(2,1)] [(0,(iL 3)),(1,t6),(2,t71)]) fun t72 => opt2 (bsliceX 3 (.agg [(iL 0),(iL 0),eL]) 1 [(0,t72)] h) fun t73 h1 => opt2 (appendX 3 32 t5 t73 h1) fun t74 h2 => r1 t0 t74 t12 h2
theorem TS135_4 (c : CF) (r1 : A3) : (rk d135 P0 c 147 c135.s3.fst.snd.bd.bd.snd.bd.snd.bd.snd.els.snd.els.snd.els.snd.els.snd.els.snd.els.s2).1 (L3 r1 0 5 6) [(2,(L3 r1 0 5 6)),(1,(L3 r1 0 5 6)),(0,(L1 (S135_0 c) 5))] k135 gK = L4 (S135_4 c r1) 0 5 6 12 := by funext s h; kernel_rfl
noncomputable def S135_6 (c : CF) (r1 : A3) (r5 : A4) (t0 t5 t6 t12 : AV) (h : Heap) : Res := opt (fastBin .add t12 (iL 1)) fun t65 => r5 t0 t5 t6 t65 h
theorem TS135_6 (c : CF) (r1 : A3) (r5 : A4) : (rk d135 P0 c 147 c135.s3.fst.snd.bd.bd.snd.bd.snd.bd.snd.els.snd.els.snd.els.snd.els.snd.els.snd.els.snd.fst.bd.bd.snd).1 (L4 r5 0 5 6 12) [(3,(L4 (S135_4 c r1) 0 5 6 12)),(2,(L3 r1 0 5 6)),(1,(L3 r1 0 5 6)),(0,(L1 (S135_0 c) 5))] k135 gK = L4 (S135_6 c r1 r5) 0 5 6 12 := by funext s h; kernel_rfl
noncomputable def S135_7b (c : CF) (r1 : A3) (r5 : A4) (t0 t5 t6 t12 : AV) (h : Heap) : Res := opt (lenStr t0) fun t26 => opt (fastBin .lss t12 t26) fun t27 => test t27 (opt (fastIndex t0 t12) fun t31 => opt (fastBin .geq t31 (uL 33)) fun t32 => test t32 (opt (fastIndex t0 t12) fun t37 => opt (fastBin .leq t37 (uL 126)) fun t38 => test t38 (opt (fastIndex t0 t12) fun t43 => opt (fastBin .neq t43 (uL 59)) fun t44 => test t44 (opt (fastIndex t0 t12) fun t49 => opt (fastBin .neq t49 (uL 40)) fun t50 => test t50 (opt (fastIndex t0 t12) fun t55 => opt (fastBin .neq t55 (uL 41)) fun t56 => test t56 (opt (fastIndex t0 t12) fun t61 => opt (fastBin .neq t61 (uL 34)) fun t62 => test t62 (S135_6 c r1 r5 t0 t5 t6 t12 h) (S135_4 c r1 t0 t5 t6 t12 h)) (S135_4 c r1 t0 t5 t6 t12 h)) (S135_4 c r1 t0 t5 t6 t12 h)) (S135_4 c r1 t0 t5 t6 t12 h)) (S135_4 c r1 t0 t5 t6 t12 h)) (S135_4 c r1 t0 t5 t6 t12 h)) (S135_4 c r1 t0 t5 t6 t12 h)
theorem TS135_7b (c : CF) (r1 : A3) (r5 : A4) : (rk d135 P0 c 147 c135.s3.fst.snd.bd.bd.snd.bd.snd.bd.snd.els.snd.els.snd.els.snd.els.snd.els.snd.els.snd.fst.bd.bd).1 (L4 r5 0 5 6 12) [(3,(L4 (S135_4 c r1) 0 5 6 12)),(2,(L3 r1 0 5 6)),(1,(L3 r1 0 5 6)),(0,(L1 (S135_0 c) 5))] k135 gK = L4 (S135_7b c r1 r5) 0 5 6 12 := Eq.trans (seq_t (by kernel_rfl) (TS135_6 c r1 r5) rfl) (by funext s h; kernel_rfl)
noncomputable def S135_5l (c : CF) (r1 : A3) : Nat → A4
  | 0 => fun _ _ _ _ _ => none
  | k + 1 => S135_7b c r1 (S135_5l c r1 k)
theorem TS135_5l (c : CF) (r1 : A3) : (rk d135 P0 c 147 c135.s3.fst.snd.bd.bd.snd.bd.snd.bd.snd.els.snd.els.snd.els.snd.els.snd.els.snd.els.snd.fst.bd).1 (L4 (S135_4 c r1) 0 5 6 12) [(3,(L4 (S135_4 c r1) 0 5 6 12)),(2,(L3 r1 0 5 6)),(1,(L3 r1 0 5 6)),(0,(L1 (S135_0 c) 5))] k135 gK = L4 (S135_5l c r1 rounds) 0 5 6 12 := loop_t (by kernel_rfl) (loop_ind (A := fun m => L4 (S135_5l c r1 m) 0 5 6 12) rfl (fun m => TS135_7b c r1 (S135_5l c r1 m)) rounds)
noncomputable def S135_8 (c : CF) (r1 : A3) (t0 t5 t6 t12 : AV) (h : Heap) : Res := S135_5l c r1 rounds t0 t5 t6 t12 h
theorem TS135_8 (c : CF) (r1 : A3) : (rk d135 P0 c 147 c135.s3.fst.snd.bd.bd.snd.bd.snd.bd.snd.els.snd.els.snd.els.snd.els.snd.els.snd.els.snd).1 (L3 r1 0 5 6) [(2,(L3 r1 0 5 6)),(1,(L3 r1 0 5 6)),(0,(L1 (S135_0 c) 5))] k135 gK = L4 (S135_8 c r1) 0 5 6 12 := Eq.trans (seq_t (by kernel_rfl) (TS135_4 c r1) (block_t (id := 3) (by kernel_rfl) (TS135_5l c r1))) (by funext s h; kernel_rfl)
noncomputable def S135_9 (c : CF) (r1 : A3) (t0 t5 t6 : AV) (h : Heap) : Res := S135_8 c r1 t0 t5 t6 t6 h
theorem TS135_9 (c : CF) (r1 : A3) : (rk d135 P0 c 147 c135.s3.fst.snd.bd.bd.snd.bd.snd.bd.snd.els.snd.els.snd.els.snd.els.snd.els.snd.els).1 (L3 r1 0 5 6) [(2,(L3 r1 0 5 6)),(1,(L3 r1 0 5 6)),(0,(L1 (S135_0 c) 5))] k135 gK = L3 (S135_9 c r1) 0 5 6 := Eq.trans (seq_t (by kernel_rfl) (TS135_8 c r1) rfl) (by funext s h; kernel_rfl)
noncomputable def S135_10 (c : CF) (r1 : A3) (t0 t5 t6 t138 : AV) (h : Heap) : Res := test t138 (none) (S135_9 c r1 t0 t5 t6 h)
theorem TS135_10 (c : CF) (r1 : A3) : (rk d135 P0 c 147 c135.s3.fst.snd.bd.bd.snd.bd.snd.bd.snd.els.snd.els.snd.els.snd.els.snd.els.snd).1 (L3 r1 0 5 6) [(2,(L3 r1 0 5 6)),(1,(L3 r1 0 5 6)),(0,(L1 (S135_0 c) 5))] k135 gK = L4 (S135_10 c r1) 0 5 6 138 := Eq.trans (cond_t (by kernel_rfl) rfl (TS135_9 c r1)) (by funext s h; kernel_rfl)
noncomputable def S135_11 (c : CF) (r1 : A3) (t0 t5 t6 t7 : AV) (h : Heap) : Res := opt (fastBin .lss t7 (uL 33)) fun t140 => test t140 (S135_10 c r1 t0 t5 t6 tL h) (opt (fastBin .gtr t7 (uL 126)) fun t143 => S135_10 c r1 t0 t5 t6 t143 h)
theorem TS135_11 (c : CF) (r1 : A3) : (rk d135 P0 c 147 c135.s3.fst.snd.bd.bd.snd.bd.snd.bd.snd.els.snd.els.snd.els.snd.els.snd.els).1 (L3 r1 0 5 6) [(2,(L3 r1 0 5 6)),(1,(L3 r1 0 5 6)),(0,(L1 (S135_0 c) 5))] k135 gK = L4 (S135_11 c r1) 0 5 6 7 := Eq.trans (seq_t (by kernel_rfl) (TS135_10 c r1) rfl) (by funext s h; kernel_rfl)
noncomputable def S135_12 (c : CF) (r1 : A3) (t0 t5 t6 t7 t116 : AV) (h : Heap) : Res := test t116 (opt2 (c 209 [t0,t6] h) fun t122 h1 => opt (extractX t122 0) fun t123 => opt (extractX t122 1) fun t124 => opt (extractX t122 2) fun t125 => opt (extractX t122 3) fun t126 => opt (fastBin .neq t125 (iL 0)) fun t128 => test t128 (none) (opt (buildX [(iL 0),(iL 0),eL] [(0,1),(1,1),(2,1)] [(0,(iL 4)),(1,t6),(2,t123)]) fun t134 => opt2 (bsliceX 3 (.agg [(iL 0),(iL 0),eL]) 1 [(0,t134)] h1) fun t135 h2 => opt2 (appendX 3 32 t5 t135 h2) fun t136 h3 => r1 t0 t136 t124 h3)) (S135_11 c r1 t0 t5 t6 t7 h)
theorem TS135_12 (c : CF) (r1 : A3) : (rk d135 P0 c 147 c135.s3.fst.snd.bd.bd.snd.bd.snd.bd.snd.els.snd.els.snd.els.snd.els.snd).1 (L3 r1 0 5 6) [(2,(L3 r1 0 5 6)),(1,(L3 r1 0 5 6)),(0,(L1 (S135_0 c) 5))] k135 gK = L5 (S135_12 c r1) 0 5 6 7 116 := Eq.trans (cond_t (by kernel_rfl) rfl (TS135_11 c r1)) (by funext s h; kernel_rfl)
noncomputable def S135_13 (c : CF) (r1 : A3) (t0 t5 t6 t7 : AV) (h : Heap) : Res := opt (fastBin .eql t7 (uL 34)) fun t118 => S135_12 c r1 t0 t5 t6 t7 t118 h
theorem TS135_13 (c : CF) (r1 : A3) : (rk d135 P0 c 147 c135.s3.fst.snd.bd.bd.snd.bd.snd.bd.snd.els.snd.els.snd.els.snd.els).1 (L3 r1 0 5 6) [(2,(L3 r1 0 5 6)),(1,(L3 r1 0 5 6)),(0,(L1 (S135_0 c) 5))] k135 gK = L4 (S135_13 c r1) 0 5 6 7 := Eq.trans (seq_t (by kernel_rfl) (TS135_12 c r1) rfl) (by funext s h; kernel_rfl)
noncomputable def S135_14 (c : CF) (r1 : A3) (t0 t5 t6 t7 t106 : AV) (h : Heap) : Res := test t106 (opt (buildX [(iL 0),(iL 0),eL] [(0,1),(1,1),(2,1)] [(0,(iL 2)),(1,t6),(2,eL)]) fun t111 => opt2 (bsliceX 3 (.agg [(iL 0),(iL 0),eL]) 1 [(0,t111)] h) fun t112 h1 => opt2 (appendX 3 32 t5 t112 h1) fun t113 h2 => opt (fastBin .add t6 (iL 1)) fun t115 => r1 t0 t113 t115 h2) (S135_13 c r1 t0 t5 t6 t7 h)
theorem TS135_14 (c : CF) (r1 : A3) : (rk d135 P0 c 147 c135.s3.fst.snd.bd.bd.snd.bd.snd.bd.snd.els.snd.els.snd.els.snd).1 (L3 r1 0 5 6) [(2,(L3 r1 0 5 6)),(1,(L3 r1 0 5 6)),(0,(L1 (S135_0 c) 5))] k135 gK = L5 (S135_14 c r1) 0 5 6 7 106 := Eq.trans (cond_t (by kernel_rfl) rfl (TS135_13 c r1)) (by funext s h; kernel_rfl)
noncomputable def S135_15 (c : CF) (r1 : A3) (t0 t5 t6 t7 : AV) (h : Heap) : Res := opt (fastBin .eql t7 (uL 41)) fun t108 => S135_14 c r1 t0 t5 t6 t7 t108 h
theorem TS135_15 (c : CF) (r1 : A3) : (rk d135 P0 c 147 c135.s3.fst.snd.bd.bd.snd.bd.snd.bd.snd.els.snd.els.snd.els).1 (L3 r1 0 5 6) [(2,(L3 r1 0 5 6)),(1,(L3 r1 0 5 6)),(0,(L1 (S135_0 c) 5))] k135 gK = L4 (S135_15 c r1) 0 5 6 7 := Eq.trans (seq_t (by kernel_rfl) (TS135_14 c r1) rfl) (by funext s h; kernel_rfl)
noncomputable def S135_16 (c : CF) (r1 : A3) (t0 t5 t6 t7 t96 : AV) (h : Heap) : Res := test t96 (opt (buildX [(iL 0),(iL 0),eL] [(0,1),(1,1),(2,1)] [(0,(iL 1)),(1,t6),(2,eL)]) fun t101 => opt2 (bsliceX 3 (.agg [(iL 0),(iL 0),eL]) 1 [(0,t101)] h) fun t102 h1 => opt2 (appendX 3 32 t5 t102 h1) fun t103 h2 => opt (fastBin .add t6 (iL 1)) fun t105 => r1 t0 t103 t105 h2) (S135_15 c r1 t0 t5 t6 t7 h)
theorem TS135_16 (c : CF) (r1 : A3) : (rk d135 P0 c 147 c135.s3.fst.snd.bd.bd.snd.bd.snd.bd.snd.els.snd.els.snd).1 (L3 r1 0 5 6) [(2,(L3 r1 0 5 6)),(1,(L3 r1 0 5 6)),(0,(L1 (S135_0 c) 5))] k135 gK = L5 (S135_16 c r1) 0 5 6 7 96 := Eq.trans (cond_t (by kernel_rfl) rfl (TS135_15 c r1)) (by funext s h; kernel_rfl)
noncomputable def S135_17 (c : CF) (r1 : A3) (h : Heap) : Res := S135_2l c r1 rounds h
theorem TS135_17 (c : CF) (r1 : A3) : (rk d135 P0 c 147 c135.s3.fst.snd.bd.bd.snd.bd.snd.bd.snd.els.snd.thn).1 (L3 r1 0 5 6) [(2,(L3 r1 0 5 6)),(1,(L3 r1 0 5 6)),(0,(L1 (S135_0 c) 5))] k135 gK = L0 (S135_17 c r1) := Eq.trans (block_t (id := 5) (by kernel_rfl) (TS135_2l c r1)) (by funext s h; kernel_rfl)
noncomputable def S135_18 (c : CF) (r1 : A3) (t0 t5 t6 t7 : AV) (h : Heap) : Res := opt (fastBin .eql t7 (uL 40)) fun t98 => S135_16 c r1 t0 t5 t6 t7 t98 h
theorem TS135_18 (c : CF) (r1 : A3) : (rk d135 P0 c 147 c135.s3.fst.snd.bd.bd.snd.bd.snd.bd.snd.els.snd.els).1 (L3 r1 0 5 6) [(2,(L3 r1 0 5 6)),(1,(L3 r1 0 5 6)),(0,(L1 (S135_0 c) 5))] k135 gK = L4 (S135_18 c r1) 0 5 6 7 := Eq.trans (seq_t (by kernel_rfl) (TS135_16 c r1) rfl) (by funext s h; kernel_rfl)
noncomputable def S135_19 (c : CF) (r1 : A3) (t0 t5 t6 t7 t81 : AV) (h : Heap) : Res := test t81 (S135_17 c r1 h) (S135_18 c r1 t0 t5 t6 t7 h)
theorem TS135_19 (c : CF) (r1 : A3) : (rk d135 P0 c 147 c135.s3.fst.snd.bd.bd.snd.bd.snd.bd.snd.els.snd).1 (L3 r1 0 5 6) [(2,(L3 r1 0 5 6)),(1,(L3 r1 0 5 6)),(0,(L1 (S135_0 c) 5))] k135 gK = L5 (S135_19 c r1) 0 5 6 7 81 := Eq.trans (cond_t (by kernel_rfl) (TS135_17 c r1) (TS135_18 c r1)) (by funext s h; kernel_rfl)
noncomputable def S135_20 (c : CF) (r1 : A3) (t0 t5 t6 t7 : AV) (h : Heap) : Res := opt (fastBin .eql t7 (uL 59)) fun t83 => S135_19 c r1 t0 t5 t6 t7 t83 h
theorem TS135_20 (c : CF) (r1 : A3) : (rk d135 P0 c 147 c135.s3.fst.snd.bd.bd.snd.bd.snd.bd.snd.els).1 (L3 r1 0 5 6) [(2,(L3 r1 0 5 6)),(1,(L3 r1 0 5 6)),(0,(L1 (S135_0 c) 5))] k135 gK = L4 (S135_20 c r1) 0 5 6 7 := Eq.trans (seq_t (by kernel_rfl) (TS135_19 c r1) rfl) (by funext s h; kernel_rfl)
noncomputable def S135_21 (c : CF) (r1 : A3) (t0 t5 t6 t7 t76 : AV) (h : Heap) : Res := test t76 (opt (fastBin .add t6 (iL 1)) fun t80 => r1 t0 t5 t80 h) (S135_20 c r1 t0 t5 t6 t7 h)
theorem TS135_21 (c : CF) (r1 : A3) : (rk d135 P0 c 147 c135.s3.fst.snd.bd.bd.snd.bd.snd.bd.snd).1 (L3 r1 0 5 6) [(2,(L3 r1 0 5 6)),(1,(L3 r1 0 5 6)),(0,(L1 (S135_0 c) 5))] k135 gK = L5 (S135_21 c r1) 0 5 6 7 76 := Eq.trans (cond_t (by kernel_rfl) rfl (TS135_20 c r1)) (by funext s h; kernel_rfl)
noncomputable def S135_22 (c : CF) (r1 : A3) (t0 t5 t6 t7 : AV) (h : Heap) : Res := opt2 (c 208 [t7] h) fun t78 h1 => S135_21 c r1 t0 t5 t6 t7 t78 h1
theorem TS135_22 (c : CF) (r1 : A3) : (rk d135 P0 c 147 c135.s3.fst.snd.bd.bd.snd.bd.snd).1 (L3 r1 0 5 6) [(1,(L3 r1 0 5 6)),(0,(L1 (S135_0 c) 5))] k135 gK = L4 (S135_22 c r1) 0 5 6 7 := Eq.trans (block_t (id := 2) (by kernel_rfl) (seq_t (by kernel_rfl) (TS135_21 c r1) rfl)) (by funext s h; kernel_rfl)
noncomputable def S135_23 (c : CF) (r1 : A3) (t0 t5 t6 : AV) (h : Heap) : Res := opt (fastIndex t0 t6) fun t22 => S135_22 c r1 t0 t5 t6 t22 h
theorem TS135_23 (c : CF) (r1 : A3) : (rk d135 P0 c 147 c135.s3.fst.snd.bd.bd.snd).1 (L3 r1 0 5 6) [(0,(L1 (S135_0 c) 5))] k135 gK = L3 (S135_23 c r1) 0 5 6 := Eq.trans (block_t (id := 1) (by kernel_rfl) (seq_t (by kernel_rfl) (TS135_22 c r1) rfl)) (by funext s h; kernel_rfl)
noncomputable def S135_24b (c : CF) (r1 : A3) (t0 t5 t6 : AV) (h : Heap) : Res := opt (lenStr t0) fun t18 => opt (fastBin .lss t6 t18) fun t19 => test t19 (S135_23 c r1 t0 t5 t6 h) (S135_0 c t5 h)
theorem TS135_24b (c : CF) (r1 : A3) : (rk d135 P0 c 147 c135.s3.fst.snd.bd.bd).1 (L3 r1 0 5 6) [(0,(L1 (S135_0 c) 5))] k135 gK = L3 (S135_24b c r1) 0 5 6 := Eq.trans (seq_t (by kernel_rfl) (TS135_23 c r1) rfl) (by funext s h; kernel_rfl)
noncomputable def S135_1l (c : CF) : Nat → A3
  | 0 => fun _ _ _ _ => none
  | k + 1 => S135_24b c (S135_1l c k)
theorem TS135_1l (c : CF) : (rk d135 P0 c 147 c135.s3.fst.snd.bd).1 (L1 (S135_0 c) 5) [(0,(L1 (S135_0 c) 5))] k135 gK = L3 (S135_1l c rounds) 0 5 6 := loop_t (by kernel_rfl) (loop_ind (A := fun m => L3 (S135_1l c m) 0 5 6) rfl (fun m => TS135_24b c (S135_1l c m)) rounds)
noncomputable def S135_25 (c : CF) (t0 t5 t6 : AV) (h : Heap) : Res := S135_1l c rounds t0 t5 t6 h
theorem TS135_25 (c : CF) : (rk d135 P0 c 147 c135.s3.fst.snd).1 (L1 (S135_0 c) 5) [] k135 gK = L3 (S135_25 c) 0 5 6 := Eq.trans (block_t (id := 0) (by kernel_rfl) (TS135_1l c)) (by funext s h; kernel_rfl)
noncomputable def S135_26 (c : CF) (t0 t5 : AV) (h : Heap) : Res := S135_25 c t0 t5 (iL 0) h
theorem TS135_26 (c : CF) : (rk d135 P0 c 147 c135.s3).1 k135 [] k135 gK = L2 (S135_26 c) 0 5 := Eq.trans (seq_t (by kernel_rfl) (TS135_0 c) (seq_t (by kernel_rfl) (TS135_25 c) rfl)) (by funext s h; kernel_rfl)
noncomputable def S135_27 (c : CF) (t0 : AV) (h : Heap) : Res := S135_26 c t0 nL h
theorem TS135_27 (c : CF) : (rk d135 P0 c 147 c135.s2).1 k135 [] k135 gK = L1 (S135_27 c) 0 := Eq.trans (seq_t (by kernel_rfl) (TS135_26 c) rfl) (by funext s h; kernel_rfl)
noncomputable def S135_28 (c : CF) (t0 : AV) (h : Heap) : Res := opt (lenStr t0) fun t14 => opt (fastBin .gtr t14 (iL 8192)) fun t15 => test t15 (none) (S135_27 c t0 h)
theorem TS135_28 (c : CF) : (rk d135 P0 c 147 c135.snd).1 k135 [] k135 gK = L1 (S135_28 c) 0 := Eq.trans (seq_t (by kernel_rfl) (TS135_27 c) rfl) (by funext s h; kernel_rfl)
noncomputable def F135 (c : CF) (a0 : AV) (h : Heap) : Res := S135_28 c a0 h
theorem TF135 (c : CF) (a0 : AV) (h : Heap) : (rk d135 P0 c 147 c135).1 k135 [] k135 gK (argsTr gl 0 [a0]) h = F135 c a0 h := Eq.trans (congrFun (congrFun (seq_t (by kernel_rfl) (TS135_28 c) rfl) _) _) (by kernel_rfl)
noncomputable def N135 : FnF := n1 F135
theorem N135_ok : FnOk P0 gl 135 N135 := n1_ok namesOk mixedOrders lowOk Tryz.func135 (by kernel_rfl) (by kernel_rfl) (by kernel_rfl) TF135
noncomputable def c136 : Code := codeOf Tryz.f136
noncomputable def k136 : Kt := finK P0 Tryz.f136.results.toList
def d136 : List Nat := []
noncomputable def S136_0 (c : CF) (t2 t4 t5 : AV) (h : Heap) : Res := opt (loadX (some 4) t4 h) fun t47 => opt (fastBin .add t5 (iL 1)) fun t49 => optH (storeX 4 t2 t47 h) fun h1 => opt (loadX (some 4) t2 h1) fun res => some ((.tup [res,t49]),h1)
theorem TS136_0 (c : CF) : (rk d136 P0 c 50 c136.s5).1 k136 [] k136 gK = L3 (S136_0 c) 2 4 5 := by funext s h; kernel_rfl
noncomputable def S136_2b (c : CF) (r1 : A4) (t0 t2 t4 t5 : AV) (h : Heap) : Res := opt (indexAddrS 3 t0 t5 h) fun t27 => opt (fieldAddrX 0 t27) fun t28 => opt (loadX none t28 h) fun t29 => opt (fastBin .neq t29 (iL 2)) fun t30 => test t30 (opt (cutZ 3 t0 (some t5) none none h) fun t34 => opt2 (c 136 [t34] h) fun t35 h1 => opt (extractX t35 0) fun t36 => opt (extractX t35 1) fun t37 => opt2 (box (.agg [(iL 0),(iL 0),eL,nL]) h1) fun t6 h2 => optH (storeX 4 t6 t36 h2) fun h3 => opt (fieldAddrX 3 t4) fun t38 => opt (loadX none t38 h3) fun t39 => opt (loadX (some 4) t6 h3) fun t40 => opt2 (bsliceX 4 (.agg [(iL 0),(iL 0),eL,nL]) 1 [(0,t40)] h3) fun t41 h4 => opt2 (appendX 4 56 t39 t41 h4) fun t42 h5 => opt (fieldAddrX 3 t4) fun t43 => optH (storeX 1 t43 t42 h5) fun h6 => opt (fastBin .add t5 t37) fun t46 => r1 t0 t2 t4 t46 h6) (S136_0 c t2 t4 t5 h)
theorem TS136_2b (c : CF) (r1 : A4) : (rk d136 P0 c 50 c136.s4.fst.bd.bd).1 (L4 r1 0 2 4 5) [(0,(L3 (S136_0 c) 2 4 5))] k136 gK = L4 (S136_2b c r1) 0 2 4 5 := by funext s h; kernel_rfl
noncomputable def S136_1l (c : CF) : Nat → A4
  | 0 => fun _ _ _ _ _ => none
  | k + 1 => S136_2b c (S136_1l c k)
theorem TS136_1l (c : CF) : (rk d136 P0 c 50 c136.s4.fst.bd).1 (L3 (S136_0 c) 2 4 5) [(0,(L3 (S136_0 c) 2 4 5))] k136 gK = L4 (S136_1l c rounds) 0 2 4 5 := loop_t (by kernel_rfl) (loop_ind (A := fun m => L4 (S136_1l c m) 0 2 4 5) rfl (fun m => TS136_2b c (S136_1l c m)) rounds)
noncomputable def S136_3 (c : CF) (t0 t2 t4 t5 : AV) (h : Heap) : Res := S136_1l c rounds t0 t2 t4 t5 h
theorem TS136_3 (c : CF) : (rk d136 P0 c 50 c136.s4).1 k136 [] k136 gK = L4 (S136_3 c) 0 2 4 5 := Eq.trans (seq_t (by kernel_rfl) (TS136_0 c) (block_t (id := 0) (by kernel_rfl) (TS136_1l c))) (by funext s h; kernel_rfl)
noncomputable def S136_4 (c : CF) (t0 t2 t4 : AV) (h : Heap) : Res := S136_3 c t0 t2 t4 (iL 1) h
theorem TS136_4 (c : CF) : (rk d136 P0 c 50 c136.s3).1 k136 [] k136 gK = L3 (S136_4 c) 0 2 4 := Eq.trans (seq_t (by kernel_rfl) (TS136_3 c) rfl) (by funext s h; kernel_rfl)
noncomputable def S136_5 (c : CF) (t0 t2 t4 : AV) (h : Heap) : Res := opt (fieldAddrX 0 t4) fun t21 => opt (loadX none t21 h) fun t22 => opt (fastBin .neq t22 (iL 1)) fun t23 => test t23 (opt (loadX (some 4) t4 h) fun t24 => optH (storeX 4 t2 t24 h) fun h1 => opt (loadX (some 4) t2 h1) fun res => some ((.tup [res,(iL 1)]),h1)) (S136_4 c t0 t2 t4 h)
theorem TS136_5 (c : CF) : (rk d136 P0 c 50 c136.s2).1 k136 [] k136 gK = L3 (S136_5 c) 0 2 4 := Eq.trans (seq_t (by kernel_rfl) (TS136_4 c) rfl) (by funext s h; kernel_rfl)
noncomputable def S136_6 (c : CF) (t0 t2 : AV) (h : Heap) : Res := opt (indexAddrS 3 t0 (iL 0) h) fun t9 => eqH h h (opt (fieldAddrX 0 t9) fun t10 => opt (loadX none t10 h) fun t11 => eqH h h (opt (indexAddrS 3 t0 (iL 0) h) fun t13 => eqH h h (opt (fieldAddrX 1 t13) fun t14 => opt (loadX none t14 h) fun t15 => eqH h h (opt (indexAddrS 3 t0 (iL 0) h) fun t17 => eqH h h (opt (fieldAddrX 2 t17) fun t18 => opt (loadX none t18 h) fun t19 => eqH h h (opt (buildX [(iL 0),(iL 0),eL,nL] [(0,1),(1,1),(2,1),(3,1)] [(0,t11),(1,t15),(2,t19)]) fun t20 => opt2 (box (.agg [(iL 0),(iL 0),eL,nL]) h) fun t4 h1 => opt (loadX none t18 h1) fun t19_1 => eqK t19_1 t19 (eqH h1 h1 (opt (indexAddrS 3 t0 (iL 0) h1) fun t17_1 => eqK t17_1 t17 (eqH h1 h1 (opt (loadX none t14 h1) fun t15_1 => eqK t15_1 t15 (eqH h1 h1 (opt (indexAddrS 3 t0 (iL 0) h1) fun t13_1 => eqK t13_1 t13 (eqH h1 h1 (opt (loadX none t10 h1) fun t11_1 => eqK t11_1 t11 (eqH h1 h1 (opt (indexAddrS 3 t0 (iL 0) h1) fun t9_1 => eqK t9_1 t9 (eqH h1 h1 (optH (storeX 4 t4 t20 h1) fun h2 => S136_5 c t0 t2 t4 h2))))))))))))))))))
theorem TS136_6 (c : CF) : (rk d136 P0 c 50 c136.snd).1 k136 [] k136 gK = L2 (S136_6 c) 0 2 := Eq.trans (seq_t (by kernel_rfl) (TS136_5 c) rfl) (by funext s h; kernel_rfl)
noncomputable def F136 (c : CF) (a0 : AV) (h : Heap) : Res := opt2 (box (.agg [(iL 0),(iL 0),eL,nL]) h) fun t2 h1 => S136_6 c a0 t2 h1
theorem TF136 (c : CF) (a0 : AV) (h : Heap) : (rk d136 P0 c 50 c136).1 k136 [] k136 gK (argsTr gl 0 [a0]) h = F136 c a0 h := Eq.trans (congrFun (congrFun (seq_t (by kernel_rfl) (TS136_6 c) rfl) _) _) (by kernel_rfl)
noncomputable def N136 : FnF := n1 F136
theorem N136_ok : FnOk P0 gl 136 N136 := n1_ok namesOk mixedOrders lowOk Tryz.func136 (by kernel_rfl) (by kernel_rfl) (by kernel_rfl) TF136
noncomputable def c137 : Code := codeOf Tryz.f137
noncomputable def k137 : Kt := finK P0 Tryz.f137.results.toList
def d137 : List Nat := [6]
noncomputable def S137_0 (c : CF) (t0 : AV) (h : Heap) : Res := opt (lenStr t0) fun t46 => opt (fastBin .geq t46 (iL 1)) fun t47 => test t47 (opt (lenStr t0) fun t50 => opt (fastBin .leq t50 (iL 24)) fun t51 => some (t51,h)) (some (fL,h))
theorem TS137_0 (c : CF) : (rk d137 P0 c 53 c137.s2).1 k137 [] k137 gK = L1 (S137_0 c) 0 := by funext s h; kernel_rfl
noncomputable def S137_2 (c : CF) (r1 : A2) (t0 t3 : AV) (h : Heap) : Res := opt (fastBin .add t3 (iL 1)) fun t10 => r1 t0 t10 h
theorem TS137_2 (c : CF) (r1 : A2) : (rk d137 P0 c 53 c137.snd.fst.snd.bd.bd.s2).1 (L2 r1 0 3) [(0,(L1 (S137_0 c) 0))] k137 gK = L2 (S137_2 c r1) 0 3 := by funext s h; kernel_rfl
noncomputable def S137_3 (c : CF) (r1 : A2) (t0 t3 : AV) (h : Heap) : Res := opt (fastIndex t0 t3) fun t13 => opt (fastBin .geq t13 (uL 97)) fun t15 => test t15 (opt (fastBin .leq t13 (uL 122)) fun t18 => test t18 (opt (notX tL) fun t44 => test t44 (none) (S137_2 c r1 t0 t3 h)) (opt (fastBin .geq t13 (uL 65)) fun t22 => test t22 (opt (fastBin .leq t13 (uL 90)) fun t25 => test t25 (opt (notX tL) fun t44_1 => test t44_1 (none) (S137_2 c r1 t0 t3 h)) (opt (fastBin .eql t13 (uL 95)) fun t30 => test t30 (opt (notX tL) fun t44_2 => test t44_2 (none) (S137_2 c r1 t0 t3 h)) (opt (fastBin .geq t13 (uL 48)) fun t34 => test t34 (opt (fastBin .leq t13 (uL 57)) fun t37 => test t37 (opt (fastBin .gtr t3 (iL 0)) fun t41 => opt (notX t41) fun t44_3 => test t44_3 (none) (S137_2 c r1 t0 t3 h)) (opt (notX fL) fun t44_4 => test t44_4 (none) (S137_2 c r1 t0 t3 h))) (opt (notX fL) fun t44_5 => test t44_5 (none) (S137_2 c r1 t0 t3 h))))) (opt (fastBin .eql t13 (uL 95)) fun t30_1 => test t30_1 (opt (notX tL) fun t44_6 => test t44_6 (none) (S137_2 c r1 t0 t3 h)) (opt (fastBin .geq t13 (uL 48)) fun t34_1 => test t34_1 (opt (fastBin .leq t13 (uL 57)) fun t37_1 => test t37_1 (opt (fastBin .gtr t3 (iL 0)) fun t41_1 => opt (notX t41_1) fun t44_7 => test t44_7 (none) (S137_2 c r1 t0 t3 h)) (opt (notX fL) fun t44_8 => test t44_8 (none) (S137_2 c r1 t0 t3 h))) (opt (notX fL) fun t44_9 => test t44_9 (none) (S137_2 c r1 t0 t3 h)))))) (opt (fastBin .geq t13 (uL 65)) fun t22_1 => test t22_1 (opt (fastBin .leq t13 (uL 90)) fun t25_1 => test t25_1 (opt (notX tL) fun t44_10 => test t44_10 (none) (S137_2 c r1 t0 t3 h)) (opt (fastBin .eql t13 (uL 95)) fun t30_2 => test t30_2 (opt (notX tL) fun t44_11 => test t44_11 (none) (S137_2 c r1 t0 t3 h)) (opt (fastBin .geq t13 (uL 48)) fun t34_2 => test t34_2 (opt (fastBin .leq t13 (uL 57)) fun t37_2 => test t37_2 (opt (fastBin .gtr t3 (iL 0)) fun t41_2 => opt (notX t41_2) fun t44_12 => test t44_12 (none) (S137_2 c r1 t0 t3 h)) (opt (notX fL) fun t44_13 => test t44_13 (none) (S137_2 c r1 t0 t3 h))) (opt (notX fL) fun t44_14 => test t44_14 (none) (S137_2 c r1 t0 t3 h))))) (opt (fastBin .eql t13 (uL 95)) fun t30_3 => test t30_3 (opt (notX tL) fun t44_15 => test t44_15 (none) (S137_2 c r1 t0 t3 h)) (opt (fastBin .geq t13 (uL 48)) fun t34_3 => test t34_3 (opt (fastBin .leq t13 (uL 57)) fun t37_3 => test t37_3 (opt (fastBin .gtr t3 (iL 0)) fun t41_3 => opt (notX t41_3) fun t44_16 => test t44_16 (none) (S137_2 c r1 t0 t3 h)) (opt (notX fL) fun t44_17 => test t44_17 (none) (S137_2 c r1 t0 t3 h))) (opt (notX fL) fun t44_18 => test t44_18 (none) (S137_2 c r1 t0 t3 h)))))
theorem TS137_3 (c : CF) (r1 : A2) : (rk d137 P0 c 53 c137.snd.fst.snd.bd.bd.snd).1 (L2 r1 0 3) [(0,(L1 (S137_0 c) 0))] k137 gK = L2 (S137_3 c r1) 0 3 := Eq.trans (seq_t (by kernel_rfl) (TS137_2 c r1) rfl) (by funext s h; kernel_rfl)
noncomputable def S137_4b (c : CF) (r1 : A2) (t0 t3 : AV) (h : Heap) : Res := opt (lenStr t0) fun t7 => opt (fastBin .lss t3 t7) fun t8 => test t8 (S137_3 c r1 t0 t3 h) (S137_0 c t0 h)
theorem TS137_4b (c : CF) (r1 : A2) : (rk d137 P0 c 53 c137.snd.fst.snd.bd.bd).1 (L2 r1 0 3) [(0,(L1 (S137_0 c) 0))] k137 gK = L2 (S137_4b c r1) 0 3 := Eq.trans (seq_t (by kernel_rfl) (TS137_3 c r1) rfl) (by funext s h; kernel_rfl)
noncomputable def S137_1l (c : CF) : Nat → A2
  | 0 => fun _ _ _ => none
  | k + 1 => S137_4b c (S137_1l c k)
theorem TS137_1l (c : CF) : (rk d137 P0 c 53 c137.snd.fst.snd.bd).1 (L1 (S137_0 c) 0) [(0,(L1 (S137_0 c) 0))] k137 gK = L2 (S137_1l c rounds) 0 3 := loop_t (by kernel_rfl) (loop_ind (A := fun m => L2 (S137_1l c m) 0 3) rfl (fun m => TS137_4b c (S137_1l c m)) rounds)
noncomputable def S137_5 (c : CF) (t0 t3 : AV) (h : Heap) : Res := S137_1l c rounds t0 t3 h
theorem TS137_5 (c : CF) : (rk d137 P0 c 53 c137.snd.fst.snd).1 (L1 (S137_0 c) 0) [] k137 gK = L2 (S137_5 c) 0 3 := Eq.trans (block_t (id := 0) (by kernel_rfl) (TS137_1l c)) (by funext s h; kernel_rfl)
noncomputable def S137_6 (c : CF) (t0 : AV) (h : Heap) : Res := S137_5 c t0 (iL 0) h
theorem TS137_6 (c : CF) : (rk d137 P0 c 53 c137.snd).1 k137 [] k137 gK = L1 (S137_6 c) 0 := Eq.trans (seq_t (by kernel_rfl) (TS137_0 c) (seq_t (by kernel_rfl) (TS137_5 c) rfl)) (by funext s h; kernel_rfl)
noncomputable def F137 (c : CF) (a0 : AV) (h : Heap) : Res := S137_6 c a0 h
theorem TF137 (c : CF) (a0 : AV) (h : Heap) : (rk d137 P0 c 53 c137).1 k137 [] k137 gK (argsTr gl 0 [a0]) h = F137 c a0 h := Eq.trans (congrFun (congrFun (seq_t (by kernel_rfl) (TS137_6 c) rfl) _) _) (by kernel_rfl)
noncomputable def N137 : FnF := n1 F137
theorem N137_ok : FnOk P0 gl 137 N137 := n1_ok namesOk mixedOrders lowOk Tryz.func137 (by kernel_rfl) (by kernel_rfl) (by kernel_rfl) TF137
noncomputable def c138 : Code := codeOf Tryz.f138
noncomputable def k138 : Kt := finK P0 Tryz.f138.results.toList
def d138 : List Nat := []
noncomputable def F138 (c : CF) (a0 : AV) (h : Heap) : Res := opt2 (c 137 [a0] h) fun t4 h1 => test t4 (opt (fastIndex a0 (iL 0)) fun t7 => opt (fastBin .geq t7 (uL 65)) fun t8 => test t8 (opt (fastIndex a0 (iL 0)) fun t12 => opt (fastBin .leq t12 (uL 90)) fun t13 => some (t13,h1)) (some (fL,h1))) (some (fL,h1))
theorem TF138 (c : CF) (a0 : AV) (h : Heap) : (rk d138 P0 c 15 c138).1 k138 [] k138 gK (argsTr gl 0 [a0]) h = F138 c a0 h := by kernel_rfl
noncomputable def N138 : FnF := n1 F138
theorem N138_ok : FnOk P0 gl 138 N138 := n1_ok namesOk mixedOrders lowOk Tryz.func138 (by kernel_rfl) (by kernel_rfl) (by kernel_rfl) TF138
noncomputable def c139 : Code := codeOf Tryz.f139
noncomputable def k139 : Kt := finK P0 Tryz.f139.results.toList
def d139 : List Nat := [5]
noncomputable def S139_0 (c : CF) (h : Heap) : Res := some (tL,h)
theorem TS139_0 (c : CF) : (rk d139 P0 c 16 c139.s2).1 k139 [] k139 gK = L0 (S139_0 c) := by funext s h; kernel_rfl
noncomputable def S139_2b (c : CF) (r1 : A2) (t0 t3 : AV) (h : Heap) : Res := opt (lenS t0) fun t6 => opt (fastBin .lss t3 t6) fun t7 => test t7 (opt (indexAddrS 4 t0 t3 h) fun t12 => opt (loadX (some 4) t12 h) fun t13 => opt2 (c 78 [t13] h) fun t14 h1 => opt (notX t14) fun t15 => test t15 (none) (opt (fastBin .add t3 (iL 1)) fun t9 => r1 t0 t9 h1)) (S139_0 c h)
theorem TS139_2b (c : CF) (r1 : A2) : (rk d139 P0 c 16 c139.snd.fst.snd.bd.bd).1 (L2 r1 0 3) [(0,(L0 (S139_0 c)))] k139 gK = L2 (S139_2b c r1) 0 3 := by funext s h; kernel_rfl
noncomputable def S139_1l (c : CF) : Nat → A2
  | 0 => fun _ _ _ => none
  | k + 1 => S139_2b c (S139_1l c k)
theorem TS139_1l (c : CF) : (rk d139 P0 c 16 c139.snd.fst.snd.bd).1 (L0 (S139_0 c)) [(0,(L0 (S139_0 c)))] k139 gK = L2 (S139_1l c rounds) 0 3 := loop_t (by kernel_rfl) (loop_ind (A := fun m => L2 (S139_1l c m) 0 3) rfl (fun m => TS139_2b c (S139_1l c m)) rounds)
noncomputable def S139_3 (c : CF) (t0 t3 : AV) (h : Heap) : Res := S139_1l c rounds t0 t3 h
theorem TS139_3 (c : CF) : (rk d139 P0 c 16 c139.snd.fst.snd).1 (L0 (S139_0 c)) [] k139 gK = L2 (S139_3 c) 0 3 := Eq.trans (block_t (id := 0) (by kernel_rfl) (TS139_1l c)) (by funext s h; kernel_rfl)
noncomputable def S139_4 (c : CF) (t0 : AV) (h : Heap) : Res := S139_3 c t0 (iL 0) h
theorem TS139_4 (c : CF) : (rk d139 P0 c 16 c139.snd).1 k139 [] k139 gK = L1 (S139_4 c) 0 := Eq.trans (seq_t (by kernel_rfl) (TS139_0 c) (seq_t (by kernel_rfl) (TS139_3 c) rfl)) (by funext s h; kernel_rfl)
noncomputable def F139 (c : CF) (a0 : AV) (h : Heap) : Res := S139_4 c a0 h
theorem TF139 (c : CF) (a0 : AV) (h : Heap) : (rk d139 P0 c 16 c139).1 k139 [] k139 gK (argsTr gl 0 [a0]) h = F139 c a0 h := Eq.trans (congrFun (congrFun (seq_t (by kernel_rfl) (TS139_4 c) rfl) _) _) (by kernel_rfl)
noncomputable def N139 : FnF := n1 F139
theorem N139_ok : FnOk P0 gl 139 N139 := n1_ok namesOk mixedOrders lowOk Tryz.func139 (by kernel_rfl) (by kernel_rfl) (by kernel_rfl) TF139
noncomputable def c140 : Code := codeOf Tryz.f140
noncomputable def k140 : Kt := finK P0 Tryz.f140.results.toList
def d140 : List Nat := [2]
noncomputable def F140 (c : CF) (a0 a1 : AV) (h : Heap) : Res := opt2 (box a1 h) fun t3 h1 => opt (fieldAddrX 2 t3) fun t5 => opt (loadX none t5 h1) fun t6 => opt2 (c 137 [t6] h1) fun t7 h2 => opt (notX t7) fun t8 => test t8 (none) (opt (fieldAddrX 2 t3) fun t13 => opt (loadX none t13 h2) fun t14 => some (t14,h2))
theorem TF140 (c : CF) (a0 a1 : AV) (h : Heap) : (rk d140 P0 c 15 c140).1 k140 [] k140 gK (argsTr gl 0 [a0,a1]) h = F140 c a0 a1 h := by kernel_rfl
noncomputable def N140 : FnF := n2 F140
theorem N140_ok : FnOk P0 gl 140 N140 := n2_ok namesOk mixedOrders lowOk Tryz.func140 (by kernel_rfl) (by kernel_rfl) (by kernel_rfl) TF140
noncomputable def c141 : Code := codeOf Tryz.f141
noncomputable def k141 : Kt := finK P0 Tryz.f141.results.toList
def d141 : List Nat := [2,9,12,18,21]
noncomputable def S141_0 (c : CF) (t1 t8 : AV) (h : Heap) : Res := opt (nilCheckX t1) fun t166 => opt (fieldAddrX 3 t166) fun t167 => opt (loadX none t167 h) fun t168 => eqH h h (opt (loadX (some 2) t8 h) fun t169 => eqH h h (opt2 (bsliceX 2 (.agg [eL,nL]) 1 [(0,t169)] h) fun t170 h1 => opt (loadX none t167 h1) fun t168_1 => eqK t168_1 t168 (eqH h1 h1 (opt2 (appendX 2 40 t168 t170 h1) fun t171 h2 => opt (nilCheckX t1) fun t172 => opt (fieldAddrX 3 t172) fun t173 => optH (storeX 1 t173 t171 h2) fun h3 => some ((.lit (.tuple #[])),h3)))))
theorem TS141_0 (c : CF) : (rk d141 P0 c 174 c141.s8).1 k141 [] k141 gK = L2 (S141_0 c) 1 8 := by funext s h; kernel_rfl
noncomputable def S141_2 (c : CF) (r1 : A5) (t0 t1 t5 t8 t9 : AV) (h : Heap) : Res := opt (fastBin .add t9 (iL 1)) fun t88 => r1 t0 t1 t5 t8 t88 h
theorem TS141_2 (c : CF) (r1 : A5) : (rk d141 P0 c 174 c141.s7.fst.snd.bd.bd.s2).1 (L5 r1 0 1 5 8 9) [(2,(L2 (S141_0 c) 1 8))] k141 gK = L5 (S141_2 c r1) 0 1 5 8 9 := by funext s h; kernel_rfl
noncomputable def S141_3 (c : CF) (r1 : A5) (t0 t1 t5 t8 t9 t11 : AV) (h : Heap) : Res := opt (fieldAddrX 1 t8) fun t158 => opt (loadX none t158 h) fun t159 => opt (loadX (some 2) t11 h) fun t160 => opt2 (bsliceX 2 (.agg [eL,nL]) 1 [(0,t160)] h) fun t161 h1 => opt2 (appendX 2 40 t159 t161 h1) fun t162 h2 => opt (fieldAddrX 1 t8) fun t163 => optH (storeX 1 t163 t162 h2) fun h3 => S141_2 c r1 t0 t1 t5 t8 t9 h3
theorem TS141_3 (c : CF) (r1 : A5) : (rk d141 P0 c 174 c141.s7.fst.snd.bd.bd.snd.fst.bd.s5).1 (L5 (S141_2 c r1) 0 1 5 8 9) [(3,(L5 (S141_2 c r1) 0 1 5 8 9)),(2,(L2 (S141_0 c) 1 8))] k141 gK = L6 (S141_3 c r1) 0 1 5 8 9 11 := by funext s h; kernel_rfl
noncomputable def S141_5 (c : CF) (r1 : A5) (r4 : A8) (t0 t1 t5 t8 t9 t10 t11 t12 : AV) (h : Heap) : Res := opt (fieldAddrX 1 t11) fun t146 => opt (loadX none t146 h) fun t147 => eqH h h (opt (fieldAddrX 3 t10) fun t149 => opt (loadX none t149 h) fun t150 => eqH h h (opt (indexAddrS 4 t150 t12 h) fun t152 => eqH h h (opt (loadX (some 4) t152 h) fun t153 => eqH h h (opt2 (c 143 [t0,t153] h) fun t154 h1 => opt (loadX none t146 h1) fun t147_1 => eqK t147_1 t147 (eqH h1 h1 (opt2 (bsliceX 1 eL 1 [(0,t154)] h1) fun t155 h2 => eqH h2 h1 (opt2 (appendX 1 16 t147 t155 h1) fun t156 h3 => opt (fieldAddrX 1 t11) fun t157 => optH (storeX 1 t157 t156 h3) fun h4 => opt (fastBin .add t12 (iL 1)) fun t145 => r4 t0 t1 t5 t8 t9 t10 t11 t145 h4)))))))
theorem TS141_5 (c : CF) (r1 : A5) (r4 : A8) : (rk d141 P0 c 174 c141.s7.fst.snd.bd.bd.snd.fst.bd.s4.fst.snd.bd.bd.snd).1 (L8 r4 0 1 5 8 9 10 11 12) [(4,(L6 (S141_3 c r1) 0 1 5 8 9 11)),(3,(L5 (S141_2 c r1) 0 1 5 8 9)),(2,(L2 (S141_0 c) 1 8))] k141 gK = L8 (S141_5 c r1 r4) 0 1 5 8 9 10 11 12 := by funext s h; kernel_rfl
noncomputable def S141_6b (c : CF) (r1 : A5) (r4 : A8) (t0 t1 t5 t8 t9 t10 t11 t12 : AV) (h : Heap) : Res := opt (fieldAddrX 3 t10) fun t133 => opt (loadX none t133 h) fun t134 => opt (lenS t134) fun t135 => opt (fastBin .lss t12 t135) fun t136 => test t136 (opt (nilCheckX t0) fun t139 => opt (fieldAddrX 1 t139) fun t140 => opt (loadX none t140 h) fun t141 => opt (fastBin .eql t141 (iL 0)) fun t142 => test t142 (S141_5 c r1 r4 t0 t1 t5 t8 t9 t10 t11 t12 h) (S141_3 c r1 t0 t1 t5 t8 t9 t11 h)) (S141_3 c r1 t0 t1 t5 t8 t9 t11 h)
theorem TS141_6b (c : CF) (r1 : A5) (r4 : A8) : (rk d141 P0 c 174 c141.s7.fst.snd.bd.bd.snd.fst.bd.s4.fst.snd.bd.bd).1 (L8 r4 0 1 5 8 9 10 11 12) [(4,(L6 (S141_3 c r1) 0 1 5 8 9 11)),(3,(L5 (S141_2 c r1) 0 1 5 8 9)),(2,(L2 (S141_0 c) 1 8))] k141 gK = L8 (S141_6b c r1 r4) 0 1 5 8 9 10 11 12 := Eq.trans (seq_t (by kernel_rfl) (TS141_5 c r1 r4) rfl) (by funext s h; kernel_rfl)
noncomputable def S141_4l (c : CF) (r1 : A5) : Nat → A8
  | 0 => fun _ _ _ _ _ _ _ _ _ => none
  | k + 1 => S141_6b c r1 (S141_4l c r1 k)
theorem TS141_4l (c : CF) (r1 : A5) : (rk d141 P0 c 174 c141.s7.fst.snd.bd.bd.snd.fst.bd.s4.fst.snd.bd).1 (L6 (S141_3 c r1) 0 1 5 8 9 11) [(4,(L6 (S141_3 c r1) 0 1 5 8 9 11)),(3,(L5 (S141_2 c r1) 0 1 5 8 9)),(2,(L2 (S141_0 c) 1 8))] k141 gK = L8 (S141_4l c r1 rounds) 0 1 5 8 9 10 11 12 := loop_t (by kernel_rfl) (loop_ind (A := fun m => L8 (S141_4l c r1 m) 0 1 5 8 9 10 11 12) rfl (fun m => TS141_6b c r1 (S141_4l c r1 m)) rounds)
noncomputable def S141_7 (c : CF) (r1 : A5) (t0 t1 t5 t8 t9 t10 t11 t12 : AV) (h : Heap) : Res := S141_4l c r1 rounds t0 t1 t5 t8 t9 t10 t11 t12 h
theorem TS141_7 (c : CF) (r1 : A5) : (rk d141 P0 c 174 c141.s7.fst.snd.bd.bd.snd.fst.bd.s4.fst.snd).1 (L6 (S141_3 c r1) 0 1 5 8 9 11) [(3,(L5 (S141_2 c r1) 0 1 5 8 9)),(2,(L2 (S141_0 c) 1 8))] k141 gK = L8 (S141_7 c r1) 0 1 5 8 9 10 11 12 := Eq.trans (block_t (id := 4) (by kernel_rfl) (TS141_4l c r1)) (by funext s h; kernel_rfl)
noncomputable def S141_8 (c : CF) (r1 : A5) (t0 t1 t5 t8 t9 t10 t11 : AV) (h : Heap) : Res := S141_7 c r1 t0 t1 t5 t8 t9 t10 t11 (iL 1) h
theorem TS141_8 (c : CF) (r1 : A5) : (rk d141 P0 c 174 c141.s7.fst.snd.bd.bd.snd.fst.bd.s4).1 (L5 (S141_2 c r1) 0 1 5 8 9) [(3,(L5 (S141_2 c r1) 0 1 5 8 9)),(2,(L2 (S141_0 c) 1 8))] k141 gK = L7 (S141_8 c r1) 0 1 5 8 9 10 11 := Eq.trans (seq_t (by kernel_rfl) (TS141_3 c r1) (seq_t (by kernel_rfl) (TS141_7 c r1) rfl)) (by funext s h; kernel_rfl)
noncomputable def S141_9 (c : CF) (r1 : A5) (t0 t1 t5 t8 t9 t10 t11 : AV) (h : Heap) : Res := opt (fieldAddrX 0 t11) fun t121 => opt (loadX none t121 h) fun t122 => opt2 (c 138 [t122] h) fun t123 h1 => opt (notX t123) fun t124 => test t124 (none) (S141_8 c r1 t0 t1 t5 t8 t9 t10 t11 h1)
theorem TS141_9 (c : CF) (r1 : A5) : (rk d141 P0 c 174 c141.s7.fst.snd.bd.bd.snd.fst.bd.s3).1 (L5 (S141_2 c r1) 0 1 5 8 9) [(3,(L5 (S141_2 c r1) 0 1 5 8 9)),(2,(L2 (S141_0 c) 1 8))] k141 gK = L7 (S141_9 c r1) 0 1 5 8 9 10 11 := Eq.trans (seq_t (by kernel_rfl) (TS141_8 c r1) rfl) (by funext s h; kernel_rfl)
noncomputable def S141_10 (c : CF) (r1 : A5) (t0 t1 t5 t8 t9 t10 : AV) (h : Heap) : Res := opt (fieldAddrX 3 t10) fun t115 => opt (loadX none t115 h) fun t116 => opt (indexAddrS 4 t116 (iL 0) h) fun t117 => opt (fieldAddrX 2 t117) fun t118 => opt (loadX none t118 h) fun t119 => opt (buildX [eL,nL] [(0,1),(1,1)] [(0,t119)]) fun t120 => opt2 (box (.agg [eL,nL]) h) fun t11 h1 => optH (storeX 2 t11 t120 h1) fun h2 => S141_9 c r1 t0 t1 t5 t8 t9 t10 t11 h2
theorem TS141_10 (c : CF) (r1 : A5) : (rk d141 P0 c 174 c141.s7.fst.snd.bd.bd.snd.fst.bd.s2).1 (L5 (S141_2 c r1) 0 1 5 8 9) [(3,(L5 (S141_2 c r1) 0 1 5 8 9)),(2,(L2 (S141_0 c) 1 8))] k141 gK = L6 (S141_10 c r1) 0 1 5 8 9 10 := Eq.trans (seq_t (by kernel_rfl) (TS141_9 c r1) rfl) (by funext s h; kernel_rfl)
noncomputable def S141_11 (c : CF) (r1 : A5) (t0 t1 t5 t8 t9 t10 : AV) (h : Heap) : Res := opt (loadX (some 4) t10 h) fun t94 => opt2 (c 77 [t94] h) fun t95 h1 => opt (notX t95) fun t96 => test t96 (none) (opt (fieldAddrX 3 t10) fun t98 => opt (loadX none t98 h1) fun t99 => opt (lenS t99) fun t100 => opt (fastBin .eql t100 (iL 0)) fun t101 => test t101 (none) (opt (fieldAddrX 3 t10) fun t104 => opt (loadX none t104 h1) fun t105 => opt (indexAddrS 4 t105 (iL 0) h1) fun t106 => opt (loadX (some 4) t106 h1) fun t107 => opt2 (c 78 [t107] h1) fun t108 h2 => opt (notX t108) fun t109 => test t109 (none) (S141_10 c r1 t0 t1 t5 t8 t9 t10 h2)))
theorem TS141_11 (c : CF) (r1 : A5) : (rk d141 P0 c 174 c141.s7.fst.snd.bd.bd.snd.fst.bd.snd).1 (L5 (S141_2 c r1) 0 1 5 8 9) [(3,(L5 (S141_2 c r1) 0 1 5 8 9)),(2,(L2 (S141_0 c) 1 8))] k141 gK = L6 (S141_11 c r1) 0 1 5 8 9 10 := Eq.trans (seq_t (by kernel_rfl) (TS141_10 c r1) rfl) (by funext s h; kernel_rfl)
noncomputable def S141_12 (c : CF) (r1 : A5) (t0 t1 t5 t8 t9 : AV) (h : Heap) : Res := opt (fieldAddrX 3 t5) fun t89 => opt (loadX none t89 h) fun t90 => opt (indexAddrS 4 t90 t9 h) fun t92 => opt (loadX (some 4) t92 h) fun t93 => opt2 (box (.agg [(iL 0),(iL 0),eL,nL]) h) fun t10 h1 => optH (storeX 4 t10 t93 h1) fun h2 => S141_11 c r1 t0 t1 t5 t8 t9 t10 h2
theorem TS141_12 (c : CF) (r1 : A5) : (rk d141 P0 c 174 c141.s7.fst.snd.bd.bd.snd).1 (L5 r1 0 1 5 8 9) [(2,(L2 (S141_0 c) 1 8))] k141 gK = L5 (S141_12 c r1) 0 1 5 8 9 := Eq.trans (seq_t (by kernel_rfl) (TS141_2 c r1) (block_t (id := 3) (by kernel_rfl) (seq_t (by kernel_rfl) (TS141_11 c r1) rfl))) (by funext s h; kernel_rfl)
noncomputable def S141_13b (c : CF) (r1 : A5) (t0 t1 t5 t8 t9 : AV) (h : Heap) : Res := opt (fieldAddrX 3 t5) fun t76 => opt (loadX none t76 h) fun t77 => opt (lenS t77) fun t78 => opt (fastBin .lss t9 t78) fun t79 => test t79 (opt (nilCheckX t0) fun t82 => opt (fieldAddrX 1 t82) fun t83 => opt (loadX none t83 h) fun t84 => opt (fastBin .eql t84 (iL 0)) fun t85 => test t85 (S141_12 c r1 t0 t1 t5 t8 t9 h) (S141_0 c t1 t8 h)) (S141_0 c t1 t8 h)
theorem TS141_13b (c : CF) (r1 : A5) : (rk d141 P0 c 174 c141.s7.fst.snd.bd.bd).1 (L5 r1 0 1 5 8 9) [(2,(L2 (S141_0 c) 1 8))] k141 gK = L5 (S141_13b c r1) 0 1 5 8 9 := Eq.trans (seq_t (by kernel_rfl) (TS141_12 c r1) rfl) (by funext s h; kernel_rfl)
noncomputable def S141_1l (c : CF) : Nat → A5
  | 0 => fun _ _ _ _ _ _ => none
  | k + 1 => S141_13b c (S141_1l c k)
theorem TS141_1l (c : CF) : (rk d141 P0 c 174 c141.s7.fst.snd.bd).1 (L2 (S141_0 c) 1 8) [(2,(L2 (S141_0 c) 1 8))] k141 gK = L5 (S141_1l c rounds) 0 1 5 8 9 := loop_t (by kernel_rfl) (loop_ind (A := fun m => L5 (S141_1l c m) 0 1 5 8 9) rfl (fun m => TS141_13b c (S141_1l c m)) rounds)
noncomputable def S141_14 (c : CF) (t0 t1 t5 t8 t9 : AV) (h : Heap) : Res := S141_1l c rounds t0 t1 t5 t8 t9 h
theorem TS141_14 (c : CF) : (rk d141 P0 c 174 c141.s7.fst.snd).1 (L2 (S141_0 c) 1 8) [] k141 gK = L5 (S141_14 c) 0 1 5 8 9 := Eq.trans (block_t (id := 2) (by kernel_rfl) (TS141_1l c)) (by funext s h; kernel_rfl)
noncomputable def S141_15 (c : CF) (t0 t1 t5 t8 : AV) (h : Heap) : Res := S141_14 c t0 t1 t5 t8 (iL 2) h
theorem TS141_15 (c : CF) : (rk d141 P0 c 174 c141.s7).1 k141 [] k141 gK = L4 (S141_15 c) 0 1 5 8 := Eq.trans (seq_t (by kernel_rfl) (TS141_0 c) (seq_t (by kernel_rfl) (TS141_14 c) rfl)) (by funext s h; kernel_rfl)
noncomputable def S141_16 (c : CF) (t0 t1 t5 t8 : AV) (h : Heap) : Res := opt (fieldAddrX 0 t8) fun t64 => opt (loadX none t64 h) fun t65 => opt2 (c 138 [t65] h) fun t66 h1 => opt (notX t66) fun t67 => test t67 (none) (S141_15 c t0 t1 t5 t8 h1)
theorem TS141_16 (c : CF) : (rk d141 P0 c 174 c141.s6).1 k141 [] k141 gK = L4 (S141_16 c) 0 1 5 8 := Eq.trans (seq_t (by kernel_rfl) (TS141_15 c) rfl) (by funext s h; kernel_rfl)
noncomputable def S141_17 (c : CF) (t0 t1 t5 : AV) (h : Heap) : Res := opt (fieldAddrX 3 t5) fun t58 => opt (loadX none t58 h) fun t59 => opt (indexAddrS 4 t59 (iL 1) h) fun t60 => opt (fieldAddrX 2 t60) fun t61 => opt (loadX none t61 h) fun t62 => opt (buildX [eL,nL] [(0,1),(1,1)] [(0,t62)]) fun t63 => opt2 (box (.agg [eL,nL]) h) fun t8 h1 => optH (storeX 2 t8 t63 h1) fun h2 => S141_16 c t0 t1 t5 t8 h2
theorem TS141_17 (c : CF) : (rk d141 P0 c 174 c141.s5).1 k141 [] k141 gK = L3 (S141_17 c) 0 1 5 := Eq.trans (seq_t (by kernel_rfl) (TS141_16 c) rfl) (by funext s h; kernel_rfl)
noncomputable def S141_18 (c : CF) (t0 t1 t5 t6 : AV) (h : Heap) : Res := test t6 (none) (S141_17 c t0 t1 t5 h)
theorem TS141_18 (c : CF) : (rk d141 P0 c 174 c141.s4).1 k141 [] k141 gK = L4 (S141_18 c) 0 1 5 6 := Eq.trans (seq_t (by kernel_rfl) (TS141_17 c) rfl) (by funext s h; kernel_rfl)
noncomputable def S141_20 (c : CF) (r19 : A5) (t0 t1 t5 t6 t7 : AV) (h : Heap) : Res := opt (fastBin .add t7 (iL 1)) fun t40 => r19 t0 t1 t5 t6 t40 h
theorem TS141_20 (c : CF) (r19 : A5) : (rk d141 P0 c 174 c141.s3.fst.snd.bd.bd.s2).1 (L5 r19 0 1 5 6 7) [(0,(L4 (S141_18 c) 0 1 5 6))] k141 gK = L5 (S141_20 c r19) 0 1 5 6 7 := by funext s h; kernel_rfl
noncomputable def S141_21 (c : CF) (r19 : A5) (t0 t1 t5 t6 t7 : AV) (h : Heap) : Res := test t6 (S141_20 c r19 t0 t1 t5 tL t7 h) (opt (fieldAddrX 3 t5) fun t43 => opt (loadX none t43 h) fun t44 => opt (indexAddrS 4 t44 t7 h) fun t46 => opt (fieldAddrX 3 t46) fun t47 => opt (loadX none t47 h) fun t48 => opt (lenS t48) fun t49 => opt (fastBin .sub t49 (iL 1)) fun t50 => opt (fastBin .gtr t50 (iL 4)) fun t51 => S141_20 c r19 t0 t1 t5 t51 t7 h)
theorem TS141_21 (c : CF) (r19 : A5) : (rk d141 P0 c 174 c141.s3.fst.snd.bd.bd.snd).1 (L5 r19 0 1 5 6 7) [(0,(L4 (S141_18 c) 0 1 5 6))] k141 gK = L5 (S141_21 c r19) 0 1 5 6 7 := Eq.trans (seq_t (by kernel_rfl) (TS141_20 c r19) rfl) (by funext s h; kernel_rfl)
noncomputable def S141_22b (c : CF) (r19 : A5) (t0 t1 t5 t6 t7 : AV) (h : Heap) : Res := opt (fieldAddrX 3 t5) fun t35 => opt (loadX none t35 h) fun t36 => opt (lenS t36) fun t37 => opt (fastBin .lss t7 t37) fun t38 => test t38 (S141_21 c r19 t0 t1 t5 t6 t7 h) (S141_18 c t0 t1 t5 t6 h)
theorem TS141_22b (c : CF) (r19 : A5) : (rk d141 P0 c 174 c141.s3.fst.snd.bd.bd).1 (L5 r19 0 1 5 6 7) [(0,(L4 (S141_18 c) 0 1 5 6))] k141 gK = L5 (S141_22b c r19) 0 1 5 6 7 := Eq.trans (seq_t (by kernel_rfl) (TS141_21 c r19) rfl) (by funext s h; kernel_rfl)
noncomputable def S141_19l (c : CF) : Nat → A5
  | 0 => fun _ _ _ _ _ _ => none
  | k + 1 => S141_22b c (S141_19l c k)
theorem TS141_19l (c : CF) : (rk d141 P0 c 174 c141.s3.fst.snd.bd).1 (L4 (S141_18 c) 0 1 5 6) [(0,(L4 (S141_18 c) 0 1 5 6))] k141 gK = L5 (S141_19l c rounds) 0 1 5 6 7 := loop_t (by kernel_rfl) (loop_ind (A := fun m => L5 (S141_19l c m) 0 1 5 6 7) rfl (fun m => TS141_22b c (S141_19l c m)) rounds)
noncomputable def S141_23 (c : CF) (t0 t1 t5 t6 t7 : AV) (h : Heap) : Res := S141_19l c rounds t0 t1 t5 t6 t7 h
theorem TS141_23 (c : CF) : (rk d141 P0 c 174 c141.s3.fst.snd).1 (L4 (S141_18 c) 0 1 5 6) [] k141 gK = L5 (S141_23 c) 0 1 5 6 7 := Eq.trans (block_t (id := 0) (by kernel_rfl) (TS141_19l c)) (by funext s h; kernel_rfl)
noncomputable def S141_24 (c : CF) (t0 t1 t5 t6 : AV) (h : Heap) : Res := S141_23 c t0 t1 t5 t6 (iL 2) h
theorem TS141_24 (c : CF) : (rk d141 P0 c 174 c141.s3).1 k141 [] k141 gK = L4 (S141_24 c) 0 1 5 6 := Eq.trans (seq_t (by kernel_rfl) (TS141_18 c) (seq_t (by kernel_rfl) (TS141_23 c) rfl)) (by funext s h; kernel_rfl)
noncomputable def S141_25 (c : CF) (t0 t1 t5 : AV) (h : Heap) : Res := opt (fieldAddrX 3 t5) fun t29 => opt (loadX none t29 h) fun t30 => opt (lenS t30) fun t31 => opt (fastBin .sub t31 (iL 2)) fun t32 => opt (fastBin .gtr t32 (iL 6)) fun t33 => S141_24 c t0 t1 t5 t33 h
theorem TS141_25 (c : CF) : (rk d141 P0 c 174 c141.s2).1 k141 [] k141 gK = L3 (S141_25 c) 0 1 5 := Eq.trans (seq_t (by kernel_rfl) (TS141_24 c) rfl) (by funext s h; kernel_rfl)
noncomputable def S141_26 (c : CF) (t0 t1 t5 : AV) (h : Heap) : Res := opt (fieldAddrX 3 t5) fun t13 => opt (loadX none t13 h) fun t14 => opt (lenS t14) fun t15 => opt (fastBin .lss t15 (iL 3)) fun t16 => test t16 (none) (opt (fieldAddrX 3 t5) fun t18 => opt (loadX none t18 h) fun t19 => opt (indexAddrS 4 t19 (iL 1) h) fun t20 => opt (loadX (some 4) t20 h) fun t21 => opt2 (c 78 [t21] h) fun t22 h1 => opt (notX t22) fun t23 => test t23 (none) (S141_25 c t0 t1 t5 h1))
theorem TS141_26 (c : CF) : (rk d141 P0 c 174 c141.snd).1 k141 [] k141 gK = L3 (S141_26 c) 0 1 5 := Eq.trans (seq_t (by kernel_rfl) (TS141_25 c) rfl) (by funext s h; kernel_rfl)
noncomputable def F141 (c : CF) (a0 a1 a2 : AV) (h : Heap) : Res := opt2 (box a2 h) fun t5 h1 => S141_26 c a0 a1 t5 h1
theorem TF141 (c : CF) (a0 a1 a2 : AV) (h : Heap) : (rk d141 P0 c 174 c141).1 k141 [] k141 gK (argsTr gl 0 [a0,a1,a2]) h = F141 c a0 a1 a2 h := Eq.trans (congrFun (congrFun (seq_t (by kernel_rfl) (TS141_26 c) rfl) _) _) (by kernel_rfl)
noncomputable def N141 : FnF := n3 F141
theorem N141_ok : FnOk P0 gl 141 N141 := n3_ok namesOk mixedOrders lowOk Tryz.func141 (by kernel_rfl) (by kernel_rfl) (by kernel_rfl) TF141
noncomputable def c142 : Code := codeOf Tryz.f142
noncomputable def k142 : Kt := finK P0 Tryz.f142.results.toList
def d142 : List Nat := [2]
noncomputable def S142_0 (c : CF) (t3 : AV) (h : Heap) : Res := opt (fieldAddrX 2 t3) fun t18 => opt (loadX none t18 h) fun t19 => some (t19,h)
theorem TS142_0 (c : CF) : (rk d142 P0 c 20 c142.s2).1 k142 [] k142 gK = L1 (S142_0 c) 3 := by funext s h; kernel_rfl
noncomputable def S142_1 (c : CF) (t3 : AV) (h : Heap) : Res := opt (fieldAddrX 2 t3) fun t5 => opt (loadX none t5 h) fun t6 => opt2 (c 79 [t6] h) fun t7 h1 => opt (notX t7) fun t8 => test t8 (none) (opt (fieldAddrX 2 t3) fun t10 => opt (loadX none t10 h1) fun t11 => opt2 (c 210 [t11] h1) fun t12 h2 => test t12 (none) (S142_0 c t3 h2))
theorem TS142_1 (c : CF) : (rk d142 P0 c 20 c142.snd).1 k142 [] k142 gK = L1 (S142_1 c) 3 := Eq.trans (seq_t (by kernel_rfl) (TS142_0 c) rfl) (by funext s h; kernel_rfl)
noncomputable def F142 (c : CF) (a0 a1 : AV) (h : Heap) : Res := opt2 (box a1 h) fun t3 h1 => S142_1 c t3 h1
theorem TF142 (c : CF) (a0 a1 : AV) (h : Heap) : (rk d142 P0 c 20 c142).1 k142 [] k142 gK (argsTr gl 0 [a0,a1]) h = F142 c a0 a1 h := Eq.trans (congrFun (congrFun (seq_t (by kernel_rfl) (TS142_1 c) rfl) _) _) (by kernel_rfl)
noncomputable def N142 : FnF := n2 F142
theorem N142_ok : FnOk P0 gl 142 N142 := n2_ok namesOk mixedOrders lowOk Tryz.func142 (by kernel_rfl) (by kernel_rfl) (by kernel_rfl) TF142
noncomputable def c143 : Code := codeOf Tryz.f143
noncomputable def k143 : Kt := finK P0 Tryz.f143.results.toList
def d143 : List Nat := [2,5]
noncomputable def F143 (c : CF) (a0 a1 : AV) (h : Heap) : Res := opt2 (box a1 h) fun t3 h1 => opt (nilCheckX a0) fun t9 => opt (fieldAddrX 1 t9) fun t10 => opt (loadX none t10 h1) fun t11 => opt (fastBin .neq t11 (iL 0)) fun t12 => test t12 (none) (opt (loadX (some 4) t3 h1) fun t14 => eqH h1 h1 (opt (nilCheckX a0) fun t16 => opt (fieldAddrX 0 t16) fun t17 => opt (loadX none t17 h1) fun t18 => eqH h1 h1 (opt2 (c 211 [t14,t18] h1) fun t19 h2 => eqH h2 h1 (opt (extractX t19 0) fun t20 => opt (extractX t19 1) fun t21 => opt (extractX t19 2) fun t22 => opt (fastBin .neq t21 (iL 0)) fun t24 => test t24 (none) (some (t20,h1))))))
theorem TF143 (c : CF) (a0 a1 : AV) (h : Heap) : (rk d143 P0 c 30 c143).1 k143 [] k143 gK (argsTr gl 0 [a0,a1]) h = F143 c a0 a1 h := by kernel_rfl
noncomputable def N143 : FnF := n2 F143
theorem N143_ok : FnOk P0 gl 143 N143 := n2_ok namesOk mixedOrders lowOk Tryz.func143 (by kernel_rfl) (by kernel_rfl) (by kernel_rfl) TF143
noncomputable def c144 : Code := codeOf Tryz.f144
noncomputable def k144 : Kt := finK P0 Tryz.f144.results.toList
def d144 : List Nat := [8,17,18]
noncomputable def S144_0 (c : CF) (t0 t3 t4 t5 : AV) (h : Heap) : Res := opt (loadX (some 4) t3 h) fun t73 => opt (loadX (some 9) t5 h) fun t74 => opt2 (c 214 [t0,t73,t74] h) fun t75 h1 => optH (storeX 9 t4 t75 h1) fun h2 => opt (loadX (some 9) t4 h2) fun res => some (res,h2)
theorem TS144_0 (c : CF) : (rk d144 P0 c 76 c144.s5).1 k144 [] k144 gK = L4 (S144_0 c) 0 3 4 5 := by funext s h; kernel_rfl
noncomputable def S144_1 (c : CF) (t0 t3 t4 t5 : AV) (h : Heap) : Res := opt (loadX (some 4) t3 h) fun t50 => opt2 (c 77 [t50] h) fun t51 h1 => opt (notX t51) fun t52 => test t52 (none) (opt (fieldAddrX 3 t3) fun t54 => opt (loadX none t54 h1) fun t55 => opt (lenS t55) fun t56 => opt (fastBin .eql t56 (iL 0)) fun t57 => test t57 (none) (opt (fieldAddrX 3 t3) fun t60 => opt (loadX none t60 h1) fun t61 => opt (indexAddrS 4 t61 (iL 0) h1) fun t62 => opt (loadX (some 4) t62 h1) fun t63 => opt2 (c 78 [t63] h1) fun t64 h2 => opt (notX t64) fun t65 => test t65 (none) (S144_0 c t0 t3 t4 t5 h2)))
theorem TS144_1 (c : CF) : (rk d144 P0 c 76 c144.s4).1 k144 [] k144 gK = L4 (S144_1 c) 0 3 4 5 := Eq.trans (seq_t (by kernel_rfl) (TS144_0 c) rfl) (by funext s h; kernel_rfl)
noncomputable def S144_2 (c : CF) (t3 t4 t5 t36 : AV) (h : Heap) : Res := test t36 (opt (fieldAddrX 0 t5) fun t45 => optH (storeX 1 t45 (iL 3) h) fun h1 => opt (fieldAddrX 2 t3) fun t46 => opt (loadX none t46 h1) fun t47 => opt (fieldAddrX 2 t5) fun t48 => optH (storeX 1 t48 t47 h1) fun h2 => opt (loadX (some 9) t5 h2) fun t49 => optH (storeX 9 t4 t49 h2) fun h3 => opt (loadX (some 9) t4 h3) fun res => some (res,h3)) (none)
theorem TS144_2 (c : CF) : (rk d144 P0 c 76 c144.s3.fst.snd.thn.snd.fst.bd.snd.els.snd).1 ((rk d144 P0 c 76 c144.s3.fst.snd.thn.s2).1 (L4 (S144_1 c) 0 3 4 5) [] k144 gK) [(0,((rk d144 P0 c 76 c144.s3.fst.snd.thn.s2).1 (L4 (S144_1 c) 0 3 4 5) [] k144 gK))] k144 gK = L4 (S144_2 c) 3 4 5 36 := by funext s h; kernel_rfl
noncomputable def S144_3 (c : CF) (t3 t4 t5 : AV) (h : Heap) : Res := opt (fieldAddrX 2 t3) fun t37 => opt (loadX none t37 h) fun t38 => opt2 (c 79 [t38] h) fun t39 h1 => test t39 (S144_2 c t3 t4 t5 tL h1) (opt (fieldAddrX 2 t3) fun t41 => opt (loadX none t41 h1) fun t42 => opt2 (c 213 [t42,fL] h1) fun t43 h2 => S144_2 c t3 t4 t5 t43 h2)
theorem TS144_3 (c : CF) : (rk d144 P0 c 76 c144.s3.fst.snd.thn.snd.fst.bd.snd.els).1 ((rk d144 P0 c 76 c144.s3.fst.snd.thn.s2).1 (L4 (S144_1 c) 0 3 4 5) [] k144 gK) [(0,((rk d144 P0 c 76 c144.s3.fst.snd.thn.s2).1 (L4 (S144_1 c) 0 3 4 5) [] k144 gK))] k144 gK = L3 (S144_3 c) 3 4 5 := Eq.trans (seq_t (by kernel_rfl) (TS144_2 c) rfl) (by funext s h; kernel_rfl)
noncomputable def S144_4 (c : CF) (t3 t4 t5 t6 t31 : AV) (h : Heap) : Res := test t31 (opt (fieldAddrX 0 t5) fun t33 => optH (storeX 1 t33 (iL 1) h) fun h1 => opt (fieldAddrX 3 t5) fun t35 => optH (storeX 1 t35 t6 h1) fun h2 => opt (loadX (some 9) t5 h2) fun t49 => optH (storeX 9 t4 t49 h2) fun h3 => opt (loadX (some 9) t4 h3) fun res => some (res,h3)) (S144_3 c t3 t4 t5 h)
theorem TS144_4 (c : CF) : (rk d144 P0 c 76 c144.s3.fst.snd.thn.snd.fst.bd.snd).1 ((rk d144 P0 c 76 c144.s3.fst.snd.thn.s2).1 (L4 (S144_1 c) 0 3 4 5) [] k144 gK) [(0,((rk d144 P0 c 76 c144.s3.fst.snd.thn.s2).1 (L4 (S144_1 c) 0 3 4 5) [] k144 gK))] k144 gK = L5 (S144_4 c) 3 4 5 6 31 := Eq.trans (cond_t (by kernel_rfl) rfl (TS144_3 c)) (by funext s h; kernel_rfl)
noncomputable def S144_5 (c : CF) (t3 t4 t5 t6 t7 : AV) (h : Heap) : Res := S144_4 c t3 t4 t5 t6 t7 h
theorem TS144_5 (c : CF) : (rk d144 P0 c 76 c144.s3.fst.snd.thn.snd).1 (L4 (S144_1 c) 0 3 4 5) [] k144 gK = L5 (S144_5 c) 3 4 5 6 7 := Eq.trans (seq_t (by kernel_rfl) rfl (block_t (id := 0) (by kernel_rfl) (seq_t (by kernel_rfl) (TS144_4 c) rfl))) (by funext s h; kernel_rfl)
noncomputable def S144_6 (c : CF) (t3 t4 t5 : AV) (h : Heap) : Res := opt (fieldAddrX 2 t3) fun t22 => opt (loadX none t22 h) fun t23 => opt2 (c 212 [t23] h) fun t24 h1 => opt (extractX t24 0) fun t25 => opt (extractX t24 1) fun t26 => S144_5 c t3 t4 t5 t25 t26 h1
theorem TS144_6 (c : CF) : (rk d144 P0 c 76 c144.s3.fst.snd.thn).1 (L4 (S144_1 c) 0 3 4 5) [] k144 gK = L3 (S144_6 c) 3 4 5 := Eq.trans (seq_t (by kernel_rfl) (TS144_5 c) rfl) (by funext s h; kernel_rfl)
noncomputable def S144_7 (c : CF) (t0 t3 t4 t5 t20 : AV) (h : Heap) : Res := test t20 (S144_6 c t3 t4 t5 h) (S144_1 c t0 t3 t4 t5 h)
theorem TS144_7 (c : CF) : (rk d144 P0 c 76 c144.s3.fst.snd).1 (L4 (S144_1 c) 0 3 4 5) [] k144 gK = L5 (S144_7 c) 0 3 4 5 20 := Eq.trans (cond_t (by kernel_rfl) (TS144_6 c) rfl) (by funext s h; kernel_rfl)
noncomputable def S144_8 (c : CF) (t0 t3 t4 t5 : AV) (h : Heap) : Res := opt (loadX (some 4) t3 h) fun t19 => opt2 (c 78 [t19] h) fun t20 h1 => S144_7 c t0 t3 t4 t5 t20 h1
theorem TS144_8 (c : CF) : (rk d144 P0 c 76 c144.s3).1 k144 [] k144 gK = L4 (S144_8 c) 0 3 4 5 := Eq.trans (seq_t (by kernel_rfl) (TS144_1 c) (seq_t (by kernel_rfl) (TS144_7 c) rfl)) (by funext s h; kernel_rfl)
noncomputable def S144_9 (c : CF) (t0 t3 t4 t5 : AV) (h : Heap) : Res := opt (fieldAddrX 0 t3) fun t11 => opt (loadX none t11 h) fun t12 => opt (fastBin .eql t12 (iL 4)) fun t13 => test t13 (opt (fieldAddrX 0 t5) fun t14 => optH (storeX 1 t14 (iL 2) h) fun h1 => opt (fieldAddrX 2 t3) fun t15 => opt (loadX none t15 h1) fun t16 => opt (fieldAddrX 4 t5) fun t17 => optH (storeX 1 t17 t16 h1) fun h2 => opt (loadX (some 9) t5 h2) fun t18 => optH (storeX 9 t4 t18 h2) fun h3 => opt (loadX (some 9) t4 h3) fun res => some (res,h3)) (S144_8 c t0 t3 t4 t5 h)
theorem TS144_9 (c : CF) : (rk d144 P0 c 76 c144.s2).1 k144 [] k144 gK = L4 (S144_9 c) 0 3 4 5 := Eq.trans (seq_t (by kernel_rfl) (TS144_8 c) rfl) (by funext s h; kernel_rfl)
noncomputable def S144_10 (c : CF) (t0 t3 t4 : AV) (h : Heap) : Res := opt (fieldAddrX 1 t3) fun t8 => opt (loadX none t8 h) fun t9 => opt (buildX [(iL 0),(iL 0),eL,cL,eL,eL,nL,nL,nL] [(0,1),(1,1),(2,1),(3,1),(4,1),(5,1),(6,1),(7,1),(8,1)] [(1,t9)]) fun t10 => opt2 (box (.agg [(iL 0),(iL 0),eL,cL,eL,eL,nL,nL,nL]) h) fun t5 h1 => optH (storeX 9 t5 t10 h1) fun h2 => S144_9 c t0 t3 t4 t5 h2
theorem TS144_10 (c : CF) : (rk d144 P0 c 76 c144.snd).1 k144 [] k144 gK = L3 (S144_10 c) 0 3 4 := Eq.trans (seq_t (by kernel_rfl) (TS144_9 c) rfl) (by funext s h; kernel_rfl)
noncomputable def F144 (c : CF) (a0 a1 : AV) (h : Heap) : Res := opt2 (box a1 h) fun t3 h1 => opt2 (box (.agg [(iL 0),(iL 0),eL,cL,eL,eL,nL,nL,nL]) h1) fun t4 h2 => S144_10 c a0 t3 t4 h2
theorem TF144 (c : CF) (a0 a1 : AV) (h : Heap) : (rk d144 P0 c 76 c144).1 k144 [] k144 gK (argsTr gl 0 [a0,a1]) h = F144 c a0 a1 h := Eq.trans (congrFun (congrFun (seq_t (by kernel_rfl) (TS144_10 c) rfl) _) _) (by kernel_rfl)
noncomputable def N144 : FnF := n2 F144
theorem N144_ok : FnOk P0 gl 144 N144 := n2_ok namesOk mixedOrders lowOk Tryz.func144 (by kernel_rfl) (by kernel_rfl) (by kernel_rfl) TF144
noncomputable def c145 : Code := codeOf Tryz.f145
noncomputable def k145 : Kt := finK P0 Tryz.f145.results.toList
def d145 : List Nat := [7]
noncomputable def S145_0 (c : CF) (t5 : AV) (h : Heap) : Res := some (t5,h)
theorem TS145_0 (c : CF) : (rk d145 P0 c 67 c145.s3).1 k145 [] k145 gK = L1 (S145_0 c) 5 := by funext s h; kernel_rfl
noncomputable def S145_2 (c : CF) (r1 : A4) (t0 t3 t5 t6 : AV) (h : Heap) : Res := opt (fastBin .add t6 (iL 1)) fun t22 => r1 t0 t3 t5 t22 h
theorem TS145_2 (c : CF) (r1 : A4) : (rk d145 P0 c 67 c145.s2.fst.snd.bd.bd.s2).1 (L4 r1 0 3 5 6) [(0,(L1 (S145_0 c) 5))] k145 gK = L4 (S145_2 c r1) 0 3 5 6 := by funext s h; kernel_rfl
noncomputable def S145_3 (c : CF) (r1 : A4) (t0 t3 t5 t6 t7 : AV) (h : Heap) : Res := opt (fieldAddrX 3 t7) fun t50 => opt (loadX none t50 h) fun t51 => opt (indexAddrS 4 t51 (iL 0) h) fun t52 => opt (loadX (some 4) t52 h) fun t53 => opt2 (c 142 [t0,t53] h) fun t54 h1 => opt (fieldAddrX 3 t7) fun t58 => opt (loadX none t58 h1) fun t59 => opt (indexAddrS 4 t59 (iL 1) h1) fun t60 => opt (loadX (some 4) t60 h1) fun t61 => opt2 (c 143 [t0,t61] h1) fun t62 h2 => opt (buildX [eL,eL] [(0,1),(1,1)] [(0,t54),(1,t62)]) fun t63 => opt2 (bsliceX 2 (.agg [eL,eL]) 1 [(0,t63)] h2) fun t64 h3 => opt2 (appendX 2 32 t5 t64 h3) fun t65 h4 => S145_2 c r1 t0 t3 t65 t6 h4
theorem TS145_3 (c : CF) (r1 : A4) : (rk d145 P0 c 67 c145.s2.fst.snd.bd.bd.snd.fst.bd.s2).1 (L4 (S145_2 c r1) 0 3 5 6) [(1,(L4 (S145_2 c r1) 0 3 5 6)),(0,(L1 (S145_0 c) 5))] k145 gK = L5 (S145_3 c r1) 0 3 5 6 7 := by funext s h; kernel_rfl
noncomputable def S145_4 (c : CF) (r1 : A4) (t0 t3 t5 t6 t7 : AV) (h : Heap) : Res := opt (loadX (some 4) t7 h) fun t28 => opt2 (c 77 [t28] h) fun t29 h1 => opt (notX t29) fun t30 => test t30 (none) (opt (fieldAddrX 3 t7) fun t32 => opt (loadX none t32 h1) fun t33 => opt (lenS t33) fun t34 => opt (fastBin .neq t34 (iL 2)) fun t35 => test t35 (none) (opt (fieldAddrX 3 t7) fun t38 => opt (loadX none t38 h1) fun t39 => opt (indexAddrS 4 t39 (iL 0) h1) fun t40 => opt (loadX (some 4) t40 h1) fun t41 => opt2 (c 78 [t41] h1) fun t42 h2 => opt (notX t42) fun t43 => test t43 (none) (S145_3 c r1 t0 t3 t5 t6 t7 h2)))
theorem TS145_4 (c : CF) (r1 : A4) : (rk d145 P0 c 67 c145.s2.fst.snd.bd.bd.snd.fst.bd.snd).1 (L4 (S145_2 c r1) 0 3 5 6) [(1,(L4 (S145_2 c r1) 0 3 5 6)),(0,(L1 (S145_0 c) 5))] k145 gK = L5 (S145_4 c r1) 0 3 5 6 7 := Eq.trans (seq_t (by kernel_rfl) (TS145_3 c r1) rfl) (by funext s h; kernel_rfl)
noncomputable def S145_5 (c : CF) (r1 : A4) (t0 t3 t5 t6 : AV) (h : Heap) : Res := opt (fieldAddrX 3 t3) fun t23 => opt (loadX none t23 h) fun t24 => opt (indexAddrS 4 t24 t6 h) fun t26 => opt (loadX (some 4) t26 h) fun t27 => opt2 (box (.agg [(iL 0),(iL 0),eL,nL]) h) fun t7 h1 => optH (storeX 4 t7 t27 h1) fun h2 => S145_4 c r1 t0 t3 t5 t6 t7 h2
theorem TS145_5 (c : CF) (r1 : A4) : (rk d145 P0 c 67 c145.s2.fst.snd.bd.bd.snd).1 (L4 r1 0 3 5 6) [(0,(L1 (S145_0 c) 5))] k145 gK = L4 (S145_5 c r1) 0 3 5 6 := Eq.trans (seq_t (by kernel_rfl) (TS145_2 c r1) (block_t (id := 1) (by kernel_rfl) (seq_t (by kernel_rfl) (TS145_4 c r1) rfl))) (by funext s h; kernel_rfl)
noncomputable def S145_6b (c : CF) (r1 : A4) (t0 t3 t5 t6 : AV) (h : Heap) : Res := opt (fieldAddrX 3 t3) fun t10 => opt (loadX none t10 h) fun t11 => opt (lenS t11) fun t12 => opt (fastBin .lss t6 t12) fun t13 => test t13 (opt (nilCheckX t0) fun t16 => opt (fieldAddrX 1 t16) fun t17 => opt (loadX none t17 h) fun t18 => opt (fastBin .eql t18 (iL 0)) fun t19 => test t19 (S145_5 c r1 t0 t3 t5 t6 h) (S145_0 c t5 h)) (S145_0 c t5 h)
theorem TS145_6b (c : CF) (r1 : A4) : (rk d145 P0 c 67 c145.s2.fst.snd.bd.bd).1 (L4 r1 0 3 5 6) [(0,(L1 (S145_0 c) 5))] k145 gK = L4 (S145_6b c r1) 0 3 5 6 := Eq.trans (seq_t (by kernel_rfl) (TS145_5 c r1) rfl) (by funext s h; kernel_rfl)
noncomputable def S145_1l (c : CF) : Nat → A4
  | 0 => fun _ _ _ _ _ => none
  | k + 1 => S145_6b c (S145_1l c k)
theorem TS145_1l (c : CF) : (rk d145 P0 c 67 c145.s2.fst.snd.bd).1 (L1 (S145_0 c) 5) [(0,(L1 (S145_0 c) 5))] k145 gK = L4 (S145_1l c rounds) 0 3 5 6 := loop_t (by kernel_rfl) (loop_ind (A := fun m => L4 (S145_1l c m) 0 3 5 6) rfl (fun m => TS145_6b c (S145_1l c m)) rounds)
noncomputable def S145_7 (c : CF) (t0 t3 t5 t6 : AV) (h : Heap) : Res := S145_1l c rounds t0 t3 t5 t6 h
theorem TS145_7 (c : CF) : (rk d145 P0 c 67 c145.s2.fst.snd).1 (L1 (S145_0 c) 5) [] k145 gK = L4 (S145_7 c) 0 3 5 6 := Eq.trans (block_t (id := 0) (by kernel_rfl) (TS145_1l c)) (by funext s h; kernel_rfl)
noncomputable def S145_8 (c : CF) (t0 t3 t5 : AV) (h : Heap) : Res := S145_7 c t0 t3 t5 (iL 0) h
theorem TS145_8 (c : CF) : (rk d145 P0 c 67 c145.s2).1 k145 [] k145 gK = L3 (S145_8 c) 0 3 5 := Eq.trans (seq_t (by kernel_rfl) (TS145_0 c) (seq_t (by kernel_rfl) (TS145_7 c) rfl)) (by funext s h; kernel_rfl)
noncomputable def S145_9 (c : CF) (t0 t3 : AV) (h : Heap) : Res := S145_8 c t0 t3 nL h
theorem TS145_9 (c : CF) : (rk d145 P0 c 67 c145.snd).1 k145 [] k145 gK = L2 (S145_9 c) 0 3 := Eq.trans (seq_t (by kernel_rfl) (TS145_8 c) rfl) (by funext s h; kernel_rfl)
noncomputable def F145 (c : CF) (a0 a1 : AV) (h : Heap) : Res := opt2 (box a1 h) fun t3 h1 => S145_9 c a0 t3 h1
theorem TF145 (c : CF) (a0 a1 : AV) (h : Heap) : (rk d145 P0 c 67 c145).1 k145 [] k145 gK (argsTr gl 0 [a0,a1]) h = F145 c a0 a1 h := Eq.trans (congrFun (congrFun (seq_t (by kernel_rfl) (TS145_9 c) rfl) _) _) (by kernel_rfl)
noncomputable def N145 : FnF := n2 F145
theorem N145_ok : FnOk P0 gl 145 N145 := n2_ok namesOk mixedOrders lowOk Tryz.func145 (by kernel_rfl) (by kernel_rfl) (by kernel_rfl) TF145
noncomputable def c146 : Code := codeOf Tryz.f146
noncomputable def k146 : Kt := finK P0 Tryz.f146.results.toList
def d146 : List Nat := []
noncomputable def S146_1 (c : CF) (r0 : A4) (t0 t1 t2 t6 : AV) (h : Heap) : Res := opt (fastBin .add t6 (iL 1)) fun t14 => r0 t0 t1 t2 t14 h
theorem TS146_1 (c : CF) (r0 : A4) : (rk d146 P0 c 49 c146.snd.bd.bd.s2).1 (L4 r0 0 1 2 6) [(0,k146)] k146 gK = L4 (S146_1 c r0) 0 1 2 6 := by funext s h; kernel_rfl
noncomputable def S146_3 (c : CF) (r0 : A4) (r2 : A5) (t0 t1 t2 t6 t7 : AV) (h : Heap) : Res := opt (fastBin .sub t7 (iL 1)) fun t37 => opt (fastBin .sub t7 (iL 1)) fun t40 => opt (indexAddrS 1 t0 t40 h) fun t41 => eqH h h (opt (loadX none t41 h) fun t42 => eqH h h (opt (indexAddrS 1 t0 t7 h) fun t45 => eqH h h (opt (loadX none t45 h) fun t46 => eqH h h (opt (indexAddrS 1 t0 t7 h) fun t47 => eqH h h (optH (storeX 1 t47 t42 h) fun h1 => opt (indexAddrS 1 t0 t37 h1) fun t48 => eqH h1 h1 (optH (storeX 1 t48 t46 h1) fun h2 => opt (fastBin .sub t7 (iL 1)) fun t32 => r2 t0 t1 t2 t6 t32 h2))))))
theorem TS146_3 (c : CF) (r0 : A4) (r2 : A5) : (rk d146 P0 c 49 c146.snd.bd.bd.snd.fst.bd.snd.bd.bd.snd).1 (L5 r2 0 1 2 6 7) [(2,(L4 (S146_1 c r0) 0 1 2 6)),(1,(L4 (S146_1 c r0) 0 1 2 6)),(0,k146)] k146 gK = L5 (S146_3 c r0 r2) 0 1 2 6 7 := by funext s h; kernel_rfl
noncomputable def S146_4b (c : CF) (r0 : A4) (r2 : A5) (t0 t1 t2 t6 t7 : AV) (h : Heap) : Res := opt (fastBin .gtr t7 t1) fun t18 => test t18 (opt (indexAddrS 1 t0 t7 h) fun t22 => eqH h h (opt (loadX none t22 h) fun t23 => eqH h h (opt (fastBin .sub t7 (iL 1)) fun t26 => opt (indexAddrS 1 t0 t26 h) fun t27 => eqH h h (opt (loadX none t27 h) fun t28 => eqH h h (opt2 (c 152 [t23,t28] h) fun t29 h1 => eqH h1 h (test t29 (S146_3 c r0 r2 t0 t1 t2 t6 t7 h) (S146_1 c r0 t0 t1 t2 t6 h))))))) (S146_1 c r0 t0 t1 t2 t6 h)
theorem TS146_4b (c : CF) (r0 : A4) (r2 : A5) : (rk d146 P0 c 49 c146.snd.bd.bd.snd.fst.bd.snd.bd.bd).1 (L5 r2 0 1 2 6 7) [(2,(L4 (S146_1 c r0) 0 1 2 6)),(1,(L4 (S146_1 c r0) 0 1 2 6)),(0,k146)] k146 gK = L5 (S146_4b c r0 r2) 0 1 2 6 7 := Eq.trans (seq_t (by kernel_rfl) (TS146_3 c r0 r2) rfl) (by funext s h; kernel_rfl)
noncomputable def S146_2l (c : CF) (r0 : A4) : Nat → A5
  | 0 => fun _ _ _ _ _ _ => none
  | k + 1 => S146_4b c r0 (S146_2l c r0 k)
theorem TS146_2l (c : CF) (r0 : A4) : (rk d146 P0 c 49 c146.snd.bd.bd.snd.fst.bd.snd.bd).1 (L4 (S146_1 c r0) 0 1 2 6) [(2,(L4 (S146_1 c r0) 0 1 2 6)),(1,(L4 (S146_1 c r0) 0 1 2 6)),(0,k146)] k146 gK = L5 (S146_2l c r0 rounds) 0 1 2 6 7 := loop_t (by kernel_rfl) (loop_ind (A := fun m => L5 (S146_2l c r0 m) 0 1 2 6 7) rfl (fun m => TS146_4b c r0 (S146_2l c r0 m)) rounds)
noncomputable def S146_5 (c : CF) (r0 : A4) (t0 t1 t2 t6 t7 : AV) (h : Heap) : Res := S146_2l c r0 rounds t0 t1 t2 t6 t7 h
theorem TS146_5 (c : CF) (r0 : A4) : (rk d146 P0 c 49 c146.snd.bd.bd.snd.fst.bd.snd).1 (L4 (S146_1 c r0) 0 1 2 6) [(1,(L4 (S146_1 c r0) 0 1 2 6)),(0,k146)] k146 gK = L5 (S146_5 c r0) 0 1 2 6 7 := Eq.trans (block_t (id := 2) (by kernel_rfl) (TS146_2l c r0)) (by funext s h; kernel_rfl)
noncomputable def S146_6 (c : CF) (r0 : A4) (t0 t1 t2 t6 : AV) (h : Heap) : Res := S146_5 c r0 t0 t1 t2 t6 t6 h
theorem TS146_6 (c : CF) (r0 : A4) : (rk d146 P0 c 49 c146.snd.bd.bd.snd).1 (L4 r0 0 1 2 6) [(0,k146)] k146 gK = L4 (S146_6 c r0) 0 1 2 6 := Eq.trans (seq_t (by kernel_rfl) (TS146_1 c r0) (block_t (id := 1) (by kernel_rfl) (seq_t (by kernel_rfl) (TS146_5 c r0) rfl))) (by funext s h; kernel_rfl)
noncomputable def S146_7b (c : CF) (r0 : A4) (t0 t1 t2 t6 : AV) (h : Heap) : Res := opt (fastBin .lss t6 t2) fun t12 => test t12 (S146_6 c r0 t0 t1 t2 t6 h) (some ((.lit (.tuple #[])),h))
theorem TS146_7b (c : CF) (r0 : A4) : (rk d146 P0 c 49 c146.snd.bd.bd).1 (L4 r0 0 1 2 6) [(0,k146)] k146 gK = L4 (S146_7b c r0) 0 1 2 6 := Eq.trans (seq_t (by kernel_rfl) (TS146_6 c r0) rfl) (by funext s h; kernel_rfl)
noncomputable def S146_0l (c : CF) : Nat → A4
  | 0 => fun _ _ _ _ _ => none
  | k + 1 => S146_7b c (S146_0l c k)
theorem TS146_0l (c : CF) : (rk d146 P0 c 49 c146.snd.bd).1 k146 [(0,k146)] k146 gK = L4 (S146_0l c rounds) 0 1 2 6 := loop_t (by kernel_rfl) (loop_ind (A := fun m => L4 (S146_0l c m) 0 1 2 6) rfl (fun m => TS146_7b c (S146_0l c m)) rounds)
noncomputable def S146_8 (c : CF) (t0 t1 t2 t6 : AV) (h : Heap) : Res := S146_0l c rounds t0 t1 t2 t6 h
theorem TS146_8 (c : CF) : (rk d146 P0 c 49 c146.snd).1 k146 [] k146 gK = L4 (S146_8 c) 0 1 2 6 := Eq.trans (block_t (id := 0) (by kernel_rfl) (TS146_0l c)) (by funext s h; kernel_rfl)
noncomputable def F146 (c : CF) (a0 a1 a2 : AV) (h : Heap) : Res := opt (fastBin .add a1 (iL 1)) fun t9 => S146_8 c a0 a1 a2 t9 h
theorem TF146 (c : CF) (a0 a1 a2 : AV) (h : Heap) : (rk d146 P0 c 49 c146).1 k146 [] k146 gK (argsTr gl 0 [a0,a1,a2]) h = F146 c a0 a1 a2 h := Eq.trans (congrFun (congrFun (seq_t (by kernel_rfl) (TS146_8 c) rfl) _) _) (by kernel_rfl)
noncomputable def N146 : FnF := n3 F146
theorem N146_ok : FnOk P0 gl 146 N146 := n3_ok namesOk mixedOrders lowOk Tryz.func146 (by kernel_rfl) (by kernel_rfl) (by kernel_rfl) TF146
noncomputable def c152 : Code := codeOf Tryz.f152
noncomputable def k152 : Kt := finK P0 Tryz.f152.results.toList
def d152 : List Nat := []
noncomputable def F152 (c : CF) (a0 a1 : AV) (h : Heap) : Res := opt2 (c 185 [a0] h) fun t6 h1 => test t6 (opt2 (c 185 [a1] h1) fun t9 h2 => opt (notX t9) fun t10 => test t10 (some (tL,h2)) (opt (binX P0 .none .lss 9 a0 a1) fun t15 => some (t15,h2))) (opt (binX P0 .none .lss 9 a0 a1) fun t15_1 => some (t15_1,h1))
theorem TF152 (c : CF) (a0 a1 : AV) (h : Heap) : (rk d152 P0 c 17 c152).1 k152 [] k152 gK (argsTr gl 0 [a0,a1]) h = F152 c a0 a1 h := by kernel_rfl
noncomputable def N152 : FnF := n2 F152
theorem N152_ok : FnOk P0 gl 152 N152 := n2_ok namesOk mixedOrders lowOk Tryz.func152 (by kernel_rfl) (by kernel_rfl) (by kernel_rfl) TF152
noncomputable def c156 : Code := codeOf Tryz.f156
noncomputable def k156 : Kt := finK P0 Tryz.f156.results.toList
def d156 : List Nat := [2,3,5,6,8,9]
noncomputable def F156 (c : CF) (a0 : AV) (h : Heap) : Res := opt (fastBin .geq a0 (.lit (.int .u64 4294967296))) fun t4 => test t4 (none) (opt (fastBin .geq a0 (.lit (.int .u64 65536))) fun t8 => test t8 (none) (opt (fastBin .geq a0 (.lit (.int .u64 256))) fun t14 => test t14 (none) (opt (convI .u8 a0) fun t21 => opt (fastIndex (sL [0,1,2,2,3,3,3,3,4,4,4,4,4,4,4,4,5,5,5,5,5,5,5,5,5,5,5,5,5,5,5,5,6,6,6,6,6,6,6,6,6,6,6,6,6,6,6,6,6,6,6,6,6,6,6,6,6,6,6,6,6,6,6,6,7,7,7,7,7,7,7,7,7,7,7,7,7,7,7,7,7,7,7,7,7,7,7,7,7,7,7,7,7,7,7,7,7,7,7,7,7,7,7,7,7,7,7,7,7,7,7,7,7,7,7,7,7,7,7,7,7,7,7,7,7,7,7,7,8,8,8,8,8,8,8,8,8,8,8,8,8,8,8,8,8,8,8,8,8,8,8,8,8,8,8,8,8,8,8,8,8,8,8,8,8,8,8,8,8,8,8,8,8,8,8,8,8,8,8,8,8,8,8,8,8,8,8,8,8,8,8,8,8,8,8,8,8,8,8,8,8,8,8,8,8,8,8,8,8,8,8,8,8,8,8,8,8,8,8,8,8,8,8,8,8,8,8,8,8,8,8,8,8,8,8,8,8,8,8,8,8,8,8,8,8,8,8,8,8,8,8,8,8,8,8,8]) t21) fun t22 => opt (convI .i64 t22) fun t23 => opt (fastBin .add (iL 0) t23) fun t24 => some (t24,h))))
theorem TF156 (c : CF) (a0 : AV) (h : Heap) : (rk d156 P0 c 25 c156).1 k156 [] k156 gK (argsTr gl 0 [a0]) h = F156 c a0 h := by kernel_rfl
noncomputable def N156 : FnF := n1 F156
theorem N156_ok : FnOk P0 gl 156 N156 := n1_ok namesOk mixedOrders lowOk Tryz.func156 (by kernel_rfl) (by kernel_rfl) (by kernel_rfl) TF156
noncomputable def c168 : Code := codeOf Tryz.f168
noncomputable def k168 : Kt := finK P0 Tryz.f168.results.toList
def d168 : List Nat := [5,6,7,4]
noncomputable def S168_0 (c : CF) (t1 t5 : AV) (h : Heap) : Res := opt (fastBin .add t5 (sL [41])) fun t24 => opt (fastBin .add t24 t1) fun t26 => some (t26,h)
theorem TS168_0 (c : CF) : (rk d168 P0 c 27 c168.s3).1 k168 [] k168 gK = L2 (S168_0 c) 1 5 := by funext s h; kernel_rfl
noncomputable def S168_2b (c : CF) (r1 : A4) (t0 t1 t5 t6 : AV) (h : Heap) : Res := opt (lenS t0) fun t9 => opt (fastBin .lss t6 t9) fun t10 => test t10 (none) (S168_0 c t1 t5 h)
theorem TS168_2b (c : CF) (r1 : A4) : (rk d168 P0 c 27 c168.s2.fst.snd.bd.bd).1 (L4 r1 0 1 5 6) [(0,(L2 (S168_0 c) 1 5))] k168 gK = L4 (S168_2b c r1) 0 1 5 6 := by funext s h; kernel_rfl
noncomputable def S168_1l (c : CF) : Nat → A4
  | 0 => fun _ _ _ _ _ => none
  | k + 1 => S168_2b c (S168_1l c k)
theorem TS168_1l (c : CF) : (rk d168 P0 c 27 c168.s2.fst.snd.bd).1 (L2 (S168_0 c) 1 5) [(0,(L2 (S168_0 c) 1 5))] k168 gK = L4 (S168_1l c rounds) 0 1 5 6 := loop_t (by kernel_rfl) (loop_ind (A := fun m => L4 (S168_1l c m) 0 1 5 6) rfl (fun m => TS168_2b c (S168_1l c m)) rounds)
noncomputable def S168_3 (c : CF) (t0 t1 t5 t6 : AV) (h : Heap) : Res := S168_1l c rounds t0 t1 t5 t6 h
theorem TS168_3 (c : CF) : (rk d168 P0 c 27 c168.s2.fst.snd).1 (L2 (S168_0 c) 1 5) [] k168 gK = L4 (S168_3 c) 0 1 5 6 := Eq.trans (block_t (id := 0) (by kernel_rfl) (TS168_1l c)) (by funext s h; kernel_rfl)
noncomputable def S168_4 (c : CF) (t0 t1 t5 : AV) (h : Heap) : Res := S168_3 c t0 t1 t5 (iL 0) h
theorem TS168_4 (c : CF) : (rk d168 P0 c 27 c168.s2).1 k168 [] k168 gK = L3 (S168_4 c) 0 1 5 := Eq.trans (seq_t (by kernel_rfl) (TS168_0 c) (seq_t (by kernel_rfl) (TS168_3 c) rfl)) (by funext s h; kernel_rfl)
noncomputable def S168_5 (c : CF) (t0 t1 : AV) (h : Heap) : Res := S168_4 c t0 t1 (sL [40]) h
theorem TS168_5 (c : CF) : (rk d168 P0 c 27 c168.snd).1 k168 [] k168 gK = L2 (S168_5 c) 0 1 := Eq.trans (seq_t (by kernel_rfl) (TS168_4 c) rfl) (by funext s h; kernel_rfl)
noncomputable def F168 (c : CF) (a0 a1 : AV) (h : Heap) : Res := S168_5 c a0 a1 h
theorem TF168 (c : CF) (a0 a1 : AV) (h : Heap) : (rk d168 P0 c 27 c168).1 k168 [] k168 gK (argsTr gl 0 [a0,a1]) h = F168 c a0 a1 h := Eq.trans (congrFun (congrFun (seq_t (by kernel_rfl) (TS168_5 c) rfl) _) _) (by kernel_rfl)
noncomputable def N168 : FnF := n2 F168
theorem N168_ok : FnOk P0 gl 168 N168 := n2_ok namesOk mixedOrders lowOk Tryz.func168 (by kernel_rfl) (by kernel_rfl) (by kernel_rfl) TF168
noncomputable def c173 : Code := codeOf Tryz.f173
noncomputable def k173 : Kt := finK P0 Tryz.f173.results.toList
def d173 : List Nat := []
noncomputable def F173 (c : CF) (a0 : AV) (h : Heap) : Res := opt2 (c 230 [a0] h) fun t8 h1 => opt (extractX t8 0) fun t9 => opt (extractX t8 1) fun t10 => opt (extractX t8 2) fun t11 => some (t11,h1)
theorem TF173 (c : CF) (a0 : AV) (h : Heap) : (rk d173 P0 c 13 c173).1 k173 [] k173 gK (argsTr gl 0 [a0]) h = F173 c a0 h := by kernel_rfl
noncomputable def N173 : FnF := n1 F173
theorem N173_ok : FnOk P0 gl 173 N173 := n1_ok namesOk mixedOrders lowOk Tryz.func173 (by kernel_rfl) (by kernel_rfl) (by kernel_rfl) TF173
noncomputable def c181 : Code := codeOf Tryz.f181
noncomputable def k181 : Kt := finK P0 Tryz.f181.results.toList
def d181 : List Nat := []
noncomputable def F181 (c : CF) (a0 a1 : AV) (h : Heap) : Res := opt2 (c 238 [a0,(sL [44])] h) fun t6 h1 => opt (fastBin .add (sL [40]) t6) fun t7 => opt (fastBin .add t7 (sL [41])) fun t8 => opt (fastBin .add t8 a1) fun t10 => some (t10,h1)
theorem TF181 (c : CF) (a0 a1 : AV) (h : Heap) : (rk d181 P0 c 11 c181).1 k181 [] k181 gK (argsTr gl 0 [a0,a1]) h = F181 c a0 a1 h := by kernel_rfl
noncomputable def N181 : FnF := n2 F181
theorem N181_ok : FnOk P0 gl 181 N181 := n2_ok namesOk mixedOrders lowOk Tryz.func181 (by kernel_rfl) (by kernel_rfl) (by kernel_rfl) TF181
noncomputable def c182 : Code := codeOf Tryz.f182
noncomputable def k182 : Kt := finK P0 Tryz.f182.results.toList
def d182 : List Nat := []
noncomputable def F182 (c : CF) (a0 : AV) (h : Heap) : Res := opt (binX P0 .slice .eql 127 a0 nL) fun t4 => test t4 (some (nL,h)) (opt2 (bsliceX 2 (.agg [eL,nL]) 0 [] h) fun t5 h1 => opt2 (appendX 2 40 t5 a0 h1) fun t7 h2 => some (t7,h2))
theorem TF182 (c : CF) (a0 : AV) (h : Heap) : (rk d182 P0 c 8 c182).1 k182 [] k182 gK (argsTr gl 0 [a0]) h = F182 c a0 h := by kernel_rfl
noncomputable def N182 : FnF := n1 F182
theorem N182_ok : FnOk P0 gl 182 N182 := n1_ok namesOk mixedOrders lowOk Tryz.func182 (by kernel_rfl) (by kernel_rfl) (by kernel_rfl) TF182
noncomputable def c183 : Code := codeOf Tryz.f183
noncomputable def k183 : Kt := finK P0 Tryz.f183.results.toList
def d183 : List Nat := []
noncomputable def F183 (c : CF) (a0 : AV) (h : Heap) : Res := opt (binX P0 .slice .eql 34 a0 nL) fun t4 => test t4 (some (nL,h)) (opt2 (bsliceX 1 eL 0 [] h) fun t5 h1 => opt2 (appendX 1 16 t5 a0 h1) fun t7 h2 => some (t7,h2))
theorem TF183 (c : CF) (a0 : AV) (h : Heap) : (rk d183 P0 c 8 c183).1 k183 [] k183 gK (argsTr gl 0 [a0]) h = F183 c a0 h := by kernel_rfl
noncomputable def N183 : FnF := n1 F183
theorem N183_ok : FnOk P0 gl 183 N183 := n1_ok namesOk mixedOrders lowOk Tryz.func183 (by kernel_rfl) (by kernel_rfl) (by kernel_rfl) TF183
noncomputable def c184 : Code := codeOf Tryz.f184
noncomputable def k184 : Kt := finK P0 Tryz.f184.results.toList
def d184 : List Nat := [5,6,7,8,9,10,11,12,13,14,15,16,17,18,19,20,21,22,23,24,25,26,27,28,29,30]
noncomputable def S184_1b (c : CF) (r0 : A4) (t0 t1 t2 t4 : AV) (h : Heap) : Res := opt (fastBin .sub t2 t1) fun t23 => opt (fastBin .leq t23 (iL 12)) fun t25 => test t25 (opt2 (c 239 [t0,t1,t2,t4] h) fun t30 h1 => some ((.lit (.tuple #[])),h1)) (none)
theorem TS184_1b (c : CF) (r0 : A4) : (rk d184 P0 c 148 c184.s2.bd.bd).1 (L4 r0 0 1 2 4) [(0,k184)] k184 gK = L4 (S184_1b c r0) 0 1 2 4 := by funext s h; kernel_rfl
noncomputable def S184_0l (c : CF) : Nat → A4
  | 0 => fun _ _ _ _ _ => none
  | k + 1 => S184_1b c (S184_0l c k)
theorem TS184_0l (c : CF) : (rk d184 P0 c 148 c184.s2.bd).1 k184 [(0,k184)] k184 gK = L4 (S184_0l c rounds) 0 1 2 4 := loop_t (by kernel_rfl) (loop_ind (A := fun m => L4 (S184_0l c m) 0 1 2 4) rfl (fun m => TS184_1b c (S184_0l c m)) rounds)
noncomputable def S184_2 (c : CF) (t0 t1 t2 t4 : AV) (h : Heap) : Res := S184_0l c rounds t0 t1 t2 t4 h
theorem TS184_2 (c : CF) : (rk d184 P0 c 148 c184.s2).1 k184 [] k184 gK = L4 (S184_2 c) 0 1 2 4 := Eq.trans (block_t (id := 0) (by kernel_rfl) (TS184_0l c)) (by funext s h; kernel_rfl)
noncomputable def S184_3 (c : CF) (t0 t1 t2 t4 : AV) (h : Heap) : Res := S184_2 c t0 t1 t2 t4 h
theorem TS184_3 (c : CF) : (rk d184 P0 c 148 c184.snd).1 k184 [] k184 gK = L4 (S184_3 c) 0 1 2 4 := Eq.trans (seq_t (by kernel_rfl) (TS184_2 c) rfl) (by funext s h; kernel_rfl)
noncomputable def F184 (c : CF) (a0 a1 a2 a3 a4 : AV) (h : Heap) : Res := S184_3 c a0 a1 a2 a4 h
theorem TF184 (c : CF) (a0 a1 a2 a3 a4 : AV) (h : Heap) : (rk d184 P0 c 148 c184).1 k184 [] k184 gK (argsTr gl 0 [a0,a1,a2,a3,a4]) h = F184 c a0 a1 a2 a3 a4 h := Eq.trans (congrFun (congrFun (seq_t (by kernel_rfl) (TS184_3 c) rfl) _) _) (by kernel_rfl)
noncomputable def N184 : FnF := n5 F184
theorem N184_ok : FnOk P0 gl 184 N184 := n5_ok namesOk mixedOrders lowOk Tryz.func184 (by kernel_rfl) (by kernel_rfl) (by kernel_rfl) TF184
noncomputable def c185 : Code := codeOf Tryz.f185
noncomputable def k185 : Kt := finK P0 Tryz.f185.results.toList
def d185 : List Nat := []
noncomputable def F185 (c : CF) (a0 : AV) (h : Heap) : Res := opt (fastBin .neq a0 a0) fun t5 => some (t5,h)
theorem TF185 (c : CF) (a0 : AV) (h : Heap) : (rk d185 P0 c 6 c185).1 k185 [] k185 gK (argsTr gl 0 [a0]) h = F185 c a0 h := by kernel_rfl
noncomputable def N185 : FnF := n1 F185
theorem N185_ok : FnOk P0 gl 185 N185 := n1_ok namesOk mixedOrders lowOk Tryz.func185 (by kernel_rfl) (by kernel_rfl) (by kernel_rfl) TF185
noncomputable def c186 : Code := codeOf Tryz.f186
noncomputable def k186 : Kt := finK P0 Tryz.f186.results.toList
def d186 : List Nat := []
noncomputable def F186 (c : CF) (a0 : AV) (h : Heap) : Res := opt2 (c 247 [a0] h) fun t4 h1 => test t4 (opt2 (c 187 [a0] h1) fun t7 h2 => opt (notX t7) fun t8 => some (t8,h2)) (some (fL,h1))
theorem TF186 (c : CF) (a0 : AV) (h : Heap) : (rk d186 P0 c 10 c186).1 k186 [] k186 gK (argsTr gl 0 [a0]) h = F186 c a0 h := by kernel_rfl
noncomputable def N186 : FnF := n1 F186
theorem N186_ok : FnOk P0 gl 186 N186 := n1_ok namesOk mixedOrders lowOk Tryz.func186 (by kernel_rfl) (by kernel_rfl) (by kernel_rfl) TF186
end Go.Proofs.YtomjidlkaocmkaaGreat
