import Derived.Test.YtngiokdbbjbpfaaGreatG81
namespace Go.Proofs.YtngiokdbbjbpfaaGreat
open Go.Am
set_option maxRecDepth 100000
set_option linter.unusedSimpArgs false
set_option linter.unusedVariables false
noncomputable def c156 : Code := codeOf Tryz.f156
noncomputable def k156 : Kt := finK P0 Tryz.f156.results.toList
noncomputable def S156_0 (c : CF) (t0 t4 t5 t6 : AV) (h : Heap) : Res := opt (fieldAddrX 0 t5) fun t43 => optH (storeX 1 t43 (iL 4) h) fun h1 => opt (fieldAddrX 3 t4) fun t45 => opt (loadX none t45 h1) fun t46 => opt (indexAddrS 4 t46 (iL 1) h1) fun t47 => opt (loadX (some 4) t47 h1) fun t48 => opt2 (c 101 [t0,t48] h1) fun t49 h2 => opt (fieldAddrX 2 t5) fun t50 => optH (storeX 1 t50 t49 h2) fun h3 => opt (fieldAddrX 3 t4) fun t52 => opt (loadX none t52 h3) fun t53 => opt (cutZ 4 t53 (some (iL 2)) none none h3) fun t54 => opt2 (c 195 [t0,t54] h3) fun t55 h4 => opt (fieldAddrX 6 t5) fun t56 => optH (storeX 1 t56 t55 h4) fun h5 => opt (loadX (some 9) t5 h5) fun t239 => optH (storeX 9 t6 t239 h5) fun h6 => opt (loadX (some 9) t6 h6) fun res => some (res,h6)
theorem TS156_0 (c : CF) : (rk P0 c 240 c156.s4.fst.bd.snd.thn.snd).1 ((rk P0 c 240 c156.s5).1 k156 [] k156 gK) [(0,((rk P0 c 240 c156.s5).1 k156 [] k156 gK))] k156 gK = L4 (S156_0 c) 0 4 5 6 := by funext s h; kernel_rfl
noncomputable def S156_1 (c : CF) (t0 t4 t5 t6 t37 : AV) (h : Heap) : Res := test t37 (opt (fieldAddrX 1 t4) fun t39 => opt (loadX none t39 h) fun t40 => opt2 (c 47 [t0,(iL 12),t40] h) fun t41 h1 => opt (loadX (some 9) t5 h1) fun t42 => optH (storeX 9 t6 t42 h1) fun h2 => opt (loadX (some 9) t6 h2) fun res => some (res,h2)) (S156_0 c t0 t4 t5 t6 h)
theorem TS156_1 (c : CF) : (rk P0 c 240 c156.s4.fst.bd.snd.thn.fst.snd).1 (L4 (S156_0 c) 0 4 5 6) [(0,((rk P0 c 240 c156.s5).1 k156 [] k156 gK))] k156 gK = L5 (S156_1 c) 0 4 5 6 37 := by funext s h; kernel_rfl
noncomputable def S156_2 (c : CF) (t0 t4 t5 t6 : AV) (h : Heap) : Res := opt (fieldAddrX 0 t5) fun t88 => optH (storeX 1 t88 (iL 7) h) fun h1 => opt (fieldAddrX 3 t4) fun t90 => opt (loadX none t90 h1) fun t91 => opt (indexAddrS 4 t91 (iL 1) h1) fun t92 => opt (loadX (some 4) t92 h1) fun t93 => opt2 (c 102 [t0,t93] h1) fun t94 h2 => opt (fieldAddrX 5 t5) fun t95 => optH (storeX 1 t95 t94 h2) fun h3 => opt (fieldAddrX 3 t4) fun t97 => opt (loadX none t97 h3) fun t98 => opt (cutZ 4 t98 (some (iL 2)) none none h3) fun t99 => opt2 (c 195 [t0,t99] h3) fun t100 h4 => opt (fieldAddrX 6 t5) fun t101 => optH (storeX 1 t101 t100 h4) fun h5 => opt (loadX (some 9) t5 h5) fun t239 => optH (storeX 9 t6 t239 h5) fun h6 => opt (loadX (some 9) t6 h6) fun res => some (res,h6)
theorem TS156_2 (c : CF) : (rk P0 c 240 c156.s4.fst.bd.snd.els.snd.els.snd.thn.s2).1 ((rk P0 c 240 c156.s5).1 k156 [] k156 gK) [(0,((rk P0 c 240 c156.s5).1 k156 [] k156 gK))] k156 gK = L4 (S156_2 c) 0 4 5 6 := by funext s h; kernel_rfl
noncomputable def S156_3 (c : CF) (t0 t4 t5 t6 t8 : AV) (h : Heap) : Res := opt (fastBin .gtr t8 (iL 34)) fun t83 => test t83 (opt (fieldAddrX 1 t4) fun t85 => opt (loadX none t85 h) fun t86 => opt2 (c 47 [t0,(iL 19),t86] h) fun t87 h1 => S156_2 c t0 t4 t5 t6 h1) (S156_2 c t0 t4 t5 t6 h)
theorem TS156_3 (c : CF) : (rk P0 c 240 c156.s4.fst.bd.snd.els.snd.els.snd.thn.snd).1 ((rk P0 c 240 c156.s5).1 k156 [] k156 gK) [(0,((rk P0 c 240 c156.s5).1 k156 [] k156 gK))] k156 gK = L5 (S156_3 c) 0 4 5 6 8 := Eq.trans (seq_t (by kernel_rfl) (TS156_2 c) rfl) (by funext s h; kernel_rfl)
noncomputable def S156_4 (c : CF) (t0 t4 t5 t6 : AV) (h : Heap) : Res := opt (fieldAddrX 0 t5) fun t138 => optH (storeX 1 t138 (iL 10) h) fun h1 => opt (fieldAddrX 3 t4) fun t140 => opt (loadX none t140 h1) fun t141 => opt (indexAddrS 4 t141 (iL 1) h1) fun t142 => opt (loadX (some 4) t142 h1) fun t143 => opt2 (c 104 [t0,t143] h1) fun t144 h2 => opt (fieldAddrX 7 t5) fun t145 => optH (storeX 1 t145 t144 h2) fun h3 => opt (fieldAddrX 3 t4) fun t147 => opt (loadX none t147 h3) fun t148 => opt (indexAddrS 4 t148 (iL 2) h3) fun t149 => opt (loadX (some 4) t149 h3) fun t150 => opt2 (c 102 [t0,t150] h3) fun t151 h4 => opt (fieldAddrX 5 t5) fun t152 => optH (storeX 1 t152 t151 h4) fun h5 => opt (fieldAddrX 3 t4) fun t154 => opt (loadX none t154 h5) fun t155 => opt (cutZ 4 t155 (some (iL 3)) none none h5) fun t156 => opt2 (c 195 [t0,t156] h5) fun t157 h6 => opt (fieldAddrX 6 t5) fun t158 => optH (storeX 1 t158 t157 h6) fun h7 => opt (loadX (some 9) t5 h7) fun t239 => optH (storeX 9 t6 t239 h7) fun h8 => opt (loadX (some 9) t6 h8) fun res => some (res,h8)
theorem TS156_4 (c : CF) : (rk P0 c 240 c156.s4.fst.bd.snd.els.snd.els.snd.els.snd.els.snd.thn.s2).1 ((rk P0 c 240 c156.s5).1 k156 [] k156 gK) [(0,((rk P0 c 240 c156.s5).1 k156 [] k156 gK))] k156 gK = L4 (S156_4 c) 0 4 5 6 := by funext s h; kernel_rfl
noncomputable def S156_5 (c : CF) (t0 t4 t5 t6 : AV) (h : Heap) : Res := opt (fieldAddrX 3 t4) fun t127 => opt (loadX none t127 h) fun t128 => opt (indexAddrS 4 t128 (iL 1) h) fun t129 => opt (fieldAddrX 3 t129) fun t130 => opt (loadX none t130 h) fun t131 => opt (lenS t131) fun t132 => opt (fastBin .gtr t132 (iL 6)) fun t133 => test t133 (opt (fieldAddrX 1 t4) fun t135 => opt (loadX none t135 h) fun t136 => opt2 (c 47 [t0,(iL 19),t136] h) fun t137 h1 => S156_4 c t0 t4 t5 t6 h1) (S156_4 c t0 t4 t5 t6 h)
theorem TS156_5 (c : CF) : (rk P0 c 240 c156.s4.fst.bd.snd.els.snd.els.snd.els.snd.els.snd.thn.snd).1 ((rk P0 c 240 c156.s5).1 k156 [] k156 gK) [(0,((rk P0 c 240 c156.s5).1 k156 [] k156 gK))] k156 gK = L4 (S156_5 c) 0 4 5 6 := Eq.trans (seq_t (by kernel_rfl) (TS156_4 c) rfl) (by funext s h; kernel_rfl)
noncomputable def S156_6 (c : CF) (t0 t4 t5 t6 t121 : AV) (h : Heap) : Res := test t121 (opt (fieldAddrX 1 t4) fun t123 => opt (loadX none t123 h) fun t124 => opt2 (c 47 [t0,(iL 12),t124] h) fun t125 h1 => opt (loadX (some 9) t5 h1) fun t126 => optH (storeX 9 t6 t126 h1) fun h2 => opt (loadX (some 9) t6 h2) fun res => some (res,h2)) (S156_5 c t0 t4 t5 t6 h)
theorem TS156_6 (c : CF) : (rk P0 c 240 c156.s4.fst.bd.snd.els.snd.els.snd.els.snd.els.snd.thn.fst.snd).1 (L4 (S156_5 c) 0 4 5 6) [(0,((rk P0 c 240 c156.s5).1 k156 [] k156 gK))] k156 gK = L5 (S156_6 c) 0 4 5 6 121 := by funext s h; kernel_rfl
noncomputable def S156_7 (c : CF) (t0 t5 t6 t9 : AV) (h : Heap) : Res := opt (fieldAddrX 0 t5) fun t176 => optH (storeX 1 t176 (iL 11) h) fun h1 => opt2 (c 195 [t0,t9] h1) fun t179 h2 => opt (fieldAddrX 6 t5) fun t180 => optH (storeX 1 t180 t179 h2) fun h3 => opt (loadX (some 9) t5 h3) fun t239 => optH (storeX 9 t6 t239 h3) fun h4 => opt (loadX (some 9) t6 h4) fun res => some (res,h4)
theorem TS156_7 (c : CF) : (rk P0 c 240 c156.s4.fst.bd.snd.els.snd.els.snd.els.snd.els.snd.els.snd.thn.s2).1 ((rk P0 c 240 c156.s5).1 k156 [] k156 gK) [(0,((rk P0 c 240 c156.s5).1 k156 [] k156 gK))] k156 gK = L4 (S156_7 c) 0 5 6 9 := by funext s h; kernel_rfl
noncomputable def S156_8 (c : CF) (t0 t4 t5 t6 t8 t9 : AV) (h : Heap) : Res := opt (fastBin .sub t8 (iL 2)) fun t170 => opt (fastBin .gtr t170 (iL 6)) fun t171 => test t171 (opt (fieldAddrX 1 t4) fun t173 => opt (loadX none t173 h) fun t174 => opt2 (c 47 [t0,(iL 19),t174] h) fun t175 h1 => S156_7 c t0 t5 t6 t9 h1) (S156_7 c t0 t5 t6 t9 h)
theorem TS156_8 (c : CF) : (rk P0 c 240 c156.s4.fst.bd.snd.els.snd.els.snd.els.snd.els.snd.els.snd.thn.snd).1 ((rk P0 c 240 c156.s5).1 k156 [] k156 gK) [(0,((rk P0 c 240 c156.s5).1 k156 [] k156 gK))] k156 gK = L6 (S156_8 c) 0 4 5 6 8 9 := Eq.trans (seq_t (by kernel_rfl) (TS156_7 c) rfl) (by funext s h; kernel_rfl)
noncomputable def S156_9 (c : CF) (t0 t5 t6 t7 t9 : AV) (h : Heap) : Res := opt (fieldAddrX 0 t5) fun t206 => optH (storeX 1 t206 (iL 8) h) fun h1 => opt (fieldAddrX 2 t5) fun t208 => optH (storeX 1 t208 t7 h1) fun h2 => opt2 (c 195 [t0,t9] h2) fun t211 h3 => opt (fieldAddrX 6 t5) fun t212 => optH (storeX 1 t212 t211 h3) fun h4 => opt (loadX (some 9) t5 h4) fun t239 => optH (storeX 9 t6 t239 h4) fun h5 => opt (loadX (some 9) t6 h5) fun res => some (res,h5)
theorem TS156_9 (c : CF) : (rk P0 c 240 c156.s4.fst.bd.snd.els.snd.els.snd.els.snd.els.snd.els.snd.els.snd.els.snd.thn.snd).1 ((rk P0 c 240 c156.s5).1 k156 [] k156 gK) [(0,((rk P0 c 240 c156.s5).1 k156 [] k156 gK))] k156 gK = L5 (S156_9 c) 0 5 6 7 9 := by funext s h; kernel_rfl
noncomputable def S156_10 (c : CF) (t0 t5 t6 t7 t9 : AV) (h : Heap) : Res := opt (fieldAddrX 0 t5) fun t232 => optH (storeX 1 t232 (iL 12) h) fun h1 => opt (fieldAddrX 2 t5) fun t234 => optH (storeX 1 t234 t7 h1) fun h2 => opt2 (c 195 [t0,t9] h2) fun t237 h3 => opt (fieldAddrX 6 t5) fun t238 => optH (storeX 1 t238 t237 h3) fun h4 => opt (loadX (some 9) t5 h4) fun t239 => optH (storeX 9 t6 t239 h4) fun h5 => opt (loadX (some 9) t6 h5) fun res => some (res,h5)
theorem TS156_10 (c : CF) : (rk P0 c 240 c156.s4.fst.bd.snd.els.snd.els.snd.els.snd.els.snd.els.snd.els.snd.els.snd.els.snd.thn.snd).1 ((rk P0 c 240 c156.s5).1 k156 [] k156 gK) [(0,((rk P0 c 240 c156.s5).1 k156 [] k156 gK))] k156 gK = L5 (S156_10 c) 0 5 6 7 9 := by funext s h; kernel_rfl
noncomputable def S156_11 (c : CF) (t0 t4 t5 t6 t7 t8 t9 : AV) (h : Heap) : Res := opt (fastBin .sub t8 (iL 1)) fun t226 => opt (fastBin .gtr t226 (iL 6)) fun t227 => test t227 (opt (fieldAddrX 1 t4) fun t229 => opt (loadX none t229 h) fun t230 => opt2 (c 47 [t0,(iL 19),t230] h) fun t231 h1 => S156_10 c t0 t5 t6 t7 t9 h1) (S156_10 c t0 t5 t6 t7 t9 h)
theorem TS156_11 (c : CF) : (rk P0 c 240 c156.s4.fst.bd.snd.els.snd.els.snd.els.snd.els.snd.els.snd.els.snd.els.snd.els.snd.thn).1 ((rk P0 c 240 c156.s5).1 k156 [] k156 gK) [(0,((rk P0 c 240 c156.s5).1 k156 [] k156 gK))] k156 gK = L7 (S156_11 c) 0 4 5 6 7 8 9 := Eq.trans (seq_t (by kernel_rfl) (TS156_10 c) rfl) (by funext s h; kernel_rfl)
noncomputable def S156_12 (c : CF) (t0 t4 t5 t6 t7 t8 t9 t213 : AV) (h : Heap) : Res := test t213 (S156_11 c t0 t4 t5 t6 t7 t8 t9 h) (opt (fieldAddrX 1 t4) fun t22 => opt (loadX none t22 h) fun t23 => opt2 (c 47 [t0,(iL 12),t23] h) fun t24 h1 => opt (loadX (some 9) t5 h1) fun t239 => optH (storeX 9 t6 t239 h1) fun h2 => opt (loadX (some 9) t6 h2) fun res => some (res,h2))
theorem TS156_12 (c : CF) : (rk P0 c 240 c156.s4.fst.bd.snd.els.snd.els.snd.els.snd.els.snd.els.snd.els.snd.els.snd.els.snd).1 ((rk P0 c 240 c156.s5).1 k156 [] k156 gK) [(0,((rk P0 c 240 c156.s5).1 k156 [] k156 gK))] k156 gK = L8 (S156_12 c) 0 4 5 6 7 8 9 213 := Eq.trans (cond_t (by kernel_rfl) (TS156_11 c) rfl) (by funext s h; kernel_rfl)
noncomputable def S156_13 (c : CF) (t0 t4 t5 t6 t7 t8 t9 : AV) (h : Heap) : Res := opt (fastBin .sub t8 (iL 1)) fun t200 => opt (fastBin .gtr t200 (iL 4)) fun t201 => test t201 (opt (fieldAddrX 1 t4) fun t203 => opt (loadX none t203 h) fun t204 => opt2 (c 47 [t0,(iL 19),t204] h) fun t205 h1 => S156_9 c t0 t5 t6 t7 t9 h1) (S156_9 c t0 t5 t6 t7 t9 h)
theorem TS156_13 (c : CF) : (rk P0 c 240 c156.s4.fst.bd.snd.els.snd.els.snd.els.snd.els.snd.els.snd.els.snd.els.snd.thn).1 ((rk P0 c 240 c156.s5).1 k156 [] k156 gK) [(0,((rk P0 c 240 c156.s5).1 k156 [] k156 gK))] k156 gK = L7 (S156_13 c) 0 4 5 6 7 8 9 := Eq.trans (seq_t (by kernel_rfl) (TS156_9 c) rfl) (by funext s h; kernel_rfl)
noncomputable def S156_14 (c : CF) (t0 t4 t5 t6 t7 t8 t9 : AV) (h : Heap) : Res := opt2 (c 46 [t7] h) fun t215 h1 => test t215 (opt2 (c 152 [t7] h1) fun t218 h2 => opt (notX t218) fun t219 => test t219 (S156_12 c t0 t4 t5 t6 t7 t8 t9 tL h2) (opt2 (c 155 [t7,fL] h2) fun t223 h3 => S156_12 c t0 t4 t5 t6 t7 t8 t9 t223 h3)) (opt2 (c 155 [t7,fL] h1) fun t223_1 h4 => S156_12 c t0 t4 t5 t6 t7 t8 t9 t223_1 h4)
theorem TS156_14 (c : CF) : (rk P0 c 240 c156.s4.fst.bd.snd.els.snd.els.snd.els.snd.els.snd.els.snd.els.snd.els.snd.els).1 ((rk P0 c 240 c156.s5).1 k156 [] k156 gK) [(0,((rk P0 c 240 c156.s5).1 k156 [] k156 gK))] k156 gK = L7 (S156_14 c) 0 4 5 6 7 8 9 := Eq.trans (seq_t (by kernel_rfl) (TS156_12 c) rfl) (by funext s h; kernel_rfl)
noncomputable def S156_15 (c : CF) (t0 t4 t5 t6 t7 t8 t9 t192 : AV) (h : Heap) : Res := test t192 (S156_13 c t0 t4 t5 t6 t7 t8 t9 h) (S156_14 c t0 t4 t5 t6 t7 t8 t9 h)
theorem TS156_15 (c : CF) : (rk P0 c 240 c156.s4.fst.bd.snd.els.snd.els.snd.els.snd.els.snd.els.snd.els.snd.els.snd).1 ((rk P0 c 240 c156.s5).1 k156 [] k156 gK) [(0,((rk P0 c 240 c156.s5).1 k156 [] k156 gK))] k156 gK = L8 (S156_15 c) 0 4 5 6 7 8 9 192 := Eq.trans (cond_t (by kernel_rfl) (TS156_13 c) (TS156_14 c)) (by funext s h; kernel_rfl)
noncomputable def S156_16 (c : CF) (t0 t4 t5 t6 t7 t8 t9 : AV) (h : Heap) : Res := opt2 (c 97 [t7] h) fun t194 h1 => test t194 (S156_15 c t0 t4 t5 t6 t7 t8 t9 tL h1) (opt2 (c 155 [t7,tL] h1) fun t197 h2 => S156_15 c t0 t4 t5 t6 t7 t8 t9 t197 h2)
theorem TS156_16 (c : CF) : (rk P0 c 240 c156.s4.fst.bd.snd.els.snd.els.snd.els.snd.els.snd.els.snd.els.snd.els).1 ((rk P0 c 240 c156.s5).1 k156 [] k156 gK) [(0,((rk P0 c 240 c156.s5).1 k156 [] k156 gK))] k156 gK = L7 (S156_16 c) 0 4 5 6 7 8 9 := Eq.trans (seq_t (by kernel_rfl) (TS156_15 c) rfl) (by funext s h; kernel_rfl)
noncomputable def S156_17 (c : CF) (t0 t4 t5 t6 t7 t8 t9 t181 : AV) (h : Heap) : Res := test t181 (opt (fieldAddrX 0 t5) fun t185 => optH (storeX 1 t185 (iL 6) h) fun h1 => opt (fieldAddrX 2 t5) fun t187 => optH (storeX 1 t187 t7 h1) fun h2 => opt2 (c 195 [t0,t9] h2) fun t190 h3 => opt (fieldAddrX 6 t5) fun t191 => optH (storeX 1 t191 t190 h3) fun h4 => opt (loadX (some 9) t5 h4) fun t239 => optH (storeX 9 t6 t239 h4) fun h5 => opt (loadX (some 9) t6 h5) fun res => some (res,h5)) (S156_16 c t0 t4 t5 t6 t7 t8 t9 h)
theorem TS156_17 (c : CF) : (rk P0 c 240 c156.s4.fst.bd.snd.els.snd.els.snd.els.snd.els.snd.els.snd.els.snd).1 ((rk P0 c 240 c156.s5).1 k156 [] k156 gK) [(0,((rk P0 c 240 c156.s5).1 k156 [] k156 gK))] k156 gK = L8 (S156_17 c) 0 4 5 6 7 8 9 181 := Eq.trans (cond_t (by kernel_rfl) rfl (TS156_16 c)) (by funext s h; kernel_rfl)
noncomputable def S156_18 (c : CF) (t0 t4 t5 t6 t8 t9 : AV) (h : Heap) : Res := opt (fastBin .lss t8 (iL 2)) fun t163 => test t163 (opt (fieldAddrX 1 t4) fun t165 => opt (loadX none t165 h) fun t166 => opt2 (c 47 [t0,(iL 12),t166] h) fun t167 h1 => opt (loadX (some 9) t5 h1) fun t168 => optH (storeX 9 t6 t168 h1) fun h2 => opt (loadX (some 9) t6 h2) fun res => some (res,h2)) (S156_8 c t0 t4 t5 t6 t8 t9 h)
theorem TS156_18 (c : CF) : (rk P0 c 240 c156.s4.fst.bd.snd.els.snd.els.snd.els.snd.els.snd.els.snd.thn).1 ((rk P0 c 240 c156.s5).1 k156 [] k156 gK) [(0,((rk P0 c 240 c156.s5).1 k156 [] k156 gK))] k156 gK = L6 (S156_18 c) 0 4 5 6 8 9 := Eq.trans (seq_t (by kernel_rfl) (TS156_8 c) rfl) (by funext s h; kernel_rfl)
noncomputable def S156_19 (c : CF) (t0 t4 t5 t6 t7 t8 t9 : AV) (h : Heap) : Res := opt2 (c 197 [t7] h) fun t183 h1 => opt (fastBin .geq t183 (iL 0)) fun t184 => S156_17 c t0 t4 t5 t6 t7 t8 t9 t184 h1
theorem TS156_19 (c : CF) : (rk P0 c 240 c156.s4.fst.bd.snd.els.snd.els.snd.els.snd.els.snd.els.snd.els).1 ((rk P0 c 240 c156.s5).1 k156 [] k156 gK) [(0,((rk P0 c 240 c156.s5).1 k156 [] k156 gK))] k156 gK = L7 (S156_19 c) 0 4 5 6 7 8 9 := Eq.trans (seq_t (by kernel_rfl) (TS156_17 c) rfl) (by funext s h; kernel_rfl)
noncomputable def S156_20 (c : CF) (t0 t4 t5 t6 t7 t8 t9 t159 : AV) (h : Heap) : Res := test t159 (S156_18 c t0 t4 t5 t6 t8 t9 h) (S156_19 c t0 t4 t5 t6 t7 t8 t9 h)
theorem TS156_20 (c : CF) : (rk P0 c 240 c156.s4.fst.bd.snd.els.snd.els.snd.els.snd.els.snd.els.snd).1 ((rk P0 c 240 c156.s5).1 k156 [] k156 gK) [(0,((rk P0 c 240 c156.s5).1 k156 [] k156 gK))] k156 gK = L8 (S156_20 c) 0 4 5 6 7 8 9 159 := Eq.trans (cond_t (by kernel_rfl) (TS156_18 c) (TS156_19 c)) (by funext s h; kernel_rfl)
noncomputable def S156_21 (c : CF) (t0 t4 t5 t6 t8 : AV) (h : Heap) : Res := opt (fastBin .neq t8 (iL 4)) fun t113 => test t113 (S156_6 c t0 t4 t5 t6 tL h) (opt (fieldAddrX 3 t4) fun t115 => opt (loadX none t115 h) fun t116 => opt (indexAddrS 4 t116 (iL 1) h) fun t117 => opt (loadX (some 4) t117 h) fun t118 => opt2 (c 44 [t118] h) fun t119 h1 => opt (notX t119) fun t120 => S156_6 c t0 t4 t5 t6 t120 h1)
theorem TS156_21 (c : CF) : (rk P0 c 240 c156.s4.fst.bd.snd.els.snd.els.snd.els.snd.els.snd.thn).1 ((rk P0 c 240 c156.s5).1 k156 [] k156 gK) [(0,((rk P0 c 240 c156.s5).1 k156 [] k156 gK))] k156 gK = L5 (S156_21 c) 0 4 5 6 8 := Eq.trans (seq_t (by kernel_rfl) (TS156_5 c) (seq_t (by kernel_rfl) (TS156_6 c) rfl)) (by funext s h; kernel_rfl)
noncomputable def S156_22 (c : CF) (t0 t4 t5 t6 t7 t8 t9 : AV) (h : Heap) : Res := opt (fastBin .eql t7 (sL [99,97,108,108])) fun t161 => S156_20 c t0 t4 t5 t6 t7 t8 t9 t161 h
theorem TS156_22 (c : CF) : (rk P0 c 240 c156.s4.fst.bd.snd.els.snd.els.snd.els.snd.els.snd.els).1 ((rk P0 c 240 c156.s5).1 k156 [] k156 gK) [(0,((rk P0 c 240 c156.s5).1 k156 [] k156 gK))] k156 gK = L7 (S156_22 c) 0 4 5 6 7 8 9 := Eq.trans (seq_t (by kernel_rfl) (TS156_20 c) rfl) (by funext s h; kernel_rfl)
noncomputable def S156_23 (c : CF) (t0 t4 t5 t6 t7 t8 t9 t109 : AV) (h : Heap) : Res := test t109 (S156_21 c t0 t4 t5 t6 t8 h) (S156_22 c t0 t4 t5 t6 t7 t8 t9 h)
theorem TS156_23 (c : CF) : (rk P0 c 240 c156.s4.fst.bd.snd.els.snd.els.snd.els.snd.els.snd).1 ((rk P0 c 240 c156.s5).1 k156 [] k156 gK) [(0,((rk P0 c 240 c156.s5).1 k156 [] k156 gK))] k156 gK = L8 (S156_23 c) 0 4 5 6 7 8 9 109 := Eq.trans (cond_t (by kernel_rfl) (TS156_21 c) (TS156_22 c)) (by funext s h; kernel_rfl)
noncomputable def S156_24 (c : CF) (t0 t4 t5 t6 t7 t8 t9 : AV) (h : Heap) : Res := opt (fastBin .eql t7 (sL [102,110])) fun t111 => S156_23 c t0 t4 t5 t6 t7 t8 t9 t111 h
theorem TS156_24 (c : CF) : (rk P0 c 240 c156.s4.fst.bd.snd.els.snd.els.snd.els.snd.els).1 ((rk P0 c 240 c156.s5).1 k156 [] k156 gK) [(0,((rk P0 c 240 c156.s5).1 k156 [] k156 gK))] k156 gK = L7 (S156_24 c) 0 4 5 6 7 8 9 := Eq.trans (seq_t (by kernel_rfl) (TS156_23 c) rfl) (by funext s h; kernel_rfl)
noncomputable def S156_25 (c : CF) (t0 t4 t5 t6 t7 t8 t9 t102 : AV) (h : Heap) : Res := test t102 (opt (loadX (some 4) t4 h) fun t106 => opt (loadX (some 9) t5 h) fun t107 => opt2 (c 196 [t0,t106,t107] h) fun t108 h1 => optH (storeX 9 t6 t108 h1) fun h2 => opt (loadX (some 9) t6 h2) fun res => some (res,h2)) (S156_24 c t0 t4 t5 t6 t7 t8 t9 h)
theorem TS156_25 (c : CF) : (rk P0 c 240 c156.s4.fst.bd.snd.els.snd.els.snd.els.snd).1 ((rk P0 c 240 c156.s5).1 k156 [] k156 gK) [(0,((rk P0 c 240 c156.s5).1 k156 [] k156 gK))] k156 gK = L8 (S156_25 c) 0 4 5 6 7 8 9 102 := Eq.trans (cond_t (by kernel_rfl) rfl (TS156_24 c)) (by funext s h; kernel_rfl)
noncomputable def S156_26 (c : CF) (t0 t4 t5 t6 t8 : AV) (h : Heap) : Res := opt (fastBin .lss t8 (iL 2)) fun t76 => test t76 (opt (fieldAddrX 1 t4) fun t78 => opt (loadX none t78 h) fun t79 => opt2 (c 47 [t0,(iL 12),t79] h) fun t80 h1 => opt (loadX (some 9) t5 h1) fun t81 => optH (storeX 9 t6 t81 h1) fun h2 => opt (loadX (some 9) t6 h2) fun res => some (res,h2)) (S156_3 c t0 t4 t5 t6 t8 h)
theorem TS156_26 (c : CF) : (rk P0 c 240 c156.s4.fst.bd.snd.els.snd.els.snd.thn).1 ((rk P0 c 240 c156.s5).1 k156 [] k156 gK) [(0,((rk P0 c 240 c156.s5).1 k156 [] k156 gK))] k156 gK = L5 (S156_26 c) 0 4 5 6 8 := Eq.trans (seq_t (by kernel_rfl) (TS156_3 c) rfl) (by funext s h; kernel_rfl)
noncomputable def S156_27 (c : CF) (t0 t4 t5 t6 t7 t8 t9 : AV) (h : Heap) : Res := opt (fastBin .eql t7 (sL [109,97,116,99,104])) fun t104 => S156_25 c t0 t4 t5 t6 t7 t8 t9 t104 h
theorem TS156_27 (c : CF) : (rk P0 c 240 c156.s4.fst.bd.snd.els.snd.els.snd.els).1 ((rk P0 c 240 c156.s5).1 k156 [] k156 gK) [(0,((rk P0 c 240 c156.s5).1 k156 [] k156 gK))] k156 gK = L7 (S156_27 c) 0 4 5 6 7 8 9 := Eq.trans (seq_t (by kernel_rfl) (TS156_25 c) rfl) (by funext s h; kernel_rfl)
noncomputable def S156_28 (c : CF) (t0 t4 t5 t6 t7 t8 t9 t72 : AV) (h : Heap) : Res := test t72 (S156_26 c t0 t4 t5 t6 t8 h) (S156_27 c t0 t4 t5 t6 t7 t8 t9 h)
theorem TS156_28 (c : CF) : (rk P0 c 240 c156.s4.fst.bd.snd.els.snd.els.snd).1 ((rk P0 c 240 c156.s5).1 k156 [] k156 gK) [(0,((rk P0 c 240 c156.s5).1 k156 [] k156 gK))] k156 gK = L8 (S156_28 c) 0 4 5 6 7 8 9 72 := Eq.trans (cond_t (by kernel_rfl) (TS156_26 c) (TS156_27 c)) (by funext s h; kernel_rfl)
noncomputable def S156_29 (c : CF) (t0 t4 t5 t6 t7 t8 t9 : AV) (h : Heap) : Res := opt (fastBin .eql t7 (sL [97,114,114,97,121])) fun t74 => S156_28 c t0 t4 t5 t6 t7 t8 t9 t74 h
theorem TS156_29 (c : CF) : (rk P0 c 240 c156.s4.fst.bd.snd.els.snd.els).1 ((rk P0 c 240 c156.s5).1 k156 [] k156 gK) [(0,((rk P0 c 240 c156.s5).1 k156 [] k156 gK))] k156 gK = L7 (S156_29 c) 0 4 5 6 7 8 9 := Eq.trans (seq_t (by kernel_rfl) (TS156_28 c) rfl) (by funext s h; kernel_rfl)
noncomputable def S156_30 (c : CF) (t0 t4 t5 t6 t7 t8 t9 t57 : AV) (h : Heap) : Res := test t57 (opt (fastBin .neq t8 (iL 4)) fun t61 => test t61 (opt (fieldAddrX 1 t4) fun t63 => opt (loadX none t63 h) fun t64 => opt2 (c 47 [t0,(iL 12),t64] h) fun t65 h1 => opt (loadX (some 9) t5 h1) fun t66 => optH (storeX 9 t6 t66 h1) fun h2 => opt (loadX (some 9) t6 h2) fun res => some (res,h2)) (opt (fieldAddrX 0 t5) fun t67 => optH (storeX 1 t67 (iL 5) h) fun h3 => opt2 (c 195 [t0,t9] h3) fun t70 h4 => opt (fieldAddrX 6 t5) fun t71 => optH (storeX 1 t71 t70 h4) fun h5 => opt (loadX (some 9) t5 h5) fun t239 => optH (storeX 9 t6 t239 h5) fun h6 => opt (loadX (some 9) t6 h6) fun res_1 => some (res_1,h6))) (S156_29 c t0 t4 t5 t6 t7 t8 t9 h)
theorem TS156_30 (c : CF) : (rk P0 c 240 c156.s4.fst.bd.snd.els.snd).1 ((rk P0 c 240 c156.s5).1 k156 [] k156 gK) [(0,((rk P0 c 240 c156.s5).1 k156 [] k156 gK))] k156 gK = L8 (S156_30 c) 0 4 5 6 7 8 9 57 := Eq.trans (cond_t (by kernel_rfl) rfl (TS156_29 c)) (by funext s h; kernel_rfl)
noncomputable def S156_31 (c : CF) (t0 t4 t5 t6 t8 : AV) (h : Heap) : Res := opt (fastBin .neq t8 (iL 4)) fun t29 => test t29 (S156_1 c t0 t4 t5 t6 tL h) (opt (fieldAddrX 3 t4) fun t31 => opt (loadX none t31 h) fun t32 => opt (indexAddrS 4 t32 (iL 1) h) fun t33 => opt (loadX (some 4) t33 h) fun t34 => opt2 (c 45 [t34] h) fun t35 h1 => opt (notX t35) fun t36 => S156_1 c t0 t4 t5 t6 t36 h1)
theorem TS156_31 (c : CF) : (rk P0 c 240 c156.s4.fst.bd.snd.thn).1 ((rk P0 c 240 c156.s5).1 k156 [] k156 gK) [(0,((rk P0 c 240 c156.s5).1 k156 [] k156 gK))] k156 gK = L5 (S156_31 c) 0 4 5 6 8 := Eq.trans (seq_t (by kernel_rfl) (TS156_0 c) (seq_t (by kernel_rfl) (TS156_1 c) rfl)) (by funext s h; kernel_rfl)
noncomputable def S156_32 (c : CF) (t0 t4 t5 t6 t7 t8 t9 : AV) (h : Heap) : Res := opt (fastBin .eql t7 (sL [105,102])) fun t59 => S156_30 c t0 t4 t5 t6 t7 t8 t9 t59 h
theorem TS156_32 (c : CF) : (rk P0 c 240 c156.s4.fst.bd.snd.els).1 ((rk P0 c 240 c156.s5).1 k156 [] k156 gK) [(0,((rk P0 c 240 c156.s5).1 k156 [] k156 gK))] k156 gK = L7 (S156_32 c) 0 4 5 6 7 8 9 := Eq.trans (seq_t (by kernel_rfl) (TS156_30 c) rfl) (by funext s h; kernel_rfl)
noncomputable def S156_33 (c : CF) (t0 t4 t5 t6 t7 t8 t9 t25 : AV) (h : Heap) : Res := test t25 (S156_31 c t0 t4 t5 t6 t8 h) (S156_32 c t0 t4 t5 t6 t7 t8 t9 h)
theorem TS156_33 (c : CF) : (rk P0 c 240 c156.s4.fst.bd.snd).1 ((rk P0 c 240 c156.s5).1 k156 [] k156 gK) [(0,((rk P0 c 240 c156.s5).1 k156 [] k156 gK))] k156 gK = L8 (S156_33 c) 0 4 5 6 7 8 9 25 := Eq.trans (cond_t (by kernel_rfl) (TS156_31 c) (TS156_32 c)) (by funext s h; kernel_rfl)
noncomputable def S156_34 (c : CF) (t0 t4 t5 t6 t7 t8 t9 : AV) (h : Heap) : Res := opt (fastBin .eql t7 (sL [108,101,116])) fun t27 => S156_33 c t0 t4 t5 t6 t7 t8 t9 t27 h
theorem TS156_34 (c : CF) : (rk P0 c 240 c156.s4).1 k156 [] k156 gK = L7 (S156_34 c) 0 4 5 6 7 8 9 := Eq.trans (seq_t (by kernel_rfl) rfl (block_t (id := 0) (by kernel_rfl) (seq_t (by kernel_rfl) (TS156_33 c) rfl))) (by funext s h; kernel_rfl)
noncomputable def S156_35 (c : CF) (t0 t4 t5 t6 t7 t8 : AV) (h : Heap) : Res := opt (fieldAddrX 3 t4) fun t18 => opt (loadX none t18 h) fun t19 => opt (cutZ 4 t19 (some (iL 1)) none none h) fun t20 => S156_34 c t0 t4 t5 t6 t7 t8 t20 h
theorem TS156_35 (c : CF) : (rk P0 c 240 c156.s3).1 k156 [] k156 gK = L6 (S156_35 c) 0 4 5 6 7 8 := Eq.trans (seq_t (by kernel_rfl) (TS156_34 c) rfl) (by funext s h; kernel_rfl)
noncomputable def S156_36 (c : CF) (t0 t4 t5 t6 t7 : AV) (h : Heap) : Res := opt (fieldAddrX 3 t4) fun t15 => opt (loadX none t15 h) fun t16 => opt (lenS t16) fun t17 => S156_35 c t0 t4 t5 t6 t7 t17 h
theorem TS156_36 (c : CF) : (rk P0 c 240 c156.s2).1 k156 [] k156 gK = L5 (S156_36 c) 0 4 5 6 7 := Eq.trans (seq_t (by kernel_rfl) (TS156_35 c) rfl) (by funext s h; kernel_rfl)
noncomputable def S156_37 (c : CF) (t0 t4 t5 t6 : AV) (h : Heap) : Res := opt (fieldAddrX 3 t4) fun t10 => opt (loadX none t10 h) fun t11 => opt (indexAddrS 4 t11 (iL 0) h) fun t12 => opt (fieldAddrX 2 t12) fun t13 => opt (loadX none t13 h) fun t14 => S156_36 c t0 t4 t5 t6 t14 h
theorem TS156_37 (c : CF) : (rk P0 c 240 c156.snd).1 k156 [] k156 gK = L4 (S156_37 c) 0 4 5 6 := Eq.trans (seq_t (by kernel_rfl) (TS156_36 c) rfl) (by funext s h; kernel_rfl)
noncomputable def F156 (c : CF) (a0 a1 a2 : AV) (h : Heap) : Res := opt2 (box a1 h) fun t4 h1 => opt2 (box a2 h1) fun t5 h2 => opt2 (box (.agg [(iL 0),(iL 0),eL,cL,eL,eL,nL,nL,nL]) h2) fun t6 h3 => S156_37 c a0 t4 t5 t6 h3
theorem TF156 (c : CF) (a0 a1 a2 : AV) (h : Heap) : (rk P0 c 240 c156).1 k156 [] k156 gK (argsTr gl 0 [a0,a1,a2]) h = F156 c a0 a1 a2 h := Eq.trans (congrFun (congrFun (seq_t (by kernel_rfl) (TS156_37 c) rfl) _) _) (by kernel_rfl)
noncomputable def N156 : FnF := n3 F156
theorem N156_ok : FnOk P0 gl 156 N156 := n3_ok namesOk mixedOrders lowOk Tryz.func156 (by kernel_rfl) (by kernel_rfl) (by kernel_rfl) TF156
noncomputable def c157 : Code := codeOf Tryz.f157
noncomputable def k157 : Kt := finK P0 Tryz.f157.results.toList
noncomputable def S157_1 (c : CF) (r0 : A5) (t0 t1 t2 t3 t8 : AV) (h : Heap) : Res := opt (fastBin .add t8 (iL 1)) fun t16 => r0 t0 t1 t2 t3 t16 h
theorem TS157_1 (c : CF) (r0 : A5) : (rk P0 c 53 c157.snd.bd.bd.s2).1 (L5 r0 0 1 2 3 8) [(0,k157)] k157 gK = L5 (S157_1 c r0) 0 1 2 3 8 := by funext s h; kernel_rfl
noncomputable def S157_3 (c : CF) (r0 : A5) (r2 : A6) (t0 t1 t2 t3 t8 t9 : AV) (h : Heap) : Res := opt (fastBin .sub t9 (iL 1)) fun t41 => opt (fastBin .sub t9 (iL 1)) fun t44 => opt (indexAddrS 4 t0 t44 h) fun t45 => eqH h h (opt (loadX (some 4) t45 h) fun t46 => eqH h h (opt (indexAddrS 4 t0 t9 h) fun t49 => eqH h h (opt (loadX (some 4) t49 h) fun t50 => eqH h h (opt (indexAddrS 4 t0 t9 h) fun t51 => eqH h h (optH (storeX 4 t51 t46 h) fun h1 => opt (indexAddrS 4 t0 t41 h1) fun t52 => eqH h1 h1 (optH (storeX 4 t52 t50 h1) fun h2 => opt (fastBin .sub t9 (iL 1)) fun t36 => r2 t0 t1 t2 t3 t8 t36 h2))))))
theorem TS157_3 (c : CF) (r0 : A5) (r2 : A6) : (rk P0 c 53 c157.snd.bd.bd.snd.fst.bd.snd.bd.bd.snd).1 (L6 r2 0 1 2 3 8 9) [(2,(L5 (S157_1 c r0) 0 1 2 3 8)),(1,(L5 (S157_1 c r0) 0 1 2 3 8)),(0,k157)] k157 gK = L6 (S157_3 c r0 r2) 0 1 2 3 8 9 := by funext s h; kernel_rfl
noncomputable def S157_4b (c : CF) (r0 : A5) (r2 : A6) (t0 t1 t2 t3 t8 t9 : AV) (h : Heap) : Res := opt (fastBin .gtr t9 t1) fun t20 => test t20 (opt (indexAddrS 4 t0 t9 h) fun t25 => eqH h h (opt (loadX (some 4) t25 h) fun t26 => eqH h h (opt (fastBin .sub t9 (iL 1)) fun t29 => opt (indexAddrS 4 t0 t29 h) fun t30 => eqH h h (opt (loadX (some 4) t30 h) fun t31 => eqH h h (opt2 (callV P0 c t3 [t26,t31] h) fun t32 h1 => eqH h1 h (opt (fastBin .lss t32 (iL 0)) fun t33 => test t33 (S157_3 c r0 r2 t0 t1 t2 t3 t8 t9 h) (S157_1 c r0 t0 t1 t2 t3 t8 h))))))) (S157_1 c r0 t0 t1 t2 t3 t8 h)
theorem TS157_4b (c : CF) (r0 : A5) (r2 : A6) : (rk P0 c 53 c157.snd.bd.bd.snd.fst.bd.snd.bd.bd).1 (L6 r2 0 1 2 3 8 9) [(2,(L5 (S157_1 c r0) 0 1 2 3 8)),(1,(L5 (S157_1 c r0) 0 1 2 3 8)),(0,k157)] k157 gK = L6 (S157_4b c r0 r2) 0 1 2 3 8 9 := Eq.trans (seq_t (by kernel_rfl) (TS157_3 c r0 r2) rfl) (by funext s h; kernel_rfl)
noncomputable def S157_2l (c : CF) (r0 : A5) : Nat → A6
  | 0 => fun _ _ _ _ _ _ _ => none
  | k + 1 => S157_4b c r0 (S157_2l c r0 k)
theorem TS157_2l (c : CF) (r0 : A5) : (rk P0 c 53 c157.snd.bd.bd.snd.fst.bd.snd.bd).1 (L5 (S157_1 c r0) 0 1 2 3 8) [(2,(L5 (S157_1 c r0) 0 1 2 3 8)),(1,(L5 (S157_1 c r0) 0 1 2 3 8)),(0,k157)] k157 gK = L6 (S157_2l c r0 rounds) 0 1 2 3 8 9 := loop_t (by kernel_rfl) (loop_ind (A := fun m => L6 (S157_2l c r0 m) 0 1 2 3 8 9) rfl (fun m => TS157_4b c r0 (S157_2l c r0 m)) rounds)
noncomputable def S157_5 (c : CF) (r0 : A5) (t0 t1 t2 t3 t8 t9 : AV) (h : Heap) : Res := S157_2l c r0 rounds t0 t1 t2 t3 t8 t9 h
theorem TS157_5 (c : CF) (r0 : A5) : (rk P0 c 53 c157.snd.bd.bd.snd.fst.bd.snd).1 (L5 (S157_1 c r0) 0 1 2 3 8) [(1,(L5 (S157_1 c r0) 0 1 2 3 8)),(0,k157)] k157 gK = L6 (S157_5 c r0) 0 1 2 3 8 9 := Eq.trans (block_t (id := 2) (by kernel_rfl) (TS157_2l c r0)) (by funext s h; kernel_rfl)
noncomputable def S157_6 (c : CF) (r0 : A5) (t0 t1 t2 t3 t8 : AV) (h : Heap) : Res := S157_5 c r0 t0 t1 t2 t3 t8 t8 h
theorem TS157_6 (c : CF) (r0 : A5) : (rk P0 c 53 c157.snd.bd.bd.snd).1 (L5 r0 0 1 2 3 8) [(0,k157)] k157 gK = L5 (S157_6 c r0) 0 1 2 3 8 := Eq.trans (seq_t (by kernel_rfl) (TS157_1 c r0) (block_t (id := 1) (by kernel_rfl) (seq_t (by kernel_rfl) (TS157_5 c r0) rfl))) (by funext s h; kernel_rfl)
noncomputable def S157_7b (c : CF) (r0 : A5) (t0 t1 t2 t3 t8 : AV) (h : Heap) : Res := opt (fastBin .lss t8 t2) fun t14 => test t14 (S157_6 c r0 t0 t1 t2 t3 t8 h) (some ((.lit (.tuple #[])),h))
theorem TS157_7b (c : CF) (r0 : A5) : (rk P0 c 53 c157.snd.bd.bd).1 (L5 r0 0 1 2 3 8) [(0,k157)] k157 gK = L5 (S157_7b c r0) 0 1 2 3 8 := Eq.trans (seq_t (by kernel_rfl) (TS157_6 c r0) rfl) (by funext s h; kernel_rfl)
noncomputable def S157_0l (c : CF) : Nat → A5
  | 0 => fun _ _ _ _ _ _ => none
  | k + 1 => S157_7b c (S157_0l c k)
theorem TS157_0l (c : CF) : (rk P0 c 53 c157.snd.bd).1 k157 [(0,k157)] k157 gK = L5 (S157_0l c rounds) 0 1 2 3 8 := loop_t (by kernel_rfl) (loop_ind (A := fun m => L5 (S157_0l c m) 0 1 2 3 8) rfl (fun m => TS157_7b c (S157_0l c m)) rounds)
noncomputable def S157_8 (c : CF) (t0 t1 t2 t3 t8 : AV) (h : Heap) : Res := S157_0l c rounds t0 t1 t2 t3 t8 h
theorem TS157_8 (c : CF) : (rk P0 c 53 c157.snd).1 k157 [] k157 gK = L5 (S157_8 c) 0 1 2 3 8 := Eq.trans (block_t (id := 0) (by kernel_rfl) (TS157_0l c)) (by funext s h; kernel_rfl)
noncomputable def F157 (c : CF) (a0 a1 a2 a3 : AV) (h : Heap) : Res := opt (fastBin .add a1 (iL 1)) fun t11 => S157_8 c a0 a1 a2 a3 t11 h
theorem TF157 (c : CF) (a0 a1 a2 a3 : AV) (h : Heap) : (rk P0 c 53 c157).1 k157 [] k157 gK (argsTr gl 0 [a0,a1,a2,a3]) h = F157 c a0 a1 a2 a3 h := Eq.trans (congrFun (congrFun (seq_t (by kernel_rfl) (TS157_8 c) rfl) _) _) (by kernel_rfl)
noncomputable def N157 : FnF := n4 F157
theorem N157_ok : FnOk P0 gl 157 N157 := n4_ok namesOk mixedOrders lowOk Tryz.func157 (by kernel_rfl) (by kernel_rfl) (by kernel_rfl) TF157
noncomputable def c166 : Code := codeOf Tryz.f166
noncomputable def k166 : Kt := finK P0 Tryz.f166.results.toList
noncomputable def S166_0 (c : CF) (t0 t2 : AV) (h : Heap) : Res := opt (convI .u8 t0) fun t21 => opt (fastIndex (sL [0,1,2,2,3,3,3,3,4,4,4,4,4,4,4,4,5,5,5,5,5,5,5,5,5,5,5,5,5,5,5,5,6,6,6,6,6,6,6,6,6,6,6,6,6,6,6,6,6,6,6,6,6,6,6,6,6,6,6,6,6,6,6,6,7,7,7,7,7,7,7,7,7,7,7,7,7,7,7,7,7,7,7,7,7,7,7,7,7,7,7,7,7,7,7,7,7,7,7,7,7,7,7,7,7,7,7,7,7,7,7,7,7,7,7,7,7,7,7,7,7,7,7,7,7,7,7,7,8,8,8,8,8,8,8,8,8,8,8,8,8,8,8,8,8,8,8,8,8,8,8,8,8,8,8,8,8,8,8,8,8,8,8,8,8,8,8,8,8,8,8,8,8,8,8,8,8,8,8,8,8,8,8,8,8,8,8,8,8,8,8,8,8,8,8,8,8,8,8,8,8,8,8,8,8,8,8,8,8,8,8,8,8,8,8,8,8,8,8,8,8,8,8,8,8,8,8,8,8,8,8,8,8,8,8,8,8,8,8,8,8,8,8,8,8,8,8,8,8,8,8,8,8,8,8,8]) t21) fun t22 => opt (convI .i64 t22) fun t23 => opt (fastBin .add t2 t23) fun t24 => some (t24,h)
theorem TS166_0 (c : CF) : (rk P0 c 25 c166.s4).1 k166 [] k166 gK = L2 (S166_0 c) 0 2 := by funext s h; kernel_rfl
noncomputable def S166_1 (c : CF) (t0 t2 : AV) (h : Heap) : Res := opt (fastBin .geq t0 (.lit (.int .u64 256))) fun t14 => test t14 (opt (binX P0 .none .shr 236 t0 (.lit (.int .u64 8))) fun t16 => opt (fastBin .add t2 (iL 8)) fun t18 => S166_0 c t16 t18 h) (S166_0 c t0 t2 h)
theorem TS166_1 (c : CF) : (rk P0 c 25 c166.s3).1 k166 [] k166 gK = L2 (S166_1 c) 0 2 := Eq.trans (seq_t (by kernel_rfl) (TS166_0 c) rfl) (by funext s h; kernel_rfl)
noncomputable def S166_2 (c : CF) (t0 t2 : AV) (h : Heap) : Res := opt (fastBin .geq t0 (.lit (.int .u64 65536))) fun t8 => test t8 (opt (binX P0 .none .shr 236 t0 (.lit (.int .u64 16))) fun t10 => opt (fastBin .add t2 (iL 16)) fun t12 => S166_1 c t10 t12 h) (S166_1 c t0 t2 h)
theorem TS166_2 (c : CF) : (rk P0 c 25 c166.s2).1 k166 [] k166 gK = L2 (S166_2 c) 0 2 := Eq.trans (seq_t (by kernel_rfl) (TS166_1 c) rfl) (by funext s h; kernel_rfl)
noncomputable def S166_3 (c : CF) (t0 t2 : AV) (h : Heap) : Res := opt (fastBin .geq t0 (.lit (.int .u64 4294967296))) fun t4 => test t4 (opt (binX P0 .none .shr 236 t0 (.lit (.int .u64 32))) fun t6 => S166_2 c t6 (iL 32) h) (S166_2 c t0 t2 h)
theorem TS166_3 (c : CF) : (rk P0 c 25 c166.snd).1 k166 [] k166 gK = L2 (S166_3 c) 0 2 := Eq.trans (seq_t (by kernel_rfl) (TS166_2 c) rfl) (by funext s h; kernel_rfl)
noncomputable def F166 (c : CF) (a0 : AV) (h : Heap) : Res := S166_3 c a0 (iL 0) h
theorem TF166 (c : CF) (a0 : AV) (h : Heap) : (rk P0 c 25 c166).1 k166 [] k166 gK (argsTr gl 0 [a0]) h = F166 c a0 h := Eq.trans (congrFun (congrFun (seq_t (by kernel_rfl) (TS166_3 c) rfl) _) _) (by kernel_rfl)
noncomputable def N166 : FnF := n1 F166
theorem N166_ok : FnOk P0 gl 166 N166 := n1_ok namesOk mixedOrders lowOk Tryz.func166 (by kernel_rfl) (by kernel_rfl) (by kernel_rfl) TF166
noncomputable def c170 : Code := codeOf Tryz.f170
noncomputable def k170 : Kt := finK P0 Tryz.f170.results.toList
noncomputable def F170 (c : CF) (a0 : AV) (h : Heap) : Res := opt2 (c 114 [a0] h) fun t6 h1 => opt (notX t6) fun t7 => test t7 (some ((iL 0),h1)) (opt2 (c 171 [a0] h1) fun t10 h2 => opt (extractX t10 0) fun t11 => opt (extractX t10 1) fun t12 => some (t12,h2))
theorem TF170 (c : CF) (a0 : AV) (h : Heap) : (rk P0 c 14 c170).1 k170 [] k170 gK (argsTr gl 0 [a0]) h = F170 c a0 h := by kernel_rfl
noncomputable def N170 : FnF := n1 F170
theorem N170_ok : FnOk P0 gl 170 N170 := n1_ok namesOk mixedOrders lowOk Tryz.func170 (by kernel_rfl) (by kernel_rfl) (by kernel_rfl) TF170
noncomputable def c171 : Code := codeOf Tryz.f171
noncomputable def k171 : Kt := finK P0 Tryz.f171.results.toList
noncomputable def S171_0 (c : CF) (t0 t7 t8 : AV) (h : Heap) : Res := opt (fastBin .add t7 (iL 1)) fun t115 => opt (fastCut t0 (some t115) (some t8) none) fun t117 => opt2 (c 97 [t117] h) fun t118 h1 => opt (notX t118) fun t119 => test t119 (some ((.tup [(iL 0),(iL 0)]),h1)) (some ((.tup [t8,(iL 4)]),h1))
theorem TS171_0 (c : CF) : (rk P0 c 121 c171.s9.s2).1 k171 [] k171 gK = L3 (S171_0 c) 0 7 8 := by funext s h; kernel_rfl
noncomputable def S171_2 (c : CF) (r1 : A3) (t0 t7 t8 : AV) (h : Heap) : Res := opt (fastBin .add t8 (iL 1)) fun t112 => r1 t0 t7 t112 h
theorem TS171_2 (c : CF) (r1 : A3) : (rk P0 c 121 c171.s9.snd.fst.bd.bd.snd).1 (L3 r1 0 7 8) [(2,(L3 (S171_0 c) 0 7 8))] k171 gK = L3 (S171_2 c r1) 0 7 8 := by funext s h; kernel_rfl
noncomputable def S171_3b (c : CF) (r1 : A3) (t0 t7 t8 : AV) (h : Heap) : Res := opt (lenStr t0) fun t103 => opt (fastBin .lss t8 t103) fun t104 => test t104 (opt (fastIndex t0 t8) fun t108 => opt2 (c 206 [t108] h) fun t109 h1 => test t109 (S171_2 c r1 t0 t7 t8 h1) (S171_0 c t0 t7 t8 h1)) (S171_0 c t0 t7 t8 h)
theorem TS171_3b (c : CF) (r1 : A3) : (rk P0 c 121 c171.s9.snd.fst.bd.bd).1 (L3 r1 0 7 8) [(2,(L3 (S171_0 c) 0 7 8))] k171 gK = L3 (S171_3b c r1) 0 7 8 := Eq.trans (seq_t (by kernel_rfl) (TS171_2 c r1) rfl) (by funext s h; kernel_rfl)
noncomputable def S171_1l (c : CF) : Nat → A3
  | 0 => fun _ _ _ _ => none
  | k + 1 => S171_3b c (S171_1l c k)
theorem TS171_1l (c : CF) : (rk P0 c 121 c171.s9.snd.fst.bd).1 (L3 (S171_0 c) 0 7 8) [(2,(L3 (S171_0 c) 0 7 8))] k171 gK = L3 (S171_1l c rounds) 0 7 8 := loop_t (by kernel_rfl) (loop_ind (A := fun m => L3 (S171_1l c m) 0 7 8) rfl (fun m => TS171_3b c (S171_1l c m)) rounds)
noncomputable def S171_4 (c : CF) (t0 t7 t8 : AV) (h : Heap) : Res := S171_1l c rounds t0 t7 t8 h
theorem TS171_4 (c : CF) : (rk P0 c 121 c171.s9.snd).1 k171 [] k171 gK = L3 (S171_4 c) 0 7 8 := Eq.trans (seq_t (by kernel_rfl) (TS171_0 c) (block_t (id := 2) (by kernel_rfl) (TS171_1l c))) (by funext s h; kernel_rfl)
noncomputable def S171_5 (c : CF) (t0 t7 : AV) (h : Heap) : Res := opt (fastBin .add t7 (iL 1)) fun t100 => S171_4 c t0 t7 t100 h
theorem TS171_5 (c : CF) : (rk P0 c 121 c171.s9).1 k171 [] k171 gK = L2 (S171_5 c) 0 7 := Eq.trans (seq_t (by kernel_rfl) (TS171_4 c) rfl) (by funext s h; kernel_rfl)
noncomputable def S171_6 (c : CF) (t0 t7 t98 : AV) (h : Heap) : Res := test t98 (some ((.tup [(iL 0),(iL 0)]),h)) (S171_5 c t0 t7 h)
theorem TS171_6 (c : CF) : (rk P0 c 121 c171.s8.fst.snd).1 (L2 (S171_5 c) 0 7) [] k171 gK = L3 (S171_6 c) 0 7 98 := by funext s h; kernel_rfl
noncomputable def S171_7 (c : CF) (t0 t7 : AV) (h : Heap) : Res := opt (fastCut t0 none (some t7) none) fun t84 => opt2 (c 46 [t84] h) fun t85 h1 => opt (notX t85) fun t86 => test t86 (S171_6 c t0 t7 tL h1) (opt (lenStr t0) fun t90 => opt (fastBin .geq t7 t90) fun t91 => test t91 (S171_6 c t0 t7 tL h1) (opt (fastIndex t0 t7) fun t96 => opt (fastBin .neq t96 (uL 46)) fun t97 => S171_6 c t0 t7 t97 h1))
theorem TS171_7 (c : CF) : (rk P0 c 121 c171.s8).1 k171 [] k171 gK = L2 (S171_7 c) 0 7 := Eq.trans (seq_t (by kernel_rfl) (TS171_5 c) (seq_t (by kernel_rfl) (TS171_6 c) rfl)) (by funext s h; kernel_rfl)
noncomputable def S171_9 (c : CF) (r8 : A2) (t0 t7 : AV) (h : Heap) : Res := opt (fastBin .add t7 (iL 1)) fun t81 => r8 t0 t81 h
theorem TS171_9 (c : CF) (r8 : A2) : (rk P0 c 121 c171.s7.fst.bd.bd.snd).1 (L2 r8 0 7) [(0,(L2 (S171_7 c) 0 7))] k171 gK = L2 (S171_9 c r8) 0 7 := by funext s h; kernel_rfl
noncomputable def S171_10b (c : CF) (r8 : A2) (t0 t7 : AV) (h : Heap) : Res := opt (lenStr t0) fun t72 => opt (fastBin .lss t7 t72) fun t73 => test t73 (opt (fastIndex t0 t7) fun t77 => opt2 (c 206 [t77] h) fun t78 h1 => test t78 (S171_9 c r8 t0 t7 h1) (S171_7 c t0 t7 h1)) (S171_7 c t0 t7 h)
theorem TS171_10b (c : CF) (r8 : A2) : (rk P0 c 121 c171.s7.fst.bd.bd).1 (L2 r8 0 7) [(0,(L2 (S171_7 c) 0 7))] k171 gK = L2 (S171_10b c r8) 0 7 := Eq.trans (seq_t (by kernel_rfl) (TS171_9 c r8) rfl) (by funext s h; kernel_rfl)
noncomputable def S171_8l (c : CF) : Nat → A2
  | 0 => fun _ _ _ => none
  | k + 1 => S171_10b c (S171_8l c k)
theorem TS171_8l (c : CF) : (rk P0 c 121 c171.s7.fst.bd).1 (L2 (S171_7 c) 0 7) [(0,(L2 (S171_7 c) 0 7))] k171 gK = L2 (S171_8l c rounds) 0 7 := loop_t (by kernel_rfl) (loop_ind (A := fun m => L2 (S171_8l c m) 0 7) rfl (fun m => TS171_10b c (S171_8l c m)) rounds)
noncomputable def S171_11 (c : CF) (t0 t7 : AV) (h : Heap) : Res := S171_8l c rounds t0 t7 h
theorem TS171_11 (c : CF) : (rk P0 c 121 c171.s7).1 k171 [] k171 gK = L2 (S171_11 c) 0 7 := Eq.trans (seq_t (by kernel_rfl) (TS171_7 c) (block_t (id := 0) (by kernel_rfl) (TS171_8l c))) (by funext s h; kernel_rfl)
noncomputable def S171_12 (c : CF) (t0 : AV) (h : Heap) : Res := S171_11 c t0 (iL 0) h
theorem TS171_12 (c : CF) : (rk P0 c 121 c171.s6).1 k171 [] k171 gK = L1 (S171_12 c) 0 := Eq.trans (seq_t (by kernel_rfl) (TS171_11 c) rfl) (by funext s h; kernel_rfl)
noncomputable def S171_13 (c : CF) (t0 : AV) (h : Heap) : Res := opt (fastIndex t0 (iL 0)) fun t65 => opt (fastBin .eql t65 (uL 40)) fun t66 => test t66 (opt2 (c 205 [t0] h) fun t68 h1 => some ((.tup [t68,(iL 3)]),h1)) (S171_12 c t0 h)
theorem TS171_13 (c : CF) : (rk P0 c 121 c171.s5).1 k171 [] k171 gK = L1 (S171_13 c) 0 := Eq.trans (seq_t (by kernel_rfl) (TS171_12 c) rfl) (by funext s h; kernel_rfl)
noncomputable def S171_14 (c : CF) (t4 : AV) (h : Heap) : Res := opt (fastBin .add t4 (iL 2)) fun t63 => some ((.tup [t63,(iL 2)]),h)
theorem TS171_14 (c : CF) : (rk P0 c 121 c171.s4.fst.snd.thn.s2).1 (L1 (S171_13 c) 0) [] k171 gK = L1 (S171_14 c) 4 := by funext s h; kernel_rfl
noncomputable def S171_15 (c : CF) (t4 t61 : AV) (h : Heap) : Res := test t61 (some ((.tup [(iL 0),(iL 0)]),h)) (S171_14 c t4 h)
theorem TS171_15 (c : CF) : (rk P0 c 121 c171.s4.fst.snd.thn.snd.fst.snd).1 (L1 (S171_14 c) 4) [] k171 gK = L2 (S171_15 c) 4 61 := by funext s h; kernel_rfl
noncomputable def S171_16 (c : CF) (t0 t4 : AV) (h : Heap) : Res := opt (fastBin .eql t4 (iL 0)) fun t47 => test t47 (S171_15 c t4 tL h) (opt (fastBin .add t4 (iL 1)) fun t50 => opt (lenStr t0) fun t52 => opt (fastBin .geq t50 t52) fun t53 => test t53 (S171_15 c t4 tL h) (opt (fastBin .add t4 (iL 1)) fun t58 => opt (fastIndex t0 t58) fun t59 => opt (fastBin .neq t59 (uL 93)) fun t60 => S171_15 c t4 t60 h))
theorem TS171_16 (c : CF) : (rk P0 c 121 c171.s4.fst.snd.thn.snd).1 (L1 (S171_13 c) 0) [] k171 gK = L2 (S171_16 c) 0 4 := Eq.trans (seq_t (by kernel_rfl) (TS171_14 c) (seq_t (by kernel_rfl) (TS171_15 c) rfl)) (by funext s h; kernel_rfl)
noncomputable def S171_17 (c : CF) (t0 : AV) (h : Heap) : Res := opt (fastCut t0 (some (iL 1)) none none) fun t42 => opt2 (c 171 [t42] h) fun t43 h1 => opt (extractX t43 0) fun t44 => opt (extractX t43 1) fun t45 => S171_16 c t0 t44 h1
theorem TS171_17 (c : CF) : (rk P0 c 121 c171.s4.fst.snd.thn).1 (L1 (S171_13 c) 0) [] k171 gK = L1 (S171_17 c) 0 := Eq.trans (seq_t (by kernel_rfl) (TS171_16 c) rfl) (by funext s h; kernel_rfl)
noncomputable def S171_18 (c : CF) (t0 t39 : AV) (h : Heap) : Res := test t39 (S171_17 c t0 h) (S171_13 c t0 h)
theorem TS171_18 (c : CF) : (rk P0 c 121 c171.s4.fst.snd).1 (L1 (S171_13 c) 0) [] k171 gK = L2 (S171_18 c) 0 39 := Eq.trans (cond_t (by kernel_rfl) (TS171_17 c) rfl) (by funext s h; kernel_rfl)
noncomputable def S171_19 (c : CF) (t0 : AV) (h : Heap) : Res := opt (fastIndex t0 (iL 0)) fun t38 => opt (fastBin .eql t38 (uL 91)) fun t39 => S171_18 c t0 t39 h
theorem TS171_19 (c : CF) : (rk P0 c 121 c171.s4).1 k171 [] k171 gK = L1 (S171_19 c) 0 := Eq.trans (seq_t (by kernel_rfl) (TS171_13 c) (seq_t (by kernel_rfl) (TS171_18 c) rfl)) (by funext s h; kernel_rfl)
noncomputable def S171_20 (c : CF) (t0 : AV) (h : Heap) : Res := opt (fastBin .eql t0 eL) fun t36 => test t36 (some ((.tup [(iL 0),(iL 0)]),h)) (S171_19 c t0 h)
theorem TS171_20 (c : CF) : (rk P0 c 121 c171.s3).1 k171 [] k171 gK = L1 (S171_20 c) 0 := Eq.trans (seq_t (by kernel_rfl) (TS171_19 c) rfl) (by funext s h; kernel_rfl)
noncomputable def S171_21 (c : CF) (t0 t34 : AV) (h : Heap) : Res := test t34 (some ((.tup [(iL 5),(iL 1)]),h)) (S171_20 c t0 h)
theorem TS171_21 (c : CF) : (rk P0 c 121 c171.s2.fst.snd).1 (L1 (S171_20 c) 0) [] k171 gK = L2 (S171_21 c) 0 34 := by funext s h; kernel_rfl
noncomputable def S171_22 (c : CF) (t0 : AV) (h : Heap) : Res := opt (lenStr t0) fun t23 => opt (fastBin .geq t23 (iL 5)) fun t24 => test t24 (opt (fastCut t0 none (some (iL 5)) none) fun t27 => opt (fastBin .eql t27 (sL [98,121,116,101,115])) fun t28 => test t28 (opt2 (c 204 [t0,(iL 5)] h) fun t32 h1 => opt (notX t32) fun t33 => S171_21 c t0 t33 h1) (S171_21 c t0 fL h)) (S171_21 c t0 fL h)
theorem TS171_22 (c : CF) : (rk P0 c 121 c171.s2).1 k171 [] k171 gK = L1 (S171_22 c) 0 := Eq.trans (seq_t (by kernel_rfl) (TS171_20 c) (seq_t (by kernel_rfl) (TS171_21 c) rfl)) (by funext s h; kernel_rfl)
noncomputable def S171_23 (c : CF) (t0 t21 : AV) (h : Heap) : Res := test t21 (some ((.tup [(iL 3),(iL 1)]),h)) (S171_22 c t0 h)
theorem TS171_23 (c : CF) : (rk P0 c 121 c171.snd.fst.snd).1 (L1 (S171_22 c) 0) [] k171 gK = L2 (S171_23 c) 0 21 := by funext s h; kernel_rfl
noncomputable def S171_24 (c : CF) (t0 : AV) (h : Heap) : Res := opt (lenStr t0) fun t10 => opt (fastBin .geq t10 (iL 3)) fun t11 => test t11 (opt (fastCut t0 none (some (iL 3)) none) fun t14 => opt (fastBin .eql t14 (sL [110,117,109])) fun t15 => test t15 (opt2 (c 204 [t0,(iL 3)] h) fun t19 h1 => opt (notX t19) fun t20 => S171_23 c t0 t20 h1) (S171_23 c t0 fL h)) (S171_23 c t0 fL h)
theorem TS171_24 (c : CF) : (rk P0 c 121 c171.snd).1 k171 [] k171 gK = L1 (S171_24 c) 0 := Eq.trans (seq_t (by kernel_rfl) (TS171_22 c) (seq_t (by kernel_rfl) (TS171_23 c) rfl)) (by funext s h; kernel_rfl)
noncomputable def F171 (c : CF) (a0 : AV) (h : Heap) : Res := S171_24 c a0 h
theorem TF171 (c : CF) (a0 : AV) (h : Heap) : (rk P0 c 121 c171).1 k171 [] k171 gK (argsTr gl 0 [a0]) h = F171 c a0 h := Eq.trans (congrFun (congrFun (seq_t (by kernel_rfl) (TS171_24 c) rfl) _) _) (by kernel_rfl)
noncomputable def N171 : FnF := n1 F171
theorem N171_ok : FnOk P0 gl 171 N171 := n1_ok namesOk mixedOrders lowOk Tryz.func171 (by kernel_rfl) (by kernel_rfl) (by kernel_rfl) TF171
noncomputable def c172 : Code := codeOf Tryz.f172
noncomputable def k172 : Kt := finK P0 Tryz.f172.results.toList
noncomputable def S172_0 (c : CF) (t0 : AV) (h : Heap) : Res := opt (lenStr t0) fun t14 => opt (fastBin .sub t14 (iL 1)) fun t15 => opt (fastCut t0 (some (iL 1)) (some t15) none) fun t16 => some ((.tup [t16,tL]),h)
theorem TS172_0 (c : CF) : (rk P0 c 17 c172.s2).1 k172 [] k172 gK = L1 (S172_0 c) 0 := by funext s h; kernel_rfl
noncomputable def S172_1 (c : CF) (t0 t11 : AV) (h : Heap) : Res := test t11 (some ((.tup [eL,fL]),h)) (S172_0 c t0 h)
theorem TS172_1 (c : CF) : (rk P0 c 17 c172.snd.fst.snd).1 (L1 (S172_0 c) 0) [] k172 gK = L2 (S172_1 c) 0 11 := by funext s h; kernel_rfl
noncomputable def S172_2 (c : CF) (t0 : AV) (h : Heap) : Res := opt2 (c 78 [t0] h) fun t5 h1 => opt (notX t5) fun t6 => test t6 (S172_1 c t0 tL h1) (opt (fastIndex t0 (iL 0)) fun t9 => opt (fastBin .neq t9 (uL 91)) fun t10 => S172_1 c t0 t10 h1)
theorem TS172_2 (c : CF) : (rk P0 c 17 c172.snd).1 k172 [] k172 gK = L1 (S172_2 c) 0 := Eq.trans (seq_t (by kernel_rfl) (TS172_0 c) (seq_t (by kernel_rfl) (TS172_1 c) rfl)) (by funext s h; kernel_rfl)
noncomputable def F172 (c : CF) (a0 : AV) (h : Heap) : Res := S172_2 c a0 h
theorem TF172 (c : CF) (a0 : AV) (h : Heap) : (rk P0 c 17 c172).1 k172 [] k172 gK (argsTr gl 0 [a0]) h = F172 c a0 h := Eq.trans (congrFun (congrFun (seq_t (by kernel_rfl) (TS172_2 c) rfl) _) _) (by kernel_rfl)
noncomputable def N172 : FnF := n1 F172
theorem N172_ok : FnOk P0 gl 172 N172 := n1_ok namesOk mixedOrders lowOk Tryz.func172 (by kernel_rfl) (by kernel_rfl) (by kernel_rfl) TF172
noncomputable def c173 : Code := codeOf Tryz.f173
noncomputable def k173 : Kt := finK P0 Tryz.f173.results.toList
noncomputable def S173_0 (c : CF) (t0 : AV) (h : Heap) : Res := some (t0,h)
theorem TS173_0 (c : CF) : (rk P0 c 23 c173.s3).1 k173 [] k173 gK = L1 (S173_0 c) 0 := by funext s h; kernel_rfl
noncomputable def S173_2b (c : CF) (r1 : A4) (t0 t7 t8 t9 : AV) (h : Heap) : Res := opt (fastBin .lss t9 t8) fun t10 => test t10 (opt (indexAddrS 2 t7 t9 h) fun t12 => opt (loadX (some 2) t12 h) fun t13 => opt2 (box (.agg [eL,nL]) h) fun t4 h1 => optH (storeX 2 t4 t13 h1) fun h2 => opt (fieldAddrX 1 t4) fun t16 => opt (loadX none t16 h2) fun t17 => opt2 (c 107 [t17] h2) fun t18 h3 => opt (indexAddrS 2 t0 t9 h3) fun t19 => opt (fieldAddrX 1 t19) fun t20 => optH (storeX 1 t20 t18 h3) fun h4 => opt (fastBin .add t9 (iL 1)) fun t21 => r1 t0 t7 t8 t21 h4) (S173_0 c t0 h)
theorem TS173_2b (c : CF) (r1 : A4) : (rk P0 c 23 c173.s2.fst.snd.bd.bd).1 (L4 r1 0 7 8 9) [(0,(L1 (S173_0 c) 0))] k173 gK = L4 (S173_2b c r1) 0 7 8 9 := by funext s h; kernel_rfl
noncomputable def S173_1l (c : CF) : Nat → A4
  | 0 => fun _ _ _ _ _ => none
  | k + 1 => S173_2b c (S173_1l c k)
theorem TS173_1l (c : CF) : (rk P0 c 23 c173.s2.fst.snd.bd).1 (L1 (S173_0 c) 0) [(0,(L1 (S173_0 c) 0))] k173 gK = L4 (S173_1l c rounds) 0 7 8 9 := loop_t (by kernel_rfl) (loop_ind (A := fun m => L4 (S173_1l c m) 0 7 8 9) rfl (fun m => TS173_2b c (S173_1l c m)) rounds)
noncomputable def S173_3 (c : CF) (t0 t7 t8 t9 : AV) (h : Heap) : Res := S173_1l c rounds t0 t7 t8 t9 h
theorem TS173_3 (c : CF) : (rk P0 c 23 c173.s2.fst.snd).1 (L1 (S173_0 c) 0) [] k173 gK = L4 (S173_3 c) 0 7 8 9 := Eq.trans (block_t (id := 0) (by kernel_rfl) (TS173_1l c)) (by funext s h; kernel_rfl)
noncomputable def S173_4 (c : CF) (t0 : AV) (h : Heap) : Res := opt (lenS t0) fun t8 => S173_3 c t0 t0 t8 (iL 0) h
theorem TS173_4 (c : CF) : (rk P0 c 23 c173.s2).1 k173 [] k173 gK = L1 (S173_4 c) 0 := Eq.trans (seq_t (by kernel_rfl) (TS173_0 c) (seq_t (by kernel_rfl) (TS173_3 c) rfl)) (by funext s h; kernel_rfl)
noncomputable def S173_5 (c : CF) (t0 : AV) (h : Heap) : Res := opt2 (c 106 [t0] h) fun t6 h1 => S173_4 c t6 h1
theorem TS173_5 (c : CF) : (rk P0 c 23 c173.snd).1 k173 [] k173 gK = L1 (S173_5 c) 0 := Eq.trans (seq_t (by kernel_rfl) (TS173_4 c) rfl) (by funext s h; kernel_rfl)
noncomputable def F173 (c : CF) (a0 : AV) (h : Heap) : Res := S173_5 c a0 h
theorem TF173 (c : CF) (a0 : AV) (h : Heap) : (rk P0 c 23 c173).1 k173 [] k173 gK (argsTr gl 0 [a0]) h = F173 c a0 h := Eq.trans (congrFun (congrFun (seq_t (by kernel_rfl) (TS173_5 c) rfl) _) _) (by kernel_rfl)
noncomputable def N173 : FnF := n1 F173
theorem N173_ok : FnOk P0 gl 173 N173 := n1_ok namesOk mixedOrders lowOk Tryz.func173 (by kernel_rfl) (by kernel_rfl) (by kernel_rfl) TF173
noncomputable def c174 : Code := codeOf Tryz.f174
noncomputable def k174 : Kt := finK P0 Tryz.f174.results.toList
noncomputable def S174_1 (c : CF) (r0 : Nat → A3) (t0 t4 t5 t6 : AV) (h : Heap) : Res := opt (fastBin .add t5 t6) fun t37 => opt (fastCut t0 (some t5) (some t37) none) fun t38 => opt2 (bsliceX 1 eL 1 [(0,t38)] h) fun t39 h1 => opt2 (appendX 1 16 t4 t39 h1) fun t40 h2 => opt (fastBin .add t5 t6) fun t43 => opt (fastIndex t0 t43) fun t46 => opt (fastBin .eql t46 (uL 44)) fun t48 => test t48 (opt (fastBin .add t43 (iL 1)) fun t50 => r0 0 t0 t40 t50 h2) (opt (fastBin .eql t46 (uL 41)) fun t52 => test t52 (opt (fastBin .add t43 (iL 1)) fun t55 => some ((.tup [t40,t55]),h2)) (some ((.tup [nL,(iL 0)]),h2)))
theorem TS174_1 (c : CF) (r0 : Nat → A3) : (rk P0 c 56 (c174.snd.bd.at_ 0).s4).1 k174 [] k174 (fun l s h => r0 l (s.rd 0) (s.rd 4) (s.rd 5) h) = L4 (S174_1 c r0) 0 4 5 6 := by funext s h; kernel_rfl
noncomputable def S174_2 (c : CF) (r0 : Nat → A3) (t0 t4 t5 t6 t31 : AV) (h : Heap) : Res := test t31 (some ((.tup [nL,(iL 0)]),h)) (S174_1 c r0 t0 t4 t5 t6 h)
theorem TS174_2 (c : CF) (r0 : Nat → A3) : (rk P0 c 56 (c174.snd.bd.at_ 0).s3.fst.snd).1 (L4 (S174_1 c r0) 0 4 5 6) [] k174 (fun l s h => r0 l (s.rd 0) (s.rd 4) (s.rd 5) h) = L5 (S174_2 c r0) 0 4 5 6 31 := by funext s h; kernel_rfl
noncomputable def S174_3 (c : CF) (r0 : Nat → A3) (t0 t4 t5 t6 : AV) (h : Heap) : Res := opt (fastBin .eql t6 (iL 0)) fun t18 => test t18 (S174_2 c r0 t0 t4 t5 t6 tL h) (opt (fastBin .add t5 t6) fun t22 => opt (lenStr t0) fun t24 => opt (fastBin .geq t22 t24) fun t25 => test t25 (S174_2 c r0 t0 t4 t5 t6 tL h) (opt (lenS t4) fun t29 => opt (fastBin .eql t29 (iL 6)) fun t30 => S174_2 c r0 t0 t4 t5 t6 t30 h))
theorem TS174_3 (c : CF) (r0 : Nat → A3) : (rk P0 c 56 (c174.snd.bd.at_ 0).s3).1 k174 [] k174 (fun l s h => r0 l (s.rd 0) (s.rd 4) (s.rd 5) h) = L4 (S174_3 c r0) 0 4 5 6 := Eq.trans (seq_t (by kernel_rfl) (TS174_1 c r0) (seq_t (by kernel_rfl) (TS174_2 c r0) rfl)) (by funext s h; kernel_rfl)
noncomputable def S174_4 (c : CF) (r0 : Nat → A3) (t0 t4 t5 t6 : AV) (h : Heap) : Res := opt (lenStr t0) fun t11 => opt (fastBin .lss t5 t11) fun t12 => test t12 (opt (fastCut t0 (some t5) none none) fun t15 => opt2 (c 134 [t15] h) fun t16 h1 => S174_3 c r0 t0 t4 t5 t16 h1) (S174_3 c r0 t0 t4 t5 t6 h)
theorem TS174_4 (c : CF) (r0 : Nat → A3) : (rk P0 c 56 (c174.snd.bd.at_ 0).s2).1 k174 [] k174 (fun l s h => r0 l (s.rd 0) (s.rd 4) (s.rd 5) h) = L4 (S174_4 c r0) 0 4 5 6 := Eq.trans (seq_t (by kernel_rfl) (TS174_3 c r0) rfl) (by funext s h; kernel_rfl)
noncomputable def S174_5 (c : CF) (r0 : Nat → A3) (t0 t4 t5 : AV) (h : Heap) : Res := S174_4 c r0 t0 t4 t5 (iL 0) h
theorem TS174_5 (c : CF) (r0 : Nat → A3) : (rk P0 c 56 (c174.snd.bd.at_ 0).snd).1 k174 [] k174 (fun l s h => r0 l (s.rd 0) (s.rd 4) (s.rd 5) h) = L3 (S174_5 c r0) 0 4 5 := Eq.trans (seq_t (by kernel_rfl) (TS174_4 c r0) rfl) (by funext s h; kernel_rfl)
noncomputable def S174_6L0_ (c : CF) (r0 : Nat → A3) (t0 t4 t5 : AV) (h : Heap) : Res := S174_5 c r0 t0 t4 t5 h
theorem TS174_6L0_ (c : CF) (r0 : Nat → A3) : (rk P0 c 56 (c174.snd.bd.at_ 0)).1 k174 [] k174 (fun l s h => r0 l (s.rd 0) (s.rd 4) (s.rd 5) h) = L3 (S174_6L0_ c r0) 0 4 5 := Eq.trans (seq_t (by kernel_rfl) (TS174_5 c r0) rfl) (by funext s h; kernel_rfl)
noncomputable def S174_0g (c : CF) : Nat → Nat → A3
  | 0 => fun _ _ _ _ _ => none
  | k + 1 => fun l => match l with
    | 0 => S174_6L0_ c (S174_0g c k)
    | _ => fun _ _ _ _ => none
theorem TS174_0g (c : CF) : jumpK (fun l kg' => match (rk P0 c 56 c174.snd.bd).2 l with | some f => some (f k174 [] k174 kg') | none => none) gK rounds = fun l s h => S174_0g c rounds l (s.rd 0) (s.rd 4) (s.rd 5) h := jump_ind (J := fun m => fun l s h => S174_0g c m l (s.rd 0) (s.rd 4) (s.rd 5) h) rfl (fun m l => match l with
    | 0 => by rw [show findLabel c174.snd.bd 0 = some (c174.snd.bd.at_ 0) by kernel_rfl]; exact TS174_6L0_ c (S174_0g c m)
    | l + 1 => by rw [show findLabel c174.snd.bd (l + 1) = none by kernel_rfl]; rfl) rounds
noncomputable def S174_7 (c : CF) (t0 t4 t5 t6 : AV) (h : Heap) : Res := opt (fastBin .add t5 t6) fun t37 => opt (fastCut t0 (some t5) (some t37) none) fun t38 => opt2 (bsliceX 1 eL 1 [(0,t38)] h) fun t39 h1 => opt2 (appendX 1 16 t4 t39 h1) fun t40 h2 => opt (fastBin .add t5 t6) fun t43 => opt (fastIndex t0 t43) fun t46 => opt (fastBin .eql t46 (uL 44)) fun t48 => test t48 (opt (fastBin .add t43 (iL 1)) fun t50 => S174_0g c rounds 0 t0 t40 t50 h2) (opt (fastBin .eql t46 (uL 41)) fun t52 => test t52 (opt (fastBin .add t43 (iL 1)) fun t55 => some ((.tup [t40,t55]),h2)) (some ((.tup [nL,(iL 0)]),h2)))
theorem TS174_7 (c : CF) : (rk P0 c 56 c174.snd.bd.s7).1 k174 [] k174 (fun l s h => S174_0g c rounds l (s.rd 0) (s.rd 4) (s.rd 5) h) = L4 (S174_7 c) 0 4 5 6 := by funext s h; kernel_rfl
noncomputable def S174_8 (c : CF) (t0 t4 t5 t6 t31 : AV) (h : Heap) : Res := test t31 (some ((.tup [nL,(iL 0)]),h)) (S174_7 c t0 t4 t5 t6 h)
theorem TS174_8 (c : CF) : (rk P0 c 56 c174.snd.bd.s6.fst.snd).1 (L4 (S174_7 c) 0 4 5 6) [] k174 (fun l s h => S174_0g c rounds l (s.rd 0) (s.rd 4) (s.rd 5) h) = L5 (S174_8 c) 0 4 5 6 31 := by funext s h; kernel_rfl
noncomputable def S174_9 (c : CF) (t0 t4 t5 t6 : AV) (h : Heap) : Res := opt (fastBin .eql t6 (iL 0)) fun t18 => test t18 (S174_8 c t0 t4 t5 t6 tL h) (opt (fastBin .add t5 t6) fun t22 => opt (lenStr t0) fun t24 => opt (fastBin .geq t22 t24) fun t25 => test t25 (S174_8 c t0 t4 t5 t6 tL h) (opt (lenS t4) fun t29 => opt (fastBin .eql t29 (iL 6)) fun t30 => S174_8 c t0 t4 t5 t6 t30 h))
theorem TS174_9 (c : CF) : (rk P0 c 56 c174.snd.bd.s6).1 k174 [] k174 (fun l s h => S174_0g c rounds l (s.rd 0) (s.rd 4) (s.rd 5) h) = L4 (S174_9 c) 0 4 5 6 := Eq.trans (seq_t (by kernel_rfl) (TS174_7 c) (seq_t (by kernel_rfl) (TS174_8 c) rfl)) (by funext s h; kernel_rfl)
noncomputable def S174_10 (c : CF) (t0 t4 t5 t6 : AV) (h : Heap) : Res := opt (lenStr t0) fun t11 => opt (fastBin .lss t5 t11) fun t12 => test t12 (opt (fastCut t0 (some t5) none none) fun t15 => opt2 (c 134 [t15] h) fun t16 h1 => S174_9 c t0 t4 t5 t16 h1) (S174_9 c t0 t4 t5 t6 h)
theorem TS174_10 (c : CF) : (rk P0 c 56 c174.snd.bd.s5).1 k174 [] k174 (fun l s h => S174_0g c rounds l (s.rd 0) (s.rd 4) (s.rd 5) h) = L4 (S174_10 c) 0 4 5 6 := Eq.trans (seq_t (by kernel_rfl) (TS174_9 c) rfl) (by funext s h; kernel_rfl)
noncomputable def S174_11 (c : CF) (t0 t4 t5 : AV) (h : Heap) : Res := S174_10 c t0 t4 t5 (iL 0) h
theorem TS174_11 (c : CF) : (rk P0 c 56 c174.snd.bd.s4).1 k174 [] k174 (fun l s h => S174_0g c rounds l (s.rd 0) (s.rd 4) (s.rd 5) h) = L3 (S174_11 c) 0 4 5 := Eq.trans (seq_t (by kernel_rfl) (TS174_10 c) rfl) (by funext s h; kernel_rfl)
noncomputable def S174_12 (c : CF) (t0 t4 t5 : AV) (h : Heap) : Res := S174_11 c t0 t4 t5 h
theorem TS174_12 (c : CF) : (rk P0 c 56 c174.snd.bd.s3).1 k174 [] k174 (fun l s h => S174_0g c rounds l (s.rd 0) (s.rd 4) (s.rd 5) h) = L3 (S174_12 c) 0 4 5 := Eq.trans (seq_t (by kernel_rfl) (TS174_11 c) rfl) (by funext s h; kernel_rfl)
noncomputable def S174_13 (c : CF) (t0 t4 t5 : AV) (h : Heap) : Res := opt2 (c 207 [t0,(sL [40,41])] h) fun t8 h1 => test t8 (some ((.tup [nL,(iL 2)]),h1)) (S174_12 c t0 t4 t5 h1)
theorem TS174_13 (c : CF) : (rk P0 c 56 c174.snd.bd.s2).1 k174 [] k174 (fun l s h => S174_0g c rounds l (s.rd 0) (s.rd 4) (s.rd 5) h) = L3 (S174_13 c) 0 4 5 := Eq.trans (seq_t (by kernel_rfl) (TS174_12 c) rfl) (by funext s h; kernel_rfl)
noncomputable def S174_14 (c : CF) (t0 t4 : AV) (h : Heap) : Res := S174_13 c t0 t4 (iL 1) h
theorem TS174_14 (c : CF) : (rk P0 c 56 c174.snd.bd.snd).1 k174 [] k174 (fun l s h => S174_0g c rounds l (s.rd 0) (s.rd 4) (s.rd 5) h) = L2 (S174_14 c) 0 4 := Eq.trans (seq_t (by kernel_rfl) (TS174_13 c) rfl) (by funext s h; kernel_rfl)
noncomputable def S174_15 (c : CF) (t0 : AV) (h : Heap) : Res := S174_14 c t0 nL h
theorem TS174_15 (c : CF) : (rk P0 c 56 c174.snd).1 k174 [] k174 gK = L1 (S174_15 c) 0 := Eq.trans (scope_t (by kernel_rfl) (TS174_0g c) (seq_t (by kernel_rfl) (TS174_14 c) rfl)) (by funext s h; kernel_rfl)
noncomputable def F174 (c : CF) (a0 : AV) (h : Heap) : Res := S174_15 c a0 h
theorem TF174 (c : CF) (a0 : AV) (h : Heap) : (rk P0 c 56 c174).1 k174 [] k174 gK (argsTr gl 0 [a0]) h = F174 c a0 h := Eq.trans (congrFun (congrFun (seq_t (by kernel_rfl) (TS174_15 c) rfl) _) _) (by kernel_rfl)
noncomputable def N174 : FnF := n1 F174
theorem N174_ok : FnOk P0 gl 174 N174 := n1_ok namesOk mixedOrders lowOk Tryz.func174 (by kernel_rfl) (by kernel_rfl) (by kernel_rfl) TF174
noncomputable def c175 : Code := codeOf Tryz.f175
noncomputable def k175 : Kt := finK P0 Tryz.f175.results.toList
noncomputable def F175 (c : CF) (a0 a1 : AV) (h : Heap) : Res := opt2 (c 209 [a0,a1] h) fun t25 h1 => opt (extractX t25 0) fun t26 => opt (extractX t25 1) fun t27 => some ((.tup [t26,t27]),h1)
theorem TF175 (c : CF) (a0 a1 : AV) (h : Heap) : (rk P0 c 30 c175).1 k175 [] k175 gK (argsTr gl 0 [a0,a1]) h = F175 c a0 a1 h := by kernel_rfl
noncomputable def N175 : FnF := n2 F175
theorem N175_ok : FnOk P0 gl 175 N175 := n2_ok namesOk mixedOrders lowOk Tryz.func175 (by kernel_rfl) (by kernel_rfl) (by kernel_rfl) TF175
noncomputable def c176 : Code := codeOf Tryz.f176
noncomputable def k176 : Kt := finK P0 Tryz.f176.results.toList
noncomputable def S176_0 (c : CF) (h : Heap) : Res := some ((iL (-1)),h)
theorem TS176_0 (c : CF) : (rk P0 c 19 c176.s2).1 k176 [] k176 gK = L0 (S176_0 c) := by funext s h; kernel_rfl
noncomputable def S176_2b (c : CF) (r1 : A4) (t0 t1 t7 t8 : AV) (h : Heap) : Res := opt (fastBin .lss t8 t7) fun t9 => test t9 (opt (indexAddrS 1 t0 t8 h) fun t14 => opt (loadX none t14 h) fun t15 => opt (fastBin .eql t1 t15) fun t16 => test t16 (some (t8,h)) (opt (fastBin .add t8 (iL 1)) fun t18 => r1 t0 t1 t7 t18 h)) (S176_0 c h)
theorem TS176_2b (c : CF) (r1 : A4) : (rk P0 c 19 c176.snd.fst.snd.bd.bd).1 (L4 r1 0 1 7 8) [(0,(L0 (S176_0 c)))] k176 gK = L4 (S176_2b c r1) 0 1 7 8 := by funext s h; kernel_rfl
noncomputable def S176_1l (c : CF) : Nat → A4
  | 0 => fun _ _ _ _ _ => none
  | k + 1 => S176_2b c (S176_1l c k)
theorem TS176_1l (c : CF) : (rk P0 c 19 c176.snd.fst.snd.bd).1 (L0 (S176_0 c)) [(0,(L0 (S176_0 c)))] k176 gK = L4 (S176_1l c rounds) 0 1 7 8 := loop_t (by kernel_rfl) (loop_ind (A := fun m => L4 (S176_1l c m) 0 1 7 8) rfl (fun m => TS176_2b c (S176_1l c m)) rounds)
noncomputable def S176_3 (c : CF) (t0 t1 t7 t8 : AV) (h : Heap) : Res := S176_1l c rounds t0 t1 t7 t8 h
theorem TS176_3 (c : CF) : (rk P0 c 19 c176.snd.fst.snd).1 (L0 (S176_0 c)) [] k176 gK = L4 (S176_3 c) 0 1 7 8 := Eq.trans (block_t (id := 0) (by kernel_rfl) (TS176_1l c)) (by funext s h; kernel_rfl)
noncomputable def S176_4 (c : CF) (t0 t1 : AV) (h : Heap) : Res := opt (lenS t0) fun t7 => S176_3 c t0 t1 t7 (iL 0) h
theorem TS176_4 (c : CF) : (rk P0 c 19 c176.snd).1 k176 [] k176 gK = L2 (S176_4 c) 0 1 := Eq.trans (seq_t (by kernel_rfl) (TS176_0 c) (seq_t (by kernel_rfl) (TS176_3 c) rfl)) (by funext s h; kernel_rfl)
noncomputable def F176 (c : CF) (a0 a1 : AV) (h : Heap) : Res := S176_4 c a0 a1 h
theorem TF176 (c : CF) (a0 a1 : AV) (h : Heap) : (rk P0 c 19 c176).1 k176 [] k176 gK (argsTr gl 0 [a0,a1]) h = F176 c a0 a1 h := Eq.trans (congrFun (congrFun (seq_t (by kernel_rfl) (TS176_4 c) rfl) _) _) (by kernel_rfl)
noncomputable def N176 : FnF := n2 F176
theorem N176_ok : FnOk P0 gl 176 N176 := n2_ok namesOk mixedOrders lowOk Tryz.func176 (by kernel_rfl) (by kernel_rfl) (by kernel_rfl) TF176
noncomputable def c178 : Code := codeOf Tryz.f178
noncomputable def k178 : Kt := finK P0 Tryz.f178.results.toList
noncomputable def F178 (c : CF) (a0 : AV) (h : Heap) : Res := opt (fastBin .geq a0 (uL 97)) fun t4 => test t4 (opt (fastBin .leq a0 (uL 122)) fun t7 => test t7 (some (tL,h)) (opt (fastBin .geq a0 (uL 65)) fun t11 => test t11 (opt (fastBin .leq a0 (uL 90)) fun t14 => some (t14,h)) (some (fL,h)))) (opt (fastBin .geq a0 (uL 65)) fun t11_1 => test t11_1 (opt (fastBin .leq a0 (uL 90)) fun t14_1 => some (t14_1,h)) (some (fL,h)))
theorem TF178 (c : CF) (a0 : AV) (h : Heap) : (rk P0 c 17 c178).1 k178 [] k178 gK (argsTr gl 0 [a0]) h = F178 c a0 h := by kernel_rfl
noncomputable def N178 : FnF := n1 F178
theorem N178_ok : FnOk P0 gl 178 N178 := n1_ok namesOk mixedOrders lowOk Tryz.func178 (by kernel_rfl) (by kernel_rfl) (by kernel_rfl) TF178
noncomputable def c180 : Code := codeOf Tryz.f180
noncomputable def k180 : Kt := finK P0 Tryz.f180.results.toList
noncomputable def S180_0 (c : CF) (t5 t6 : AV) (h : Heap) : Res := some ((.tup [t5,t6,tL]),h)
theorem TS180_0 (c : CF) : (rk P0 c 28 c180.s3).1 k180 [] k180 gK = L2 (S180_0 c) 5 6 := by funext s h; kernel_rfl
noncomputable def S180_1 (c : CF) (t5 t6 t25 : AV) (h : Heap) : Res := test t25 (some ((.tup [eL,eL,fL]),h)) (S180_0 c t5 t6 h)
theorem TS180_1 (c : CF) : (rk P0 c 28 c180.s2.fst.snd).1 (L2 (S180_0 c) 5 6) [] k180 gK = L3 (S180_1 c) 5 6 25 := by funext s h; kernel_rfl
noncomputable def S180_2 (c : CF) (t5 t6 t7 : AV) (h : Heap) : Res := opt (notX t7) fun t15 => test t15 (S180_1 c t5 t6 tL h) (opt2 (c 76 [t5] h) fun t18 h1 => opt (notX t18) fun t19 => test t19 (S180_1 c t5 t6 tL h1) (opt2 (c 77 [t6] h1) fun t23 h2 => opt (notX t23) fun t24 => S180_1 c t5 t6 t24 h2))
theorem TS180_2 (c : CF) : (rk P0 c 28 c180.s2).1 k180 [] k180 gK = L3 (S180_2 c) 5 6 7 := Eq.trans (seq_t (by kernel_rfl) (TS180_0 c) (seq_t (by kernel_rfl) (TS180_1 c) rfl)) (by funext s h; kernel_rfl)
noncomputable def S180_3 (c : CF) (t0 : AV) (h : Heap) : Res := opt2 (c 213 [t0,(sL [46])] h) fun t10 h1 => opt (extractX t10 0) fun t11 => opt (extractX t10 1) fun t12 => opt (extractX t10 2) fun t13 => S180_2 c t11 t12 t13 h1
theorem TS180_3 (c : CF) : (rk P0 c 28 c180.snd).1 k180 [] k180 gK = L1 (S180_3 c) 0 := Eq.trans (seq_t (by kernel_rfl) (TS180_2 c) rfl) (by funext s h; kernel_rfl)
noncomputable def F180 (c : CF) (a0 : AV) (h : Heap) : Res := S180_3 c a0 h
theorem TF180 (c : CF) (a0 : AV) (h : Heap) : (rk P0 c 28 c180).1 k180 [] k180 gK (argsTr gl 0 [a0]) h = F180 c a0 h := Eq.trans (congrFun (congrFun (seq_t (by kernel_rfl) (TS180_3 c) rfl) _) _) (by kernel_rfl)
noncomputable def N180 : FnF := n1 F180
theorem N180_ok : FnOk P0 gl 180 N180 := n1_ok namesOk mixedOrders lowOk Tryz.func180 (by kernel_rfl) (by kernel_rfl) (by kernel_rfl) TF180
noncomputable def c181 : Code := codeOf Tryz.f181
noncomputable def k181 : Kt := finK P0 Tryz.f181.results.toList
noncomputable def F181 (c : CF) (a0 : AV) (h : Heap) : Res := opt (fastBin .eql a0 (sL [110,117,109])) fun t4 => test t4 (some (tL,h)) (opt (fastBin .eql a0 (sL [98,121,116,101,115])) fun t7 => some (t7,h))
theorem TF181 (c : CF) (a0 : AV) (h : Heap) : (rk P0 c 9 c181).1 k181 [] k181 gK (argsTr gl 0 [a0]) h = F181 c a0 h := by kernel_rfl
noncomputable def N181 : FnF := n1 F181
theorem N181_ok : FnOk P0 gl 181 N181 := n1_ok namesOk mixedOrders lowOk Tryz.func181 (by kernel_rfl) (by kernel_rfl) (by kernel_rfl) TF181
noncomputable def c183 : Code := codeOf Tryz.f183
noncomputable def k183 : Kt := finK P0 Tryz.f183.results.toList
noncomputable def F183 (c : CF) (a0 a1 : AV) (h : Heap) : Res := opt2 (c 218 [a0,a1] h) fun t7 h1 => some (t7,h1)
theorem TF183 (c : CF) (a0 a1 : AV) (h : Heap) : (rk P0 c 8 c183).1 k183 [] k183 gK (argsTr gl 0 [a0,a1]) h = F183 c a0 a1 h := by kernel_rfl
noncomputable def N183 : FnF := n2 F183
theorem N183_ok : FnOk P0 gl 183 N183 := n2_ok namesOk mixedOrders lowOk Tryz.func183 (by kernel_rfl) (by kernel_rfl) (by kernel_rfl) TF183
noncomputable def c184 : Code := codeOf Tryz.f184
noncomputable def k184 : Kt := finK P0 Tryz.f184.results.toList
noncomputable def S184_1 (c : CF) (r0 : A6) (t0 t1 t2 t3 t10 t11 : AV) (h : Heap) : Res := opt2 (c 227 [t0,t1,t2,t11] h) fun t99 h1 => opt (extractX t99 0) fun t100 => opt (extractX t99 1) fun t101 => opt (fastBin .sub t100 t1) fun t105 => opt (fastBin .sub t2 t100) fun t108 => opt (binX P0 .none .quo 3 t10 (iL 8)) fun t110 => opt (fastBin .lss t105 t108) fun t113 => test t113 (opt (fastBin .geq t105 t110) fun t116 => opt2 (c 184 [t0,t1,t100,t3] h1) fun t121 h2 => opt (fastBin .add t100 (iL 1)) fun t123 => r0 t0 t123 t2 t3 t116 t101 h2) (opt (fastBin .geq t108 t110) fun t126 => opt (fastBin .add t100 (iL 1)) fun t129 => opt2 (c 184 [t0,t129,t2,t3] h1) fun t132 h3 => r0 t0 t1 t100 t3 t126 t101 h3)
theorem TS184_1 (c : CF) (r0 : A6) : (rk P0 c 134 c184.s2.bd.bd.bd.s8).1 (L6 r0 0 1 2 3 8 9) [(1,(L6 r0 0 1 2 3 8 9)),(0,k184)] k184 gK = L6 (S184_1 c r0) 0 1 2 3 10 11 := by funext s h; kernel_rfl
noncomputable def S184_2 (c : CF) (r0 : A6) (t0 t1 t2 t3 t8 t9 t10 t11 t87 : AV) (h : Heap) : Res := test t87 (opt2 (c 226 [t0,t1,t2,t11] h) fun t92 h1 => r0 t0 t92 t2 t3 t8 t9 h1) (S184_1 c r0 t0 t1 t2 t3 t10 t11 h)
theorem TS184_2 (c : CF) (r0 : A6) : (rk P0 c 134 c184.s2.bd.bd.bd.s7.fst.snd).1 (L6 (S184_1 c r0) 0 1 2 3 10 11) [(1,(L6 r0 0 1 2 3 8 9)),(0,k184)] k184 gK = L9 (S184_2 c r0) 0 1 2 3 8 9 10 11 87 := by funext s h; kernel_rfl
noncomputable def S184_3 (c : CF) (r0 : A6) (t0 t1 t2 t3 t8 t9 t10 t11 : AV) (h : Heap) : Res := opt (fastBin .gtr t1 (iL 0)) fun t74 => test t74 (opt (fastBin .sub t1 (iL 1)) fun t78 => opt (indexAddrS 1 t0 t78 h) fun t79 => eqH h h (opt (loadX none t79 h) fun t80 => eqH h h (opt (indexAddrS 1 t0 t11 h) fun t83 => eqH h h (opt (loadX none t83 h) fun t84 => eqH h h (opt2 (c 225 [t80,t84] h) fun t85 h1 => eqH h1 h (opt (notX t85) fun t86 => S184_2 c r0 t0 t1 t2 t3 t8 t9 t10 t11 t86 h)))))) (S184_2 c r0 t0 t1 t2 t3 t8 t9 t10 t11 fL h)
theorem TS184_3 (c : CF) (r0 : A6) : (rk P0 c 134 c184.s2.bd.bd.bd.s7).1 (L6 r0 0 1 2 3 8 9) [(1,(L6 r0 0 1 2 3 8 9)),(0,k184)] k184 gK = L8 (S184_3 c r0) 0 1 2 3 8 9 10 11 := Eq.trans (seq_t (by kernel_rfl) (TS184_1 c r0) (seq_t (by kernel_rfl) (TS184_2 c r0) rfl)) (by funext s h; kernel_rfl)
noncomputable def S184_4 (c : CF) (r0 : A6) (t0 t1 t2 t3 t8 t9 t10 t11 t68 : AV) (h : Heap) : Res := test t68 (opt2 (c 224 [t0,t1,t2] h) fun t72 h1 => test t72 (some ((.lit (.tuple #[])),h1)) (S184_3 c r0 t0 t1 t2 t3 t8 t9 t10 t11 h1)) (S184_3 c r0 t0 t1 t2 t3 t8 t9 t10 t11 h)
theorem TS184_4 (c : CF) (r0 : A6) : (rk P0 c 134 c184.s2.bd.bd.bd.s6.fst.snd).1 (L8 (S184_3 c r0) 0 1 2 3 8 9 10 11) [(1,(L6 r0 0 1 2 3 8 9)),(0,k184)] k184 gK = L9 (S184_4 c r0) 0 1 2 3 8 9 10 11 68 := by funext s h; kernel_rfl
noncomputable def S184_5 (c : CF) (r0 : A6) (t0 t1 t2 t3 t8 t9 t10 t11 t12 : AV) (h : Heap) : Res := test t8 (test t9 (opt (fastBin .eql t12 (iL 1)) fun t67 => S184_4 c r0 t0 t1 t2 t3 t8 t9 t10 t11 t67 h) (S184_4 c r0 t0 t1 t2 t3 t8 t9 t10 t11 fL h)) (S184_4 c r0 t0 t1 t2 t3 t8 t9 t10 t11 fL h)
theorem TS184_5 (c : CF) (r0 : A6) : (rk P0 c 134 c184.s2.bd.bd.bd.s6).1 (L6 r0 0 1 2 3 8 9) [(1,(L6 r0 0 1 2 3 8 9)),(0,k184)] k184 gK = L9 (S184_5 c r0) 0 1 2 3 8 9 10 11 12 := Eq.trans (seq_t (by kernel_rfl) (TS184_3 c r0) (seq_t (by kernel_rfl) (TS184_4 c r0) rfl)) (by funext s h; kernel_rfl)
noncomputable def S184_6 (c : CF) (r0 : A6) (t0 t1 t2 t3 t8 t9 t10 t11 t12 : AV) (h : Heap) : Res := opt (fastBin .eql t12 (iL 2)) fun t50 => test t50 (opt2 (c 223 [t0,t1,t2] h) fun t54 h1 => opt (fastBin .sub t2 (iL 1)) fun t56 => opt (fastBin .sub t11 t1) fun t59 => opt (fastBin .sub t56 t59) fun t60 => S184_5 c r0 t0 t1 t2 t3 t8 t9 t10 t60 (iL 1) h1) (S184_5 c r0 t0 t1 t2 t3 t8 t9 t10 t11 t12 h)
theorem TS184_6 (c : CF) (r0 : A6) : (rk P0 c 134 c184.s2.bd.bd.bd.s5).1 (L6 r0 0 1 2 3 8 9) [(1,(L6 r0 0 1 2 3 8 9)),(0,k184)] k184 gK = L9 (S184_6 c r0) 0 1 2 3 8 9 10 11 12 := Eq.trans (seq_t (by kernel_rfl) (TS184_5 c r0) rfl) (by funext s h; kernel_rfl)
noncomputable def S184_7 (c : CF) (r0 : A6) (t0 t1 t2 t3 t8 t9 t10 : AV) (h : Heap) : Res := opt2 (c 222 [t0,t1,t2] h) fun t46 h1 => opt (extractX t46 0) fun t47 => opt (extractX t46 1) fun t48 => S184_6 c r0 t0 t1 t2 t3 t8 t9 t10 t47 t48 h1
theorem TS184_7 (c : CF) (r0 : A6) : (rk P0 c 134 c184.s2.bd.bd.bd.s4).1 (L6 r0 0 1 2 3 8 9) [(1,(L6 r0 0 1 2 3 8 9)),(0,k184)] k184 gK = L7 (S184_7 c r0) 0 1 2 3 8 9 10 := Eq.trans (seq_t (by kernel_rfl) (TS184_6 c r0) rfl) (by funext s h; kernel_rfl)
noncomputable def S184_8 (c : CF) (r0 : A6) (t0 t1 t2 t3 t8 t9 t10 : AV) (h : Heap) : Res := opt (notX t8) fun t35 => test t35 (opt2 (c 221 [t0,t1,t2] h) fun t39 h1 => opt (fastBin .sub t3 (iL 1)) fun t41 => S184_7 c r0 t0 t1 t2 t41 t8 t9 t10 h1) (S184_7 c r0 t0 t1 t2 t3 t8 t9 t10 h)
theorem TS184_8 (c : CF) (r0 : A6) : (rk P0 c 134 c184.s2.bd.bd.bd.s3).1 (L6 r0 0 1 2 3 8 9) [(1,(L6 r0 0 1 2 3 8 9)),(0,k184)] k184 gK = L7 (S184_8 c r0) 0 1 2 3 8 9 10 := Eq.trans (seq_t (by kernel_rfl) (TS184_7 c r0) rfl) (by funext s h; kernel_rfl)
noncomputable def S184_9 (c : CF) (r0 : A6) (t0 t1 t2 t3 t8 t9 t10 : AV) (h : Heap) : Res := opt (fastBin .eql t3 (iL 0)) fun t29 => test t29 (opt2 (c 220 [t0,t1,t2] h) fun t33 h1 => some ((.lit (.tuple #[])),h1)) (S184_8 c r0 t0 t1 t2 t3 t8 t9 t10 h)
theorem TS184_9 (c : CF) (r0 : A6) : (rk P0 c 134 c184.s2.bd.bd.bd.s2).1 (L6 r0 0 1 2 3 8 9) [(1,(L6 r0 0 1 2 3 8 9)),(0,k184)] k184 gK = L7 (S184_9 c r0) 0 1 2 3 8 9 10 := Eq.trans (seq_t (by kernel_rfl) (TS184_8 c r0) rfl) (by funext s h; kernel_rfl)
noncomputable def S184_10 (c : CF) (r0 : A6) (t0 t1 t2 t3 t8 t9 t10 : AV) (h : Heap) : Res := opt (fastBin .leq t10 (iL 12)) fun t23 => test t23 (opt2 (c 219 [t0,t1,t2] h) fun t27 h1 => some ((.lit (.tuple #[])),h1)) (S184_9 c r0 t0 t1 t2 t3 t8 t9 t10 h)
theorem TS184_10 (c : CF) (r0 : A6) : (rk P0 c 134 c184.s2.bd.bd.bd.snd).1 (L6 r0 0 1 2 3 8 9) [(1,(L6 r0 0 1 2 3 8 9)),(0,k184)] k184 gK = L7 (S184_10 c r0) 0 1 2 3 8 9 10 := Eq.trans (seq_t (by kernel_rfl) (TS184_9 c r0) rfl) (by funext s h; kernel_rfl)
noncomputable def S184_11b (c : CF) (r0 : A6) (t0 t1 t2 t3 t8 t9 : AV) (h : Heap) : Res := opt (fastBin .sub t2 t1) fun t21 => S184_10 c r0 t0 t1 t2 t3 t8 t9 t21 h
theorem TS184_11b (c : CF) (r0 : A6) : (rk P0 c 134 c184.s2.bd.bd).1 (L6 r0 0 1 2 3 8 9) [(0,k184)] k184 gK = L6 (S184_11b c r0) 0 1 2 3 8 9 := Eq.trans (block_t (id := 1) (by kernel_rfl) (seq_t (by kernel_rfl) (TS184_10 c r0) rfl)) (by funext s h; kernel_rfl)
noncomputable def S184_0l (c : CF) : Nat → A6
  | 0 => fun _ _ _ _ _ _ _ => none
  | k + 1 => S184_11b c (S184_0l c k)
theorem TS184_0l (c : CF) : (rk P0 c 134 c184.s2.bd).1 k184 [(0,k184)] k184 gK = L6 (S184_0l c rounds) 0 1 2 3 8 9 := loop_t (by kernel_rfl) (loop_ind (A := fun m => L6 (S184_0l c m) 0 1 2 3 8 9) rfl (fun m => TS184_11b c (S184_0l c m)) rounds)
noncomputable def S184_12 (c : CF) (t0 t1 t2 t3 t8 t9 : AV) (h : Heap) : Res := S184_0l c rounds t0 t1 t2 t3 t8 t9 h
theorem TS184_12 (c : CF) : (rk P0 c 134 c184.s2).1 k184 [] k184 gK = L6 (S184_12 c) 0 1 2 3 8 9 := Eq.trans (block_t (id := 0) (by kernel_rfl) (TS184_0l c)) (by funext s h; kernel_rfl)
noncomputable def S184_13 (c : CF) (t0 t1 t2 t3 t8 : AV) (h : Heap) : Res := S184_12 c t0 t1 t2 t3 t8 tL h
theorem TS184_13 (c : CF) : (rk P0 c 134 c184.snd).1 k184 [] k184 gK = L5 (S184_13 c) 0 1 2 3 8 := Eq.trans (seq_t (by kernel_rfl) (TS184_12 c) rfl) (by funext s h; kernel_rfl)
noncomputable def F184 (c : CF) (a0 a1 a2 a3 : AV) (h : Heap) : Res := S184_13 c a0 a1 a2 a3 tL h
theorem TF184 (c : CF) (a0 a1 a2 a3 : AV) (h : Heap) : (rk P0 c 134 c184).1 k184 [] k184 gK (argsTr gl 0 [a0,a1,a2,a3]) h = F184 c a0 a1 a2 a3 h := Eq.trans (congrFun (congrFun (seq_t (by kernel_rfl) (TS184_13 c) rfl) _) _) (by kernel_rfl)
noncomputable def N184 : FnF := n4 F184
theorem N184_ok : FnOk P0 gl 184 N184 := n4_ok namesOk mixedOrders lowOk Tryz.func184 (by kernel_rfl) (by kernel_rfl) (by kernel_rfl) TF184
noncomputable def c188 : Code := codeOf Tryz.f188
noncomputable def k188 : Kt := finK P0 Tryz.f188.results.toList
noncomputable def S188_0 (c : CF) (t0 t5 : AV) (h : Heap) : Res := opt (fastCut t0 none (some t5) none) fun t17 => eqH h h (opt (fastBin .add t5 (iL 1)) fun t20 => opt (fastCut t0 (some t20) none none) fun t21 => eqH h h (some ((.tup [t17,t21,tL]),h)))
theorem TS188_0 (c : CF) : (rk P0 c 22 c188.s4).1 k188 [] k188 gK = L2 (S188_0 c) 0 5 := by funext s h; kernel_rfl
noncomputable def S188_2b (c : CF) (r1 : A2) (t0 t5 : AV) (h : Heap) : Res := opt (fastIndex t0 t5) fun t11 => opt (fastBin .neq t11 (uL 46)) fun t12 => test t12 (opt (fastBin .add t5 (iL 1)) fun t14 => r1 t0 t14 h) (S188_0 c t0 t5 h)
theorem TS188_2b (c : CF) (r1 : A2) : (rk P0 c 22 c188.s3.fst.bd.bd).1 (L2 r1 0 5) [(0,(L2 (S188_0 c) 0 5))] k188 gK = L2 (S188_2b c r1) 0 5 := by funext s h; kernel_rfl
noncomputable def S188_1l (c : CF) : Nat → A2
  | 0 => fun _ _ _ => none
  | k + 1 => S188_2b c (S188_1l c k)
theorem TS188_1l (c : CF) : (rk P0 c 22 c188.s3.fst.bd).1 (L2 (S188_0 c) 0 5) [(0,(L2 (S188_0 c) 0 5))] k188 gK = L2 (S188_1l c rounds) 0 5 := loop_t (by kernel_rfl) (loop_ind (A := fun m => L2 (S188_1l c m) 0 5) rfl (fun m => TS188_2b c (S188_1l c m)) rounds)
noncomputable def S188_3 (c : CF) (t0 t5 : AV) (h : Heap) : Res := S188_1l c rounds t0 t5 h
theorem TS188_3 (c : CF) : (rk P0 c 22 c188.s3).1 k188 [] k188 gK = L2 (S188_3 c) 0 5 := Eq.trans (seq_t (by kernel_rfl) (TS188_0 c) (block_t (id := 0) (by kernel_rfl) (TS188_1l c))) (by funext s h; kernel_rfl)
noncomputable def S188_4 (c : CF) (t0 : AV) (h : Heap) : Res := S188_3 c t0 (iL 0) h
theorem TS188_4 (c : CF) : (rk P0 c 22 c188.s2).1 k188 [] k188 gK = L1 (S188_4 c) 0 := Eq.trans (seq_t (by kernel_rfl) (TS188_3 c) rfl) (by funext s h; kernel_rfl)
noncomputable def S188_5 (c : CF) (t0 : AV) (h : Heap) : Res := opt2 (c 170 [t0] h) fun t7 h1 => opt (fastBin .neq t7 (iL 4)) fun t8 => test t8 (some ((.tup [eL,eL,fL]),h1)) (S188_4 c t0 h1)
theorem TS188_5 (c : CF) : (rk P0 c 22 c188.snd).1 k188 [] k188 gK = L1 (S188_5 c) 0 := Eq.trans (seq_t (by kernel_rfl) (TS188_4 c) rfl) (by funext s h; kernel_rfl)
noncomputable def F188 (c : CF) (a0 : AV) (h : Heap) : Res := S188_5 c a0 h
theorem TF188 (c : CF) (a0 : AV) (h : Heap) : (rk P0 c 22 c188).1 k188 [] k188 gK (argsTr gl 0 [a0]) h = F188 c a0 h := Eq.trans (congrFun (congrFun (seq_t (by kernel_rfl) (TS188_5 c) rfl) _) _) (by kernel_rfl)
noncomputable def N188 : FnF := n1 F188
theorem N188_ok : FnOk P0 gl 188 N188 := n1_ok namesOk mixedOrders lowOk Tryz.func188 (by kernel_rfl) (by kernel_rfl) (by kernel_rfl) TF188
noncomputable def c191 : Code := codeOf Tryz.f191
noncomputable def k191 : Kt := finK P0 Tryz.f191.results.toList
noncomputable def F191 (c : CF) (h : Heap) : Res := opt2 (bsliceX 1 eL 13 [(0,(sL [97,100,100])),(1,(sL [115,117,98])),(2,(sL [109,117,108])),(3,(sL [110,101,103])),(4,(sL [99,111,110,106])),(5,(sL [114,101])),(6,(sL [105,109])),(7,(sL [101,113])),(8,(sL [108,116])),(9,(sL [99,97,116])),(10,(sL [108,101,110])),(11,(sL [97,116])),(12,(sL [99,117,116]))] h) fun t1 h1 => some (t1,h1)
theorem TF191 (c : CF) (h : Heap) : (rk P0 c 2 c191).1 k191 [] k191 gK (argsTr gl 0 []) h = F191 c h := by kernel_rfl
noncomputable def N191 : FnF := n0 F191
theorem N191_ok : FnOk P0 gl 191 N191 := n0_ok namesOk mixedOrders lowOk Tryz.func191 (by kernel_rfl) (by kernel_rfl) (by kernel_rfl) TF191
noncomputable def c192 : Code := codeOf Tryz.f192
noncomputable def k192 : Kt := finK P0 Tryz.f192.results.toList
noncomputable def S192_0 (c : CF) (t1 t2 t13 : AV) (h : Heap) : Res := opt (fieldAddrX 3 t2) fun t184 => opt (loadX none t184 h) fun t185 => opt (indexAddrS 4 t185 (iL 2) h) fun t186 => opt (loadX (some 4) t186 h) fun t187 => opt2 (c 192 [t187,t1] h) fun t189 h1 => opt (extractX t189 0) fun t190 => opt (extractX t189 1) fun t191 => opt (extractX t189 2) fun t192 => opt (fastBin .neq t191 (iL 0)) fun t194 => test t194 (some ((.tup [eL,t191,t192]),h1)) (opt (lenS t13) fun t198 => opt (fastBin .gtr t198 (iL 6)) fun t199 => test t199 (opt (fieldAddrX 1 t2) fun t200 => opt (loadX none t200 h1) fun t201 => eqH h1 h1 (some ((.tup [eL,(iL 19),t201]),h1))) (opt2 (c 84 [t13,t190] h1) fun t204 h2 => eqH h2 h1 (opt (fieldAddrX 1 t2) fun t205 => opt (loadX none t205 h1) fun t206 => eqH h1 h1 (opt2 (c 230 [t204,t206] h1) fun t207 h3 => eqH h3 h1 (opt (extractX t207 0) fun t208 => opt (extractX t207 1) fun t209 => opt (extractX t207 2) fun t210 => some ((.tup [t208,t209,t210]),h1))))))
theorem TS192_0 (c : CF) : (rk P0 c 211 c192.s7).1 k192 [] k192 gK = L3 (S192_0 c) 1 2 13 := by funext s h; kernel_rfl
noncomputable def S192_2b (c : CF) (r1 : A4) (t1 t2 t13 t14 : AV) (h : Heap) : Res := opt (fieldAddrX 3 t2) fun t152 => opt (loadX none t152 h) fun t153 => opt (indexAddrS 4 t153 (iL 1) h) fun t154 => opt (fieldAddrX 3 t154) fun t155 => opt (loadX none t155 h) fun t156 => opt (lenS t156) fun t157 => opt (fastBin .lss t14 t157) fun t158 => test t158 (opt (fieldAddrX 3 t2) fun t162 => opt (loadX none t162 h) fun t163 => opt (indexAddrS 4 t163 (iL 1) h) fun t164 => opt (fieldAddrX 3 t164) fun t165 => opt (loadX none t165 h) fun t166 => opt (indexAddrS 4 t166 t14 h) fun t168 => opt (loadX (some 4) t168 h) fun t169 => opt2 (c 192 [t169,t1] h) fun t171 h1 => opt (extractX t171 0) fun t172 => opt (extractX t171 1) fun t173 => opt (extractX t171 2) fun t174 => opt (fastBin .neq t173 (iL 0)) fun t176 => test t176 (some ((.tup [eL,t173,t174]),h1)) (opt2 (bsliceX 1 eL 1 [(0,t172)] h1) fun t181 h2 => opt2 (appendX 1 16 t13 t181 h2) fun t182 h3 => opt (fastBin .add t14 (iL 1)) fun t160 => r1 t1 t2 t182 t160 h3)) (S192_0 c t1 t2 t13 h)
theorem TS192_2b (c : CF) (r1 : A4) : (rk P0 c 211 c192.s6.fst.snd.bd.bd).1 (L4 r1 1 2 13 14) [(1,(L3 (S192_0 c) 1 2 13))] k192 gK = L4 (S192_2b c r1) 1 2 13 14 := by funext s h; kernel_rfl
noncomputable def S192_1l (c : CF) : Nat → A4
  | 0 => fun _ _ _ _ _ => none
  | k + 1 => S192_2b c (S192_1l c k)
theorem TS192_1l (c : CF) : (rk P0 c 211 c192.s6.fst.snd.bd).1 (L3 (S192_0 c) 1 2 13) [(1,(L3 (S192_0 c) 1 2 13))] k192 gK = L4 (S192_1l c rounds) 1 2 13 14 := loop_t (by kernel_rfl) (loop_ind (A := fun m => L4 (S192_1l c m) 1 2 13 14) rfl (fun m => TS192_2b c (S192_1l c m)) rounds)
noncomputable def S192_3 (c : CF) (t1 t2 t13 t14 : AV) (h : Heap) : Res := S192_1l c rounds t1 t2 t13 t14 h
theorem TS192_3 (c : CF) : (rk P0 c 211 c192.s6.fst.snd).1 (L3 (S192_0 c) 1 2 13) [] k192 gK = L4 (S192_3 c) 1 2 13 14 := Eq.trans (block_t (id := 1) (by kernel_rfl) (TS192_1l c)) (by funext s h; kernel_rfl)
noncomputable def S192_4 (c : CF) (t1 t2 t13 : AV) (h : Heap) : Res := S192_3 c t1 t2 t13 (iL 0) h
theorem TS192_4 (c : CF) : (rk P0 c 211 c192.s6).1 k192 [] k192 gK = L3 (S192_4 c) 1 2 13 := Eq.trans (seq_t (by kernel_rfl) (TS192_0 c) (seq_t (by kernel_rfl) (TS192_3 c) rfl)) (by funext s h; kernel_rfl)
noncomputable def S192_5 (c : CF) (t1 t2 : AV) (h : Heap) : Res := S192_4 c t1 t2 nL h
theorem TS192_5 (c : CF) : (rk P0 c 211 c192.s5).1 k192 [] k192 gK = L2 (S192_5 c) 1 2 := Eq.trans (seq_t (by kernel_rfl) (TS192_4 c) rfl) (by funext s h; kernel_rfl)
noncomputable def S192_6 (c : CF) (t1 t2 t148 : AV) (h : Heap) : Res := test t148 (opt (fieldAddrX 1 t2) fun t149 => opt (loadX none t149 h) fun t150 => eqH h h (some ((.tup [eL,(iL 12),t150]),h))) (S192_5 c t1 t2 h)
theorem TS192_6 (c : CF) : (rk P0 c 211 c192.s4.fst.snd).1 (L2 (S192_5 c) 1 2) [] k192 gK = L3 (S192_6 c) 1 2 148 := by funext s h; kernel_rfl
noncomputable def S192_7 (c : CF) (t1 t2 : AV) (h : Heap) : Res := opt (fieldAddrX 3 t2) fun t129 => opt (loadX none t129 h) fun t130 => opt (indexAddrS 4 t130 (iL 0) h) fun t131 => opt (fieldAddrX 2 t131) fun t132 => opt (loadX none t132 h) fun t133 => opt (fastBin .neq t133 (sL [102,110])) fun t134 => test t134 (S192_6 c t1 t2 tL h) (opt (fieldAddrX 3 t2) fun t136 => opt (loadX none t136 h) fun t137 => opt (lenS t137) fun t138 => opt (fastBin .neq t138 (iL 3)) fun t139 => test t139 (S192_6 c t1 t2 tL h) (opt (fieldAddrX 3 t2) fun t142 => opt (loadX none t142 h) fun t143 => opt (indexAddrS 4 t143 (iL 1) h) fun t144 => opt (fieldAddrX 0 t144) fun t145 => opt (loadX none t145 h) fun t146 => opt (fastBin .neq t146 (iL 1)) fun t147 => S192_6 c t1 t2 t147 h))
theorem TS192_7 (c : CF) : (rk P0 c 211 c192.s4).1 k192 [] k192 gK = L2 (S192_7 c) 1 2 := Eq.trans (seq_t (by kernel_rfl) (TS192_5 c) (seq_t (by kernel_rfl) (TS192_6 c) rfl)) (by funext s h; kernel_rfl)
noncomputable def S192_8 (c : CF) (t1 t2 t105 : AV) (h : Heap) : Res := test t105 (opt (fieldAddrX 3 t2) fun t107 => opt (loadX none t107 h) fun t108 => opt (indexAddrS 4 t108 (iL 1) h) fun t109 => opt (loadX (some 4) t109 h) fun t110 => opt2 (c 192 [t110,t1] h) fun t112 h1 => opt (extractX t112 0) fun t113 => opt (extractX t112 1) fun t114 => opt (extractX t112 2) fun t115 => opt (fastBin .neq t114 (iL 0)) fun t117 => test t117 (some ((.tup [eL,t114,t115]),h1)) (opt (fastBin .add (sL [91]) t113) fun t121 => opt (fastBin .add t121 (sL [93])) fun t122 => opt (fieldAddrX 1 t2) fun t123 => opt (loadX none t123 h1) fun t124 => opt2 (c 230 [t122,t124] h1) fun t125 h2 => opt (extractX t125 0) fun t126 => opt (extractX t125 1) fun t127 => opt (extractX t125 2) fun t128 => some ((.tup [t126,t127,t128]),h2))) (S192_7 c t1 t2 h)
theorem TS192_8 (c : CF) : (rk P0 c 211 c192.s3.fst.snd).1 (L2 (S192_7 c) 1 2) [] k192 gK = L3 (S192_8 c) 1 2 105 := by funext s h; kernel_rfl
noncomputable def S192_9 (c : CF) (t1 t2 : AV) (h : Heap) : Res := opt (fieldAddrX 3 t2) fun t94 => opt (loadX none t94 h) fun t95 => opt (indexAddrS 4 t95 (iL 0) h) fun t96 => opt (fieldAddrX 2 t96) fun t97 => opt (loadX none t97 h) fun t98 => opt (fastBin .eql t98 (sL [97,114,114,97,121])) fun t99 => test t99 (opt (fieldAddrX 3 t2) fun t101 => opt (loadX none t101 h) fun t102 => opt (lenS t102) fun t103 => opt (fastBin .eql t103 (iL 2)) fun t104 => S192_8 c t1 t2 t104 h) (S192_8 c t1 t2 fL h)
theorem TS192_9 (c : CF) : (rk P0 c 211 c192.s3).1 k192 [] k192 gK = L2 (S192_9 c) 1 2 := Eq.trans (seq_t (by kernel_rfl) (TS192_7 c) (seq_t (by kernel_rfl) (TS192_8 c) rfl)) (by funext s h; kernel_rfl)
noncomputable def S192_10 (c : CF) (t1 t2 t91 : AV) (h : Heap) : Res := test t91 (opt (fieldAddrX 1 t2) fun t92 => opt (loadX none t92 h) fun t93 => eqH h h (some ((.tup [eL,(iL 12),t93]),h))) (S192_9 c t1 t2 h)
theorem TS192_10 (c : CF) : (rk P0 c 211 c192.s2.fst.snd).1 (L2 (S192_9 c) 1 2) [] k192 gK = L3 (S192_10 c) 1 2 91 := by funext s h; kernel_rfl
noncomputable def S192_11 (c : CF) (t1 t2 : AV) (h : Heap) : Res := opt (fieldAddrX 0 t2) fun t75 => opt (loadX none t75 h) fun t76 => opt (fastBin .neq t76 (iL 1)) fun t77 => test t77 (S192_10 c t1 t2 tL h) (opt (fieldAddrX 3 t2) fun t79 => opt (loadX none t79 h) fun t80 => opt (lenS t80) fun t81 => opt (fastBin .eql t81 (iL 0)) fun t82 => test t82 (S192_10 c t1 t2 tL h) (opt (fieldAddrX 3 t2) fun t85 => opt (loadX none t85 h) fun t86 => opt (indexAddrS 4 t86 (iL 0) h) fun t87 => opt (fieldAddrX 0 t87) fun t88 => opt (loadX none t88 h) fun t89 => opt (fastBin .neq t89 (iL 3)) fun t90 => S192_10 c t1 t2 t90 h))
theorem TS192_11 (c : CF) : (rk P0 c 211 c192.s2).1 k192 [] k192 gK = L2 (S192_11 c) 1 2 := Eq.trans (seq_t (by kernel_rfl) (TS192_9 c) (seq_t (by kernel_rfl) (TS192_10 c) rfl)) (by funext s h; kernel_rfl)
noncomputable def S192_12 (c : CF) (t2 : AV) (h : Heap) : Res := opt (fieldAddrX 1 t2) fun t73 => opt (loadX none t73 h) fun t74 => eqH h h (some ((.tup [eL,(iL 12),t74]),h))
theorem TS192_12 (c : CF) : (rk P0 c 211 c192.snd.fst.snd.thn.s2).1 (L2 (S192_11 c) 1 2) [] k192 gK = L1 (S192_12 c) 2 := by funext s h; kernel_rfl
noncomputable def S192_13 (c : CF) (t2 t61 : AV) (h : Heap) : Res := test t61 (opt (fieldAddrX 2 t2) fun t71 => opt (loadX none t71 h) fun t72 => some ((.tup [t72,(iL 0),(iL 0)]),h)) (S192_12 c t2 h)
theorem TS192_13 (c : CF) : (rk P0 c 211 c192.snd.fst.snd.thn.snd.fst.bd.snd.els.snd.els.snd).1 (L1 (S192_12 c) 2) [(0,(L1 (S192_12 c) 2))] k192 gK = L2 (S192_13 c) 2 61 := by funext s h; kernel_rfl
noncomputable def S192_14 (c : CF) (t2 t7 t8 t9 : AV) (h : Heap) : Res := test t9 (opt2 (c 46 [t7] h) fun t65 h1 => test t65 (opt2 (c 97 [t8] h1) fun t69 h2 => S192_13 c t2 t69 h2) (S192_13 c t2 fL h1)) (S192_13 c t2 fL h)
theorem TS192_14 (c : CF) : (rk P0 c 211 c192.snd.fst.snd.thn.snd.fst.bd.snd.els.snd.els).1 (L1 (S192_12 c) 2) [(0,(L1 (S192_12 c) 2))] k192 gK = L4 (S192_14 c) 2 7 8 9 := Eq.trans (seq_t (by kernel_rfl) (TS192_13 c) rfl) (by funext s h; kernel_rfl)
noncomputable def S192_15 (c : CF) (t1 t2 t7 t8 t9 t42 : AV) (h : Heap) : Res := test t42 (opt (fastBin .add t1 (sL [46])) fun t51 => opt (fieldAddrX 2 t2) fun t52 => opt (loadX none t52 h) fun t53 => opt (fastBin .add t51 t53) fun t54 => opt (fieldAddrX 1 t2) fun t55 => opt (loadX none t55 h) fun t56 => opt2 (c 230 [t54,t56] h) fun t57 h1 => opt (extractX t57 0) fun t58 => opt (extractX t57 1) fun t59 => opt (extractX t57 2) fun t60 => some ((.tup [t58,t59,t60]),h1)) (S192_14 c t2 t7 t8 t9 h)
theorem TS192_15 (c : CF) : (rk P0 c 211 c192.snd.fst.snd.thn.snd.fst.bd.snd.els.snd).1 (L1 (S192_12 c) 2) [(0,(L1 (S192_12 c) 2))] k192 gK = L6 (S192_15 c) 1 2 7 8 9 42 := Eq.trans (cond_t (by kernel_rfl) rfl (TS192_14 c)) (by funext s h; kernel_rfl)
noncomputable def S192_16 (c : CF) (t1 t2 t7 t8 t9 : AV) (h : Heap) : Res := opt (notX t9) fun t44 => test t44 (opt (fieldAddrX 2 t2) fun t46 => opt (loadX none t46 h) fun t47 => opt2 (c 97 [t47] h) fun t48 h1 => S192_15 c t1 t2 t7 t8 t9 t48 h1) (S192_15 c t1 t2 t7 t8 t9 fL h)
theorem TS192_16 (c : CF) : (rk P0 c 211 c192.snd.fst.snd.thn.snd.fst.bd.snd.els).1 (L1 (S192_12 c) 2) [(0,(L1 (S192_12 c) 2))] k192 gK = L5 (S192_16 c) 1 2 7 8 9 := Eq.trans (seq_t (by kernel_rfl) (TS192_15 c) rfl) (by funext s h; kernel_rfl)
noncomputable def S192_17 (c : CF) (t1 t2 t7 t8 t9 t31 : AV) (h : Heap) : Res := test t31 (opt (fieldAddrX 2 t2) fun t40 => opt (loadX none t40 h) fun t41 => some ((.tup [t41,(iL 0),(iL 0)]),h)) (S192_16 c t1 t2 t7 t8 t9 h)
theorem TS192_17 (c : CF) : (rk P0 c 211 c192.snd.fst.snd.thn.snd.fst.bd.snd).1 (L1 (S192_12 c) 2) [(0,(L1 (S192_12 c) 2))] k192 gK = L6 (S192_17 c) 1 2 7 8 9 31 := Eq.trans (cond_t (by kernel_rfl) rfl (TS192_16 c)) (by funext s h; kernel_rfl)
noncomputable def S192_18 (c : CF) (t1 t2 t7 t8 t9 : AV) (h : Heap) : Res := opt (fieldAddrX 2 t2) fun t32 => opt (loadX none t32 h) fun t33 => opt (fastBin .eql t33 (sL [110,117,109])) fun t34 => test t34 (S192_17 c t1 t2 t7 t8 t9 tL h) (opt (fieldAddrX 2 t2) fun t36 => opt (loadX none t36 h) fun t37 => opt (fastBin .eql t37 (sL [98,121,116,101,115])) fun t38 => S192_17 c t1 t2 t7 t8 t9 t38 h)
theorem TS192_18 (c : CF) : (rk P0 c 211 c192.snd.fst.snd.thn.snd).1 (L2 (S192_11 c) 1 2) [] k192 gK = L5 (S192_18 c) 1 2 7 8 9 := Eq.trans (seq_t (by kernel_rfl) (TS192_12 c) (block_t (id := 0) (by kernel_rfl) (seq_t (by kernel_rfl) (TS192_17 c) rfl))) (by funext s h; kernel_rfl)
noncomputable def S192_19 (c : CF) (t1 t2 : AV) (h : Heap) : Res := opt (fieldAddrX 2 t2) fun t25 => opt (loadX none t25 h) fun t26 => opt2 (c 149 [t26] h) fun t27 h1 => opt (extractX t27 0) fun t28 => opt (extractX t27 1) fun t29 => opt (extractX t27 2) fun t30 => S192_18 c t1 t2 t28 t29 t30 h1
theorem TS192_19 (c : CF) : (rk P0 c 211 c192.snd.fst.snd.thn).1 (L2 (S192_11 c) 1 2) [] k192 gK = L2 (S192_19 c) 1 2 := Eq.trans (seq_t (by kernel_rfl) (TS192_18 c) rfl) (by funext s h; kernel_rfl)
noncomputable def S192_20 (c : CF) (t1 t2 t23 : AV) (h : Heap) : Res := test t23 (S192_19 c t1 t2 h) (S192_11 c t1 t2 h)
theorem TS192_20 (c : CF) : (rk P0 c 211 c192.snd.fst.snd).1 (L2 (S192_11 c) 1 2) [] k192 gK = L3 (S192_20 c) 1 2 23 := Eq.trans (cond_t (by kernel_rfl) (TS192_19 c) rfl) (by funext s h; kernel_rfl)
noncomputable def S192_21 (c : CF) (t1 t2 : AV) (h : Heap) : Res := opt (fieldAddrX 0 t2) fun t21 => opt (loadX none t21 h) fun t22 => opt (fastBin .eql t22 (iL 3)) fun t23 => S192_20 c t1 t2 t23 h
theorem TS192_21 (c : CF) : (rk P0 c 211 c192.snd).1 k192 [] k192 gK = L2 (S192_21 c) 1 2 := Eq.trans (seq_t (by kernel_rfl) (TS192_11 c) (seq_t (by kernel_rfl) (TS192_20 c) rfl)) (by funext s h; kernel_rfl)
noncomputable def F192 (c : CF) (a0 a1 : AV) (h : Heap) : Res := opt2 (box a0 h) fun t2 h1 => S192_21 c a1 t2 h1
theorem TF192 (c : CF) (a0 a1 : AV) (h : Heap) : (rk P0 c 211 c192).1 k192 [] k192 gK (argsTr gl 0 [a0,a1]) h = F192 c a0 a1 h := Eq.trans (congrFun (congrFun (seq_t (by kernel_rfl) (TS192_21 c) rfl) _) _) (by kernel_rfl)
noncomputable def N192 : FnF := n2 F192
theorem N192_ok : FnOk P0 gl 192 N192 := n2_ok namesOk mixedOrders lowOk Tryz.func192 (by kernel_rfl) (by kernel_rfl) (by kernel_rfl) TF192
noncomputable def c193 : Code := codeOf Tryz.f193
noncomputable def k193 : Kt := finK P0 Tryz.f193.results.toList
noncomputable def S193_0 (c : CF) (t0 t5 t6 : AV) (h : Heap) : Res := opt (fastCut t0 (some t6) none none) fun t38 => eqH h h (opt (fastBin .gtr t6 (iL 0)) fun t40 => some ((.tup [t5,t38,t40]),h))
theorem TS193_0 (c : CF) : (rk P0 c 41 c193.s4).1 k193 [] k193 gK = L3 (S193_0 c) 0 5 6 := by funext s h; kernel_rfl
noncomputable def S193_2 (c : CF) (r1 : A3) (t0 t5 t6 : AV) (h : Heap) : Res := opt (fastBin .add t6 (iL 1)) fun t34 => r1 t0 t5 t34 h
theorem TS193_2 (c : CF) (r1 : A3) : (rk P0 c 41 c193.s3.fst.bd.bd.snd.bd.snd).1 (L3 r1 0 5 6) [(1,(L3 r1 0 5 6)),(0,(L3 (S193_0 c) 0 5 6))] k193 gK = L3 (S193_2 c r1) 0 5 6 := by funext s h; kernel_rfl
noncomputable def S193_3 (c : CF) (r1 : A3) (t0 t5 t6 : AV) (h : Heap) : Res := opt (fastBin .lss t5 (iL 1099511627776)) fun t24 => test t24 (opt (fastBin .mul t5 (iL 10)) fun t26 => opt (fastIndex t0 t6) fun t29 => opt (fastBin .sub t29 (uL 48)) fun t30 => opt (convI .i64 t30) fun t31 => opt (fastBin .add t26 t31) fun t32 => S193_2 c r1 t0 t32 t6 h) (S193_2 c r1 t0 t5 t6 h)
theorem TS193_3 (c : CF) (r1 : A3) : (rk P0 c 41 c193.s3.fst.bd.bd.snd).1 (L3 r1 0 5 6) [(0,(L3 (S193_0 c) 0 5 6))] k193 gK = L3 (S193_3 c r1) 0 5 6 := Eq.trans (block_t (id := 1) (by kernel_rfl) (seq_t (by kernel_rfl) (TS193_2 c r1) rfl)) (by funext s h; kernel_rfl)
noncomputable def S193_4b (c : CF) (r1 : A3) (t0 t5 t6 : AV) (h : Heap) : Res := opt (lenStr t0) fun t9 => opt (fastBin .lss t6 t9) fun t10 => test t10 (opt (fastIndex t0 t6) fun t14 => opt (fastBin .geq t14 (uL 48)) fun t15 => test t15 (opt (fastIndex t0 t6) fun t20 => opt (fastBin .leq t20 (uL 57)) fun t21 => test t21 (S193_3 c r1 t0 t5 t6 h) (S193_0 c t0 t5 t6 h)) (S193_0 c t0 t5 t6 h)) (S193_0 c t0 t5 t6 h)
theorem TS193_4b (c : CF) (r1 : A3) : (rk P0 c 41 c193.s3.fst.bd.bd).1 (L3 r1 0 5 6) [(0,(L3 (S193_0 c) 0 5 6))] k193 gK = L3 (S193_4b c r1) 0 5 6 := Eq.trans (seq_t (by kernel_rfl) (TS193_3 c r1) rfl) (by funext s h; kernel_rfl)
noncomputable def S193_1l (c : CF) : Nat → A3
  | 0 => fun _ _ _ _ => none
  | k + 1 => S193_4b c (S193_1l c k)
theorem TS193_1l (c : CF) : (rk P0 c 41 c193.s3.fst.bd).1 (L3 (S193_0 c) 0 5 6) [(0,(L3 (S193_0 c) 0 5 6))] k193 gK = L3 (S193_1l c rounds) 0 5 6 := loop_t (by kernel_rfl) (loop_ind (A := fun m => L3 (S193_1l c m) 0 5 6) rfl (fun m => TS193_4b c (S193_1l c m)) rounds)
noncomputable def S193_5 (c : CF) (t0 t5 t6 : AV) (h : Heap) : Res := S193_1l c rounds t0 t5 t6 h
theorem TS193_5 (c : CF) : (rk P0 c 41 c193.s3).1 k193 [] k193 gK = L3 (S193_5 c) 0 5 6 := Eq.trans (seq_t (by kernel_rfl) (TS193_0 c) (block_t (id := 0) (by kernel_rfl) (TS193_1l c))) (by funext s h; kernel_rfl)
noncomputable def S193_6 (c : CF) (t0 t5 : AV) (h : Heap) : Res := S193_5 c t0 t5 (iL 0) h
theorem TS193_6 (c : CF) : (rk P0 c 41 c193.s2).1 k193 [] k193 gK = L2 (S193_6 c) 0 5 := Eq.trans (seq_t (by kernel_rfl) (TS193_5 c) rfl) (by funext s h; kernel_rfl)
noncomputable def S193_7 (c : CF) (t0 : AV) (h : Heap) : Res := S193_6 c t0 (iL 0) h
theorem TS193_7 (c : CF) : (rk P0 c 41 c193.snd).1 k193 [] k193 gK = L1 (S193_7 c) 0 := Eq.trans (seq_t (by kernel_rfl) (TS193_6 c) rfl) (by funext s h; kernel_rfl)
noncomputable def F193 (c : CF) (a0 : AV) (h : Heap) : Res := S193_7 c a0 h
theorem TF193 (c : CF) (a0 : AV) (h : Heap) : (rk P0 c 41 c193).1 k193 [] k193 gK (argsTr gl 0 [a0]) h = F193 c a0 h := Eq.trans (congrFun (congrFun (seq_t (by kernel_rfl) (TS193_7 c) rfl) _) _) (by kernel_rfl)
noncomputable def N193 : FnF := n1 F193
theorem N193_ok : FnOk P0 gl 193 N193 := n1_ok namesOk mixedOrders lowOk Tryz.func193 (by kernel_rfl) (by kernel_rfl) (by kernel_rfl) TF193
noncomputable def c194 : Code := codeOf Tryz.f194
noncomputable def k194 : Kt := finK P0 Tryz.f194.results.toList
noncomputable def F194 (c : CF) (a0 a1 : AV) (h : Heap) : Res := opt2 (c 231 [a0,a1] h) fun t11 h1 => opt (extractX t11 0) fun t12 => opt (extractX t11 1) fun t13 => opt (fastBin .eql t13 (iL 0)) fun t16 => some ((.tup [t12,t16]),h1)
theorem TF194 (c : CF) (a0 a1 : AV) (h : Heap) : (rk P0 c 17 c194).1 k194 [] k194 gK (argsTr gl 0 [a0,a1]) h = F194 c a0 a1 h := by kernel_rfl
noncomputable def N194 : FnF := n2 F194
theorem N194_ok : FnOk P0 gl 194 N194 := n2_ok namesOk mixedOrders lowOk Tryz.func194 (by kernel_rfl) (by kernel_rfl) (by kernel_rfl) TF194
noncomputable def c195 : Code := codeOf Tryz.f195
noncomputable def k195 : Kt := finK P0 Tryz.f195.results.toList
noncomputable def S195_0 (c : CF) (t5 : AV) (h : Heap) : Res := some (t5,h)
theorem TS195_0 (c : CF) : (rk P0 c 30 c195.s3).1 k195 [] k195 gK = L1 (S195_0 c) 5 := by funext s h; kernel_rfl
noncomputable def S195_2 (c : CF) (r1 : A4) (t0 t1 t5 t6 : AV) (h : Heap) : Res := opt (indexAddrS 4 t1 t6 h) fun t24 => opt (loadX (some 4) t24 h) fun t25 => opt2 (c 103 [t0,t25] h) fun t26 h1 => opt2 (bsliceX 9 (.agg [(iL 0),(iL 0),eL,cL,eL,eL,nL,nL,nL]) 1 [(0,t26)] h1) fun t27 h2 => opt2 (appendX 9 152 t5 t27 h2) fun t28 h3 => opt (fastBin .add t6 (iL 1)) fun t19 => r1 t0 t1 t28 t19 h3
theorem TS195_2 (c : CF) (r1 : A4) : (rk P0 c 30 c195.s2.fst.snd.bd.bd.snd).1 (L4 r1 0 1 5 6) [(0,(L1 (S195_0 c) 5))] k195 gK = L4 (S195_2 c r1) 0 1 5 6 := by funext s h; kernel_rfl
noncomputable def S195_3b (c : CF) (r1 : A4) (t0 t1 t5 t6 : AV) (h : Heap) : Res := opt (lenS t1) fun t9 => opt (fastBin .lss t6 t9) fun t10 => test t10 (opt (nilCheckX t0) fun t13 => opt (fieldAddrX 1 t13) fun t14 => opt (loadX none t14 h) fun t15 => opt (fastBin .eql t15 (iL 0)) fun t16 => test t16 (S195_2 c r1 t0 t1 t5 t6 h) (S195_0 c t5 h)) (S195_0 c t5 h)
theorem TS195_3b (c : CF) (r1 : A4) : (rk P0 c 30 c195.s2.fst.snd.bd.bd).1 (L4 r1 0 1 5 6) [(0,(L1 (S195_0 c) 5))] k195 gK = L4 (S195_3b c r1) 0 1 5 6 := Eq.trans (seq_t (by kernel_rfl) (TS195_2 c r1) rfl) (by funext s h; kernel_rfl)
noncomputable def S195_1l (c : CF) : Nat → A4
  | 0 => fun _ _ _ _ _ => none
  | k + 1 => S195_3b c (S195_1l c k)
theorem TS195_1l (c : CF) : (rk P0 c 30 c195.s2.fst.snd.bd).1 (L1 (S195_0 c) 5) [(0,(L1 (S195_0 c) 5))] k195 gK = L4 (S195_1l c rounds) 0 1 5 6 := loop_t (by kernel_rfl) (loop_ind (A := fun m => L4 (S195_1l c m) 0 1 5 6) rfl (fun m => TS195_3b c (S195_1l c m)) rounds)
noncomputable def S195_4 (c : CF) (t0 t1 t5 t6 : AV) (h : Heap) : Res := S195_1l c rounds t0 t1 t5 t6 h
theorem TS195_4 (c : CF) : (rk P0 c 30 c195.s2.fst.snd).1 (L1 (S195_0 c) 5) [] k195 gK = L4 (S195_4 c) 0 1 5 6 := Eq.trans (block_t (id := 0) (by kernel_rfl) (TS195_1l c)) (by funext s h; kernel_rfl)
noncomputable def S195_5 (c : CF) (t0 t1 t5 : AV) (h : Heap) : Res := S195_4 c t0 t1 t5 (iL 0) h
theorem TS195_5 (c : CF) : (rk P0 c 30 c195.s2).1 k195 [] k195 gK = L3 (S195_5 c) 0 1 5 := Eq.trans (seq_t (by kernel_rfl) (TS195_0 c) (seq_t (by kernel_rfl) (TS195_4 c) rfl)) (by funext s h; kernel_rfl)
noncomputable def S195_6 (c : CF) (t0 t1 : AV) (h : Heap) : Res := S195_5 c t0 t1 nL h
theorem TS195_6 (c : CF) : (rk P0 c 30 c195.snd).1 k195 [] k195 gK = L2 (S195_6 c) 0 1 := Eq.trans (seq_t (by kernel_rfl) (TS195_5 c) rfl) (by funext s h; kernel_rfl)
noncomputable def F195 (c : CF) (a0 a1 : AV) (h : Heap) : Res := S195_6 c a0 a1 h
theorem TF195 (c : CF) (a0 a1 : AV) (h : Heap) : (rk P0 c 30 c195).1 k195 [] k195 gK (argsTr gl 0 [a0,a1]) h = F195 c a0 a1 h := Eq.trans (congrFun (congrFun (seq_t (by kernel_rfl) (TS195_6 c) rfl) _) _) (by kernel_rfl)
noncomputable def N195 : FnF := n2 F195
theorem N195_ok : FnOk P0 gl 195 N195 := n2_ok namesOk mixedOrders lowOk Tryz.func195 (by kernel_rfl) (by kernel_rfl) (by kernel_rfl) TF195
noncomputable def c196 : Code := codeOf Tryz.f196
noncomputable def k196 : Kt := finK P0 Tryz.f196.results.toList
noncomputable def S196_0 (c : CF) (t5 t6 : AV) (h : Heap) : Res := opt (loadX (some 9) t5 h) fun t179 => optH (storeX 9 t6 t179 h) fun h1 => opt (loadX (some 9) t6 h1) fun res => some (res,h1)
theorem TS196_0 (c : CF) : (rk P0 c 180 c196.s6).1 k196 [] k196 gK = L2 (S196_0 c) 5 6 := by funext s h; kernel_rfl
noncomputable def S196_2 (c : CF) (r1 : A5) (t0 t4 t5 t6 t7 : AV) (h : Heap) : Res := opt (fastBin .add t7 (iL 1)) fun t53 => r1 t0 t4 t5 t6 t53 h
theorem TS196_2 (c : CF) (r1 : A5) : (rk P0 c 180 c196.s5.fst.snd.bd.bd.s2).1 (L5 r1 0 4 5 6 7) [(0,(L2 (S196_0 c) 5 6))] k196 gK = L5 (S196_2 c r1) 0 4 5 6 7 := by funext s h; kernel_rfl
noncomputable def S196_3 (c : CF) (r1 : A5) (t0 t4 t5 t6 t7 t12 : AV) (h : Heap) : Res := opt (fieldAddrX 8 t5) fun t173 => opt (loadX none t173 h) fun t174 => opt (loadX (some 11) t12 h) fun t175 => opt2 (bsliceX 11 (.agg [eL,nL,(iL 0),(iL 0),eL,cL,eL,eL,nL,nL,nL]) 1 [(0,t175)] h) fun t176 h1 => opt2 (appendX 11 192 t174 t176 h1) fun t177 h2 => opt (fieldAddrX 8 t5) fun t178 => optH (storeX 1 t178 t177 h2) fun h3 => S196_2 c r1 t0 t4 t5 t6 t7 h3
theorem TS196_3 (c : CF) (r1 : A5) : (rk P0 c 180 c196.s5.fst.snd.bd.bd.snd.fst.bd.s9.s2).1 (L5 (S196_2 c r1) 0 4 5 6 7) [(1,(L5 (S196_2 c r1) 0 4 5 6 7)),(0,(L2 (S196_0 c) 5 6))] k196 gK = L6 (S196_3 c r1) 0 4 5 6 7 12 := by funext s h; kernel_rfl
noncomputable def S196_4 (c : CF) (r1 : A5) (t0 t4 t5 t6 t7 t8 t12 : AV) (h : Heap) : Res := opt (nilCheckX t0) fun t162 => opt (fieldAddrX 1 t162) fun t163 => opt (loadX none t163 h) fun t164 => opt (fastBin .eql t164 (iL 0)) fun t165 => test t165 (opt (fieldAddrX 3 t8) fun t167 => opt (loadX none t167 h) fun t168 => opt (indexAddrS 4 t168 (iL 1) h) fun t169 => opt (loadX (some 4) t169 h) fun t170 => opt2 (c 103 [t0,t170] h) fun t171 h1 => opt (fieldAddrX 2 t12) fun t172 => optH (storeX 9 t172 t171 h1) fun h2 => S196_3 c r1 t0 t4 t5 t6 t7 t12 h2) (S196_3 c r1 t0 t4 t5 t6 t7 t12 h)
theorem TS196_4 (c : CF) (r1 : A5) : (rk P0 c 180 c196.s5.fst.snd.bd.bd.snd.fst.bd.s9.snd).1 (L5 (S196_2 c r1) 0 4 5 6 7) [(1,(L5 (S196_2 c r1) 0 4 5 6 7)),(0,(L2 (S196_0 c) 5 6))] k196 gK = L7 (S196_4 c r1) 0 4 5 6 7 8 12 := Eq.trans (seq_t (by kernel_rfl) (TS196_3 c r1) rfl) (by funext s h; kernel_rfl)
noncomputable def S196_6b (c : CF) (r1 : A5) (r5 : A9) (t0 t4 t5 t6 t7 t8 t9 t12 t13 : AV) (h : Heap) : Res := opt (fieldAddrX 3 t9) fun t143 => opt (loadX none t143 h) fun t144 => opt (lenS t144) fun t145 => opt (fastBin .lss t13 t145) fun t146 => test t146 (opt (fieldAddrX 1 t12) fun t149 => opt (loadX none t149 h) fun t150 => eqH h h (opt (fieldAddrX 3 t9) fun t152 => opt (loadX none t152 h) fun t153 => eqH h h (opt (indexAddrS 4 t153 t13 h) fun t155 => eqH h h (opt (loadX (some 4) t155 h) fun t156 => eqH h h (opt2 (c 101 [t0,t156] h) fun t157 h1 => opt (loadX none t149 h1) fun t150_1 => eqK t150_1 t150 (eqH h1 h1 (opt2 (bsliceX 1 eL 1 [(0,t157)] h1) fun t158 h2 => eqH h2 h1 (opt2 (appendX 1 16 t150 t158 h1) fun t159 h3 => opt (fieldAddrX 1 t12) fun t160 => optH (storeX 1 t160 t159 h3) fun h4 => opt (fastBin .add t13 (iL 1)) fun t148 => r5 t0 t4 t5 t6 t7 t8 t9 t12 t148 h4)))))))) (S196_4 c r1 t0 t4 t5 t6 t7 t8 t12 h)
theorem TS196_6b (c : CF) (r1 : A5) (r5 : A9) : (rk P0 c 180 c196.s5.fst.snd.bd.bd.snd.fst.bd.s9.fst.snd.bd.bd).1 (L9 r5 0 4 5 6 7 8 9 12 13) [(4,(L7 (S196_4 c r1) 0 4 5 6 7 8 12)),(1,(L5 (S196_2 c r1) 0 4 5 6 7)),(0,(L2 (S196_0 c) 5 6))] k196 gK = L9 (S196_6b c r1 r5) 0 4 5 6 7 8 9 12 13 := by funext s h; kernel_rfl
noncomputable def S196_5l (c : CF) (r1 : A5) : Nat → A9
  | 0 => fun _ _ _ _ _ _ _ _ _ _ => none
  | k + 1 => S196_6b c r1 (S196_5l c r1 k)
theorem TS196_5l (c : CF) (r1 : A5) : (rk P0 c 180 c196.s5.fst.snd.bd.bd.snd.fst.bd.s9.fst.snd.bd).1 (L7 (S196_4 c r1) 0 4 5 6 7 8 12) [(4,(L7 (S196_4 c r1) 0 4 5 6 7 8 12)),(1,(L5 (S196_2 c r1) 0 4 5 6 7)),(0,(L2 (S196_0 c) 5 6))] k196 gK = L9 (S196_5l c r1 rounds) 0 4 5 6 7 8 9 12 13 := loop_t (by kernel_rfl) (loop_ind (A := fun m => L9 (S196_5l c r1 m) 0 4 5 6 7 8 9 12 13) rfl (fun m => TS196_6b c r1 (S196_5l c r1 m)) rounds)
noncomputable def S196_7 (c : CF) (r1 : A5) (t0 t4 t5 t6 t7 t8 t9 t12 t13 : AV) (h : Heap) : Res := S196_5l c r1 rounds t0 t4 t5 t6 t7 t8 t9 t12 t13 h
theorem TS196_7 (c : CF) (r1 : A5) : (rk P0 c 180 c196.s5.fst.snd.bd.bd.snd.fst.bd.s9.fst.snd).1 (L7 (S196_4 c r1) 0 4 5 6 7 8 12) [(1,(L5 (S196_2 c r1) 0 4 5 6 7)),(0,(L2 (S196_0 c) 5 6))] k196 gK = L9 (S196_7 c r1) 0 4 5 6 7 8 9 12 13 := Eq.trans (block_t (id := 4) (by kernel_rfl) (TS196_5l c r1)) (by funext s h; kernel_rfl)
noncomputable def S196_8 (c : CF) (r1 : A5) (t0 t4 t5 t6 t7 t8 t9 t12 : AV) (h : Heap) : Res := S196_7 c r1 t0 t4 t5 t6 t7 t8 t9 t12 (iL 1) h
theorem TS196_8 (c : CF) (r1 : A5) : (rk P0 c 180 c196.s5.fst.snd.bd.bd.snd.fst.bd.s9).1 (L5 (S196_2 c r1) 0 4 5 6 7) [(1,(L5 (S196_2 c r1) 0 4 5 6 7)),(0,(L2 (S196_0 c) 5 6))] k196 gK = L8 (S196_8 c r1) 0 4 5 6 7 8 9 12 := Eq.trans (seq_t (by kernel_rfl) (TS196_4 c r1) (seq_t (by kernel_rfl) (TS196_7 c r1) rfl)) (by funext s h; kernel_rfl)
noncomputable def S196_9 (c : CF) (r1 : A5) (t0 t4 t5 t6 t7 t8 t9 t12 t134 : AV) (h : Heap) : Res := test t134 (opt (fieldAddrX 3 t9) fun t136 => opt (loadX none t136 h) fun t137 => opt (indexAddrS 4 t137 (iL 0) h) fun t138 => opt (fieldAddrX 1 t138) fun t139 => opt (loadX none t139 h) fun t140 => opt2 (c 47 [t0,(iL 13),t140] h) fun t141 h1 => S196_8 c r1 t0 t4 t5 t6 t7 t8 t9 t12 h1) (S196_8 c r1 t0 t4 t5 t6 t7 t8 t9 t12 h)
theorem TS196_9 (c : CF) (r1 : A5) : (rk P0 c 180 c196.s5.fst.snd.bd.bd.snd.fst.bd.s8.fst.snd).1 (L8 (S196_8 c r1) 0 4 5 6 7 8 9 12) [(1,(L5 (S196_2 c r1) 0 4 5 6 7)),(0,(L2 (S196_0 c) 5 6))] k196 gK = L9 (S196_9 c r1) 0 4 5 6 7 8 9 12 134 := by funext s h; kernel_rfl
noncomputable def S196_10 (c : CF) (r1 : A5) (t0 t4 t5 t6 t7 t8 t9 t12 : AV) (h : Heap) : Res := opt (fieldAddrX 0 t12) fun t125 => opt (loadX none t125 h) fun t126 => opt2 (c 97 [t126] h) fun t127 h1 => opt (notX t127) fun t128 => test t128 (opt (fieldAddrX 0 t12) fun t130 => opt (loadX none t130 h1) fun t131 => opt2 (c 155 [t131,tL] h1) fun t132 h2 => opt (notX t132) fun t133 => S196_9 c r1 t0 t4 t5 t6 t7 t8 t9 t12 t133 h2) (S196_9 c r1 t0 t4 t5 t6 t7 t8 t9 t12 fL h1)
theorem TS196_10 (c : CF) (r1 : A5) : (rk P0 c 180 c196.s5.fst.snd.bd.bd.snd.fst.bd.s8).1 (L5 (S196_2 c r1) 0 4 5 6 7) [(1,(L5 (S196_2 c r1) 0 4 5 6 7)),(0,(L2 (S196_0 c) 5 6))] k196 gK = L8 (S196_10 c r1) 0 4 5 6 7 8 9 12 := Eq.trans (seq_t (by kernel_rfl) (TS196_8 c r1) (seq_t (by kernel_rfl) (TS196_9 c r1) rfl)) (by funext s h; kernel_rfl)
noncomputable def S196_11 (c : CF) (r1 : A5) (t0 t4 t5 t6 t7 t8 t9 : AV) (h : Heap) : Res := opt (fieldAddrX 3 t9) fun t119 => opt (loadX none t119 h) fun t120 => opt (indexAddrS 4 t120 (iL 0) h) fun t121 => opt (fieldAddrX 2 t121) fun t122 => opt (loadX none t122 h) fun t123 => opt (buildX [eL,nL,(iL 0),(iL 0),eL,cL,eL,eL,nL,nL,nL] [(0,1),(1,1),(2,9)] [(0,t123)]) fun t124 => opt2 (box (.agg [eL,nL,(iL 0),(iL 0),eL,cL,eL,eL,nL,nL,nL]) h) fun t12 h1 => optH (storeX 11 t12 t124 h1) fun h2 => S196_10 c r1 t0 t4 t5 t6 t7 t8 t9 t12 h2
theorem TS196_11 (c : CF) (r1 : A5) : (rk P0 c 180 c196.s5.fst.snd.bd.bd.snd.fst.bd.s7).1 (L5 (S196_2 c r1) 0 4 5 6 7) [(1,(L5 (S196_2 c r1) 0 4 5 6 7)),(0,(L2 (S196_0 c) 5 6))] k196 gK = L7 (S196_11 c r1) 0 4 5 6 7 8 9 := Eq.trans (seq_t (by kernel_rfl) (TS196_10 c r1) rfl) (by funext s h; kernel_rfl)
noncomputable def S196_12 (c : CF) (r1 : A5) (t0 t4 t5 t6 t7 t8 t9 t10 : AV) (h : Heap) : Res := opt (notX t10) fun t114 => test t114 (opt (fieldAddrX 1 t9) fun t116 => opt (loadX none t116 h) fun t117 => opt2 (c 47 [t0,(iL 12),t117] h) fun t118 h1 => S196_0 c t5 t6 h1) (S196_11 c r1 t0 t4 t5 t6 t7 t8 t9 h)
theorem TS196_12 (c : CF) (r1 : A5) : (rk P0 c 180 c196.s5.fst.snd.bd.bd.snd.fst.bd.s6).1 (L5 (S196_2 c r1) 0 4 5 6 7) [(1,(L5 (S196_2 c r1) 0 4 5 6 7)),(0,(L2 (S196_0 c) 5 6))] k196 gK = L8 (S196_12 c r1) 0 4 5 6 7 8 9 10 := Eq.trans (seq_t (by kernel_rfl) (TS196_11 c r1) rfl) (by funext s h; kernel_rfl)
noncomputable def S196_14 (c : CF) (r1 : A5) (r13 : A9) (t0 t4 t5 t6 t7 t8 t9 t11 : AV) (h : Heap) : Res := opt (fieldAddrX 3 t9) fun t107 => opt (loadX none t107 h) fun t108 => opt (indexAddrS 4 t108 t11 h) fun t110 => opt (loadX (some 4) t110 h) fun t111 => opt2 (c 45 [t111] h) fun t112 h1 => opt (fastBin .add t11 (iL 1)) fun t106 => r13 t0 t4 t5 t6 t7 t8 t9 t112 t106 h1
theorem TS196_14 (c : CF) (r1 : A5) (r13 : A9) : (rk P0 c 180 c196.s5.fst.snd.bd.bd.snd.fst.bd.s5.fst.snd.bd.bd.snd).1 (L9 r13 0 4 5 6 7 8 9 10 11) [(2,(L8 (S196_12 c r1) 0 4 5 6 7 8 9 10)),(1,(L5 (S196_2 c r1) 0 4 5 6 7)),(0,(L2 (S196_0 c) 5 6))] k196 gK = L8 (S196_14 c r1 r13) 0 4 5 6 7 8 9 11 := by funext s h; kernel_rfl
noncomputable def S196_15b (c : CF) (r1 : A5) (r13 : A9) (t0 t4 t5 t6 t7 t8 t9 t10 t11 : AV) (h : Heap) : Res := test t10 (opt (fieldAddrX 3 t9) fun t100 => opt (loadX none t100 h) fun t101 => opt (lenS t101) fun t102 => opt (fastBin .lss t11 t102) fun t103 => test t103 (S196_14 c r1 r13 t0 t4 t5 t6 t7 t8 t9 t11 h) (S196_12 c r1 t0 t4 t5 t6 t7 t8 t9 t10 h)) (S196_12 c r1 t0 t4 t5 t6 t7 t8 t9 t10 h)
theorem TS196_15b (c : CF) (r1 : A5) (r13 : A9) : (rk P0 c 180 c196.s5.fst.snd.bd.bd.snd.fst.bd.s5.fst.snd.bd.bd).1 (L9 r13 0 4 5 6 7 8 9 10 11) [(2,(L8 (S196_12 c r1) 0 4 5 6 7 8 9 10)),(1,(L5 (S196_2 c r1) 0 4 5 6 7)),(0,(L2 (S196_0 c) 5 6))] k196 gK = L9 (S196_15b c r1 r13) 0 4 5 6 7 8 9 10 11 := Eq.trans (seq_t (by kernel_rfl) (TS196_14 c r1 r13) rfl) (by funext s h; kernel_rfl)
noncomputable def S196_13l (c : CF) (r1 : A5) : Nat → A9
  | 0 => fun _ _ _ _ _ _ _ _ _ _ => none
  | k + 1 => S196_15b c r1 (S196_13l c r1 k)
theorem TS196_13l (c : CF) (r1 : A5) : (rk P0 c 180 c196.s5.fst.snd.bd.bd.snd.fst.bd.s5.fst.snd.bd).1 (L8 (S196_12 c r1) 0 4 5 6 7 8 9 10) [(2,(L8 (S196_12 c r1) 0 4 5 6 7 8 9 10)),(1,(L5 (S196_2 c r1) 0 4 5 6 7)),(0,(L2 (S196_0 c) 5 6))] k196 gK = L9 (S196_13l c r1 rounds) 0 4 5 6 7 8 9 10 11 := loop_t (by kernel_rfl) (loop_ind (A := fun m => L9 (S196_13l c r1 m) 0 4 5 6 7 8 9 10 11) rfl (fun m => TS196_15b c r1 (S196_13l c r1 m)) rounds)
noncomputable def S196_16 (c : CF) (r1 : A5) (t0 t4 t5 t6 t7 t8 t9 t10 t11 : AV) (h : Heap) : Res := S196_13l c r1 rounds t0 t4 t5 t6 t7 t8 t9 t10 t11 h
theorem TS196_16 (c : CF) (r1 : A5) : (rk P0 c 180 c196.s5.fst.snd.bd.bd.snd.fst.bd.s5.fst.snd).1 (L8 (S196_12 c r1) 0 4 5 6 7 8 9 10) [(1,(L5 (S196_2 c r1) 0 4 5 6 7)),(0,(L2 (S196_0 c) 5 6))] k196 gK = L9 (S196_16 c r1) 0 4 5 6 7 8 9 10 11 := Eq.trans (block_t (id := 2) (by kernel_rfl) (TS196_13l c r1)) (by funext s h; kernel_rfl)
noncomputable def S196_17 (c : CF) (r1 : A5) (t0 t4 t5 t6 t7 t8 t9 t10 : AV) (h : Heap) : Res := S196_16 c r1 t0 t4 t5 t6 t7 t8 t9 t10 (iL 0) h
theorem TS196_17 (c : CF) (r1 : A5) : (rk P0 c 180 c196.s5.fst.snd.bd.bd.snd.fst.bd.s5).1 (L5 (S196_2 c r1) 0 4 5 6 7) [(1,(L5 (S196_2 c r1) 0 4 5 6 7)),(0,(L2 (S196_0 c) 5 6))] k196 gK = L8 (S196_17 c r1) 0 4 5 6 7 8 9 10 := Eq.trans (seq_t (by kernel_rfl) (TS196_12 c r1) (seq_t (by kernel_rfl) (TS196_16 c r1) rfl)) (by funext s h; kernel_rfl)
noncomputable def S196_18 (c : CF) (r1 : A5) (t0 t4 t5 t6 t7 t8 t9 : AV) (h : Heap) : Res := opt (fieldAddrX 3 t9) fun t93 => opt (loadX none t93 h) fun t94 => opt (lenS t94) fun t95 => opt (fastBin .gtr t95 (iL 0)) fun t96 => S196_17 c r1 t0 t4 t5 t6 t7 t8 t9 t96 h
theorem TS196_18 (c : CF) (r1 : A5) : (rk P0 c 180 c196.s5.fst.snd.bd.bd.snd.fst.bd.s4).1 (L5 (S196_2 c r1) 0 4 5 6 7) [(1,(L5 (S196_2 c r1) 0 4 5 6 7)),(0,(L2 (S196_0 c) 5 6))] k196 gK = L7 (S196_18 c r1) 0 4 5 6 7 8 9 := Eq.trans (seq_t (by kernel_rfl) (TS196_17 c r1) rfl) (by funext s h; kernel_rfl)
noncomputable def S196_19 (c : CF) (r1 : A5) (t0 t4 t5 t6 t7 t8 t9 : AV) (h : Heap) : Res := opt (fieldAddrX 3 t9) fun t84 => opt (loadX none t84 h) fun t85 => opt (lenS t85) fun t86 => opt (fastBin .sub t86 (iL 1)) fun t87 => opt (fastBin .gtr t87 (iL 4)) fun t88 => test t88 (opt (fieldAddrX 1 t8) fun t90 => opt (loadX none t90 h) fun t91 => opt2 (c 47 [t0,(iL 19),t91] h) fun t92 h1 => S196_0 c t5 t6 h1) (S196_18 c r1 t0 t4 t5 t6 t7 t8 t9 h)
theorem TS196_19 (c : CF) (r1 : A5) : (rk P0 c 180 c196.s5.fst.snd.bd.bd.snd.fst.bd.s3).1 (L5 (S196_2 c r1) 0 4 5 6 7) [(1,(L5 (S196_2 c r1) 0 4 5 6 7)),(0,(L2 (S196_0 c) 5 6))] k196 gK = L7 (S196_19 c r1) 0 4 5 6 7 8 9 := Eq.trans (seq_t (by kernel_rfl) (TS196_18 c r1) rfl) (by funext s h; kernel_rfl)
noncomputable def S196_20 (c : CF) (r1 : A5) (t0 t4 t5 t6 t7 t8 : AV) (h : Heap) : Res := opt (fieldAddrX 3 t8) fun t80 => opt (loadX none t80 h) fun t81 => opt (indexAddrS 4 t81 (iL 0) h) fun t82 => opt (loadX (some 4) t82 h) fun t83 => opt2 (box (.agg [(iL 0),(iL 0),eL,nL]) h) fun t9 h1 => optH (storeX 4 t9 t83 h1) fun h2 => S196_19 c r1 t0 t4 t5 t6 t7 t8 t9 h2
theorem TS196_20 (c : CF) (r1 : A5) : (rk P0 c 180 c196.s5.fst.snd.bd.bd.snd.fst.bd.s2).1 (L5 (S196_2 c r1) 0 4 5 6 7) [(1,(L5 (S196_2 c r1) 0 4 5 6 7)),(0,(L2 (S196_0 c) 5 6))] k196 gK = L6 (S196_20 c r1) 0 4 5 6 7 8 := Eq.trans (seq_t (by kernel_rfl) (TS196_19 c r1) rfl) (by funext s h; kernel_rfl)
noncomputable def S196_21 (c : CF) (r1 : A5) (t0 t4 t5 t6 t7 t8 t75 : AV) (h : Heap) : Res := test t75 (opt (fieldAddrX 1 t8) fun t77 => opt (loadX none t77 h) fun t78 => opt2 (c 47 [t0,(iL 12),t78] h) fun t79 h1 => S196_0 c t5 t6 h1) (S196_20 c r1 t0 t4 t5 t6 t7 t8 h)
theorem TS196_21 (c : CF) (r1 : A5) : (rk P0 c 180 c196.s5.fst.snd.bd.bd.snd.fst.bd.snd.fst.snd).1 (L6 (S196_20 c r1) 0 4 5 6 7 8) [(1,(L5 (S196_2 c r1) 0 4 5 6 7)),(0,(L2 (S196_0 c) 5 6))] k196 gK = L7 (S196_21 c r1) 0 4 5 6 7 8 75 := by funext s h; kernel_rfl
noncomputable def S196_22 (c : CF) (r1 : A5) (t0 t4 t5 t6 t7 t8 : AV) (h : Heap) : Res := opt (loadX (some 4) t8 h) fun t59 => opt2 (c 44 [t59] h) fun t60 h1 => opt (notX t60) fun t61 => test t61 (S196_21 c r1 t0 t4 t5 t6 t7 t8 tL h1) (opt (fieldAddrX 3 t8) fun t63 => opt (loadX none t63 h1) fun t64 => opt (lenS t64) fun t65 => opt (fastBin .neq t65 (iL 2)) fun t66 => test t66 (S196_21 c r1 t0 t4 t5 t6 t7 t8 tL h1) (opt (fieldAddrX 3 t8) fun t69 => opt (loadX none t69 h1) fun t70 => opt (indexAddrS 4 t70 (iL 0) h1) fun t71 => opt (loadX (some 4) t71 h1) fun t72 => opt2 (c 44 [t72] h1) fun t73 h2 => opt (notX t73) fun t74 => S196_21 c r1 t0 t4 t5 t6 t7 t8 t74 h2))
theorem TS196_22 (c : CF) (r1 : A5) : (rk P0 c 180 c196.s5.fst.snd.bd.bd.snd.fst.bd.snd).1 (L5 (S196_2 c r1) 0 4 5 6 7) [(1,(L5 (S196_2 c r1) 0 4 5 6 7)),(0,(L2 (S196_0 c) 5 6))] k196 gK = L6 (S196_22 c r1) 0 4 5 6 7 8 := Eq.trans (seq_t (by kernel_rfl) (TS196_20 c r1) (seq_t (by kernel_rfl) (TS196_21 c r1) rfl)) (by funext s h; kernel_rfl)
noncomputable def S196_23 (c : CF) (r1 : A5) (t0 t4 t5 t6 t7 : AV) (h : Heap) : Res := opt (fieldAddrX 3 t4) fun t54 => opt (loadX none t54 h) fun t55 => opt (indexAddrS 4 t55 t7 h) fun t57 => opt (loadX (some 4) t57 h) fun t58 => opt2 (box (.agg [(iL 0),(iL 0),eL,nL]) h) fun t8 h1 => optH (storeX 4 t8 t58 h1) fun h2 => S196_22 c r1 t0 t4 t5 t6 t7 t8 h2
theorem TS196_23 (c : CF) (r1 : A5) : (rk P0 c 180 c196.s5.fst.snd.bd.bd.snd).1 (L5 r1 0 4 5 6 7) [(0,(L2 (S196_0 c) 5 6))] k196 gK = L5 (S196_23 c r1) 0 4 5 6 7 := Eq.trans (seq_t (by kernel_rfl) (TS196_2 c r1) (block_t (id := 1) (by kernel_rfl) (seq_t (by kernel_rfl) (TS196_22 c r1) rfl))) (by funext s h; kernel_rfl)
noncomputable def S196_24b (c : CF) (r1 : A5) (t0 t4 t5 t6 t7 : AV) (h : Heap) : Res := opt (fieldAddrX 3 t4) fun t41 => opt (loadX none t41 h) fun t42 => opt (lenS t42) fun t43 => opt (fastBin .lss t7 t43) fun t44 => test t44 (opt (nilCheckX t0) fun t47 => opt (fieldAddrX 1 t47) fun t48 => opt (loadX none t48 h) fun t49 => opt (fastBin .eql t49 (iL 0)) fun t50 => test t50 (S196_23 c r1 t0 t4 t5 t6 t7 h) (S196_0 c t5 t6 h)) (S196_0 c t5 t6 h)
theorem TS196_24b (c : CF) (r1 : A5) : (rk P0 c 180 c196.s5.fst.snd.bd.bd).1 (L5 r1 0 4 5 6 7) [(0,(L2 (S196_0 c) 5 6))] k196 gK = L5 (S196_24b c r1) 0 4 5 6 7 := Eq.trans (seq_t (by kernel_rfl) (TS196_23 c r1) rfl) (by funext s h; kernel_rfl)
noncomputable def S196_1l (c : CF) : Nat → A5
  | 0 => fun _ _ _ _ _ _ => none
  | k + 1 => S196_24b c (S196_1l c k)
theorem TS196_1l (c : CF) : (rk P0 c 180 c196.s5.fst.snd.bd).1 (L2 (S196_0 c) 5 6) [(0,(L2 (S196_0 c) 5 6))] k196 gK = L5 (S196_1l c rounds) 0 4 5 6 7 := loop_t (by kernel_rfl) (loop_ind (A := fun m => L5 (S196_1l c m) 0 4 5 6 7) rfl (fun m => TS196_24b c (S196_1l c m)) rounds)
noncomputable def S196_25 (c : CF) (t0 t4 t5 t6 t7 : AV) (h : Heap) : Res := S196_1l c rounds t0 t4 t5 t6 t7 h
theorem TS196_25 (c : CF) : (rk P0 c 180 c196.s5.fst.snd).1 (L2 (S196_0 c) 5 6) [] k196 gK = L5 (S196_25 c) 0 4 5 6 7 := Eq.trans (block_t (id := 0) (by kernel_rfl) (TS196_1l c)) (by funext s h; kernel_rfl)
noncomputable def S196_26 (c : CF) (t0 t4 t5 t6 : AV) (h : Heap) : Res := S196_25 c t0 t4 t5 t6 (iL 2) h
theorem TS196_26 (c : CF) : (rk P0 c 180 c196.s5).1 k196 [] k196 gK = L4 (S196_26 c) 0 4 5 6 := Eq.trans (seq_t (by kernel_rfl) (TS196_0 c) (seq_t (by kernel_rfl) (TS196_25 c) rfl)) (by funext s h; kernel_rfl)
noncomputable def S196_27 (c : CF) (t0 t4 t5 t6 : AV) (h : Heap) : Res := opt (fieldAddrX 3 t4) fun t35 => opt (loadX none t35 h) fun t36 => opt (cutZ 4 t36 (some (iL 1)) (some (iL 2)) none h) fun t37 => opt2 (c 195 [t0,t37] h) fun t38 h1 => opt (fieldAddrX 6 t5) fun t39 => optH (storeX 1 t39 t38 h1) fun h2 => S196_26 c t0 t4 t5 t6 h2
theorem TS196_27 (c : CF) : (rk P0 c 180 c196.s4).1 k196 [] k196 gK = L4 (S196_27 c) 0 4 5 6 := Eq.trans (seq_t (by kernel_rfl) (TS196_26 c) rfl) (by funext s h; kernel_rfl)
noncomputable def S196_28 (c : CF) (t0 t4 t5 t6 : AV) (h : Heap) : Res := opt (fieldAddrX 0 t5) fun t33 => optH (storeX 1 t33 (iL 9) h) fun h1 => S196_27 c t0 t4 t5 t6 h1
theorem TS196_28 (c : CF) : (rk P0 c 180 c196.s3).1 k196 [] k196 gK = L4 (S196_28 c) 0 4 5 6 := Eq.trans (seq_t (by kernel_rfl) (TS196_27 c) rfl) (by funext s h; kernel_rfl)
noncomputable def S196_29 (c : CF) (t0 t4 t5 t6 : AV) (h : Heap) : Res := opt (fieldAddrX 3 t4) fun t23 => opt (loadX none t23 h) fun t24 => opt (lenS t24) fun t25 => opt (fastBin .sub t25 (iL 2)) fun t26 => opt (fastBin .gtr t26 (iL 6)) fun t27 => test t27 (opt (fieldAddrX 1 t4) fun t29 => opt (loadX none t29 h) fun t30 => opt2 (c 47 [t0,(iL 19),t30] h) fun t31 h1 => opt (loadX (some 9) t5 h1) fun t32 => optH (storeX 9 t6 t32 h1) fun h2 => opt (loadX (some 9) t6 h2) fun res => some (res,h2)) (S196_28 c t0 t4 t5 t6 h)
theorem TS196_29 (c : CF) : (rk P0 c 180 c196.s2).1 k196 [] k196 gK = L4 (S196_29 c) 0 4 5 6 := Eq.trans (seq_t (by kernel_rfl) (TS196_28 c) rfl) (by funext s h; kernel_rfl)
noncomputable def S196_30 (c : CF) (t0 t4 t5 t6 : AV) (h : Heap) : Res := opt (fieldAddrX 3 t4) fun t14 => opt (loadX none t14 h) fun t15 => opt (lenS t15) fun t16 => opt (fastBin .lss t16 (iL 3)) fun t17 => test t17 (opt (fieldAddrX 1 t4) fun t19 => opt (loadX none t19 h) fun t20 => opt2 (c 47 [t0,(iL 12),t20] h) fun t21 h1 => opt (loadX (some 9) t5 h1) fun t22 => optH (storeX 9 t6 t22 h1) fun h2 => opt (loadX (some 9) t6 h2) fun res => some (res,h2)) (S196_29 c t0 t4 t5 t6 h)
theorem TS196_30 (c : CF) : (rk P0 c 180 c196.snd).1 k196 [] k196 gK = L4 (S196_30 c) 0 4 5 6 := Eq.trans (seq_t (by kernel_rfl) (TS196_29 c) rfl) (by funext s h; kernel_rfl)
noncomputable def F196 (c : CF) (a0 a1 a2 : AV) (h : Heap) : Res := opt2 (box a1 h) fun t4 h1 => opt2 (box a2 h1) fun t5 h2 => opt2 (box (.agg [(iL 0),(iL 0),eL,cL,eL,eL,nL,nL,nL]) h2) fun t6 h3 => S196_30 c a0 t4 t5 t6 h3
theorem TF196 (c : CF) (a0 a1 a2 : AV) (h : Heap) : (rk P0 c 180 c196).1 k196 [] k196 gK (argsTr gl 0 [a0,a1,a2]) h = F196 c a0 a1 a2 h := Eq.trans (congrFun (congrFun (seq_t (by kernel_rfl) (TS196_30 c) rfl) _) _) (by kernel_rfl)
noncomputable def N196 : FnF := n3 F196
theorem N196_ok : FnOk P0 gl 196 N196 := n3_ok namesOk mixedOrders lowOk Tryz.func196 (by kernel_rfl) (by kernel_rfl) (by kernel_rfl) TF196
noncomputable def c197 : Code := codeOf Tryz.f197
noncomputable def k197 : Kt := finK P0 Tryz.f197.results.toList
noncomputable def S197_0 (c : CF) (h : Heap) : Res := some ((iL (-1)),h)
theorem TS197_0 (c : CF) : (rk P0 c 19 c197.s3).1 k197 [] k197 gK = L0 (S197_0 c) := by funext s h; kernel_rfl
noncomputable def S197_2b (c : CF) (r1 : A3) (t0 t3 t4 : AV) (h : Heap) : Res := opt (lenS t3) fun t8 => opt (fastBin .lss t4 t8) fun t9 => test t9 (opt (indexAddrS 1 t3 t4 h) fun t14 => opt (loadX none t14 h) fun t15 => opt (fastBin .eql t15 t0) fun t17 => test t17 (some (t4,h)) (opt (fastBin .add t4 (iL 1)) fun t11 => r1 t0 t3 t11 h)) (S197_0 c h)
theorem TS197_2b (c : CF) (r1 : A3) : (rk P0 c 19 c197.s2.fst.snd.bd.bd).1 (L3 r1 0 3 4) [(0,(L0 (S197_0 c)))] k197 gK = L3 (S197_2b c r1) 0 3 4 := by funext s h; kernel_rfl
noncomputable def S197_1l (c : CF) : Nat → A3
  | 0 => fun _ _ _ _ => none
  | k + 1 => S197_2b c (S197_1l c k)
theorem TS197_1l (c : CF) : (rk P0 c 19 c197.s2.fst.snd.bd).1 (L0 (S197_0 c)) [(0,(L0 (S197_0 c)))] k197 gK = L3 (S197_1l c rounds) 0 3 4 := loop_t (by kernel_rfl) (loop_ind (A := fun m => L3 (S197_1l c m) 0 3 4) rfl (fun m => TS197_2b c (S197_1l c m)) rounds)
noncomputable def S197_3 (c : CF) (t0 t3 t4 : AV) (h : Heap) : Res := S197_1l c rounds t0 t3 t4 h
theorem TS197_3 (c : CF) : (rk P0 c 19 c197.s2.fst.snd).1 (L0 (S197_0 c)) [] k197 gK = L3 (S197_3 c) 0 3 4 := Eq.trans (block_t (id := 0) (by kernel_rfl) (TS197_1l c)) (by funext s h; kernel_rfl)
noncomputable def S197_4 (c : CF) (t0 t3 : AV) (h : Heap) : Res := S197_3 c t0 t3 (iL 0) h
theorem TS197_4 (c : CF) : (rk P0 c 19 c197.s2).1 k197 [] k197 gK = L2 (S197_4 c) 0 3 := Eq.trans (seq_t (by kernel_rfl) (TS197_0 c) (seq_t (by kernel_rfl) (TS197_3 c) rfl)) (by funext s h; kernel_rfl)
noncomputable def S197_5 (c : CF) (t0 : AV) (h : Heap) : Res := opt2 (c 191 [] h) fun t5 h1 => S197_4 c t0 t5 h1
theorem TS197_5 (c : CF) : (rk P0 c 19 c197.snd).1 k197 [] k197 gK = L1 (S197_5 c) 0 := Eq.trans (seq_t (by kernel_rfl) (TS197_4 c) rfl) (by funext s h; kernel_rfl)
noncomputable def F197 (c : CF) (a0 : AV) (h : Heap) : Res := S197_5 c a0 h
theorem TF197 (c : CF) (a0 : AV) (h : Heap) : (rk P0 c 19 c197).1 k197 [] k197 gK (argsTr gl 0 [a0]) h = F197 c a0 h := Eq.trans (congrFun (congrFun (seq_t (by kernel_rfl) (TS197_5 c) rfl) _) _) (by kernel_rfl)
noncomputable def N197 : FnF := n1 F197
theorem N197_ok : FnOk P0 gl 197 N197 := n1_ok namesOk mixedOrders lowOk Tryz.func197 (by kernel_rfl) (by kernel_rfl) (by kernel_rfl) TF197
noncomputable def c204 : Code := codeOf Tryz.f204
noncomputable def k204 : Kt := finK P0 Tryz.f204.results.toList
noncomputable def F204 (c : CF) (a0 a1 : AV) (h : Heap) : Res := opt (lenStr a0) fun t7 => opt (fastBin .lss a1 t7) fun t8 => test t8 (opt (fastIndex a0 a1) fun t12 => opt2 (c 206 [t12] h) fun t13 h1 => test t13 (some (tL,h1)) (opt (fastIndex a0 a1) fun t17 => opt (fastBin .eql t17 (uL 46)) fun t18 => some (t18,h1))) (some (fL,h))
theorem TF204 (c : CF) (a0 a1 : AV) (h : Heap) : (rk P0 c 21 c204).1 k204 [] k204 gK (argsTr gl 0 [a0,a1]) h = F204 c a0 a1 h := by kernel_rfl
noncomputable def N204 : FnF := n2 F204
theorem N204_ok : FnOk P0 gl 204 N204 := n2_ok namesOk mixedOrders lowOk Tryz.func204 (by kernel_rfl) (by kernel_rfl) (by kernel_rfl) TF204
noncomputable def c205 : Code := codeOf Tryz.f205
noncomputable def k205 : Kt := finK P0 Tryz.f205.results.toList
noncomputable def S205_0 (c : CF) (t0 t3 : AV) (h : Heap) : Res := opt (fastBin .add t3 (iL 1)) fun t70 => opt (fastCut t0 (some t70) none none) fun t71 => opt2 (c 171 [t71] h) fun t72 h1 => opt (extractX t72 0) fun t73 => opt (extractX t72 1) fun t74 => opt (fastBin .eql t73 (iL 0)) fun t76 => test t76 (some ((iL 0),h1)) (opt (fastBin .add t3 (iL 1)) fun t78 => opt (fastBin .add t78 t73) fun t80 => some (t80,h1))
theorem TS205_0 (c : CF) : (rk P0 c 81 c205.s5).1 k205 [] k205 gK = L2 (S205_0 c) 0 3 := by funext s h; kernel_rfl
noncomputable def S205_1 (c : CF) (t0 t3 t4 : AV) (h : Heap) : Res := opt (lenStr t0) fun t55 => opt (fastBin .geq t3 t55) fun t56 => test t56 (some ((iL 0),h)) (opt (fastIndex t0 t3) fun t60 => opt (fastBin .neq t60 (uL 41)) fun t61 => test t61 (some ((iL 0),h)) (opt (fastBin .gtr t4 (iL 6)) fun t65 => test t65 (some ((iL 0),h)) (S205_0 c t0 t3 h)))
theorem TS205_1 (c : CF) : (rk P0 c 81 c205.s4).1 k205 [] k205 gK = L3 (S205_1 c) 0 3 4 := Eq.trans (seq_t (by kernel_rfl) (TS205_0 c) rfl) (by funext s h; kernel_rfl)
noncomputable def S205_3 (c : CF) (r2 : A3) (t0 t3 t4 t50 : AV) (h : Heap) : Res := test t50 (opt (fastBin .add t3 (iL 1)) fun t52 => r2 t0 t52 t4 h) (S205_1 c t0 t3 t4 h)
theorem TS205_3 (c : CF) (r2 : A3) : (rk P0 c 81 c205.s3.fst.bd.bd.bd.s6.fst.snd).1 ((rk P0 c 81 c205.s3.fst.bd.bd.bd.s7).1 (L3 r2 0 3 4) [(1,(L3 r2 0 3 4)),(0,(L3 (S205_1 c) 0 3 4))] k205 gK) [(1,(L3 r2 0 3 4)),(0,(L3 (S205_1 c) 0 3 4))] k205 gK = L4 (S205_3 c r2) 0 3 4 50 := by funext s h; kernel_rfl
noncomputable def S205_4 (c : CF) (r2 : A3) (t0 t3 t4 : AV) (h : Heap) : Res := opt (lenStr t0) fun t43 => opt (fastBin .lss t3 t43) fun t44 => test t44 (opt (fastIndex t0 t3) fun t48 => opt (fastBin .eql t48 (uL 44)) fun t49 => S205_3 c r2 t0 t3 t4 t49 h) (S205_3 c r2 t0 t3 t4 fL h)
theorem TS205_4 (c : CF) (r2 : A3) : (rk P0 c 81 c205.s3.fst.bd.bd.bd.s6).1 (L3 r2 0 3 4) [(1,(L3 r2 0 3 4)),(0,(L3 (S205_1 c) 0 3 4))] k205 gK = L3 (S205_4 c r2) 0 3 4 := Eq.trans (seq_t (by kernel_rfl) rfl (seq_t (by kernel_rfl) (TS205_3 c r2) rfl)) (by funext s h; kernel_rfl)
noncomputable def S205_5 (c : CF) (r2 : A3) (t0 t3 t4 t5 : AV) (h : Heap) : Res := opt (fastBin .add t3 t5) fun t40 => S205_4 c r2 t0 t40 t4 h
theorem TS205_5 (c : CF) (r2 : A3) : (rk P0 c 81 c205.s3.fst.bd.bd.bd.s5).1 (L3 r2 0 3 4) [(1,(L3 r2 0 3 4)),(0,(L3 (S205_1 c) 0 3 4))] k205 gK = L4 (S205_5 c r2) 0 3 4 5 := Eq.trans (seq_t (by kernel_rfl) (TS205_4 c r2) rfl) (by funext s h; kernel_rfl)
noncomputable def S205_6 (c : CF) (r2 : A3) (t0 t3 t4 t5 : AV) (h : Heap) : Res := opt (fastBin .add t4 (iL 1)) fun t37 => S205_5 c r2 t0 t3 t37 t5 h
theorem TS205_6 (c : CF) (r2 : A3) : (rk P0 c 81 c205.s3.fst.bd.bd.bd.s4).1 (L3 r2 0 3 4) [(1,(L3 r2 0 3 4)),(0,(L3 (S205_1 c) 0 3 4))] k205 gK = L4 (S205_6 c r2) 0 3 4 5 := Eq.trans (seq_t (by kernel_rfl) (TS205_5 c r2) rfl) (by funext s h; kernel_rfl)
noncomputable def S205_7 (c : CF) (r2 : A3) (t0 t3 t4 t5 : AV) (h : Heap) : Res := opt (fastBin .eql t5 (iL 0)) fun t35 => test t35 (some ((iL 0),h)) (S205_6 c r2 t0 t3 t4 t5 h)
theorem TS205_7 (c : CF) (r2 : A3) : (rk P0 c 81 c205.s3.fst.bd.bd.bd.s3).1 (L3 r2 0 3 4) [(1,(L3 r2 0 3 4)),(0,(L3 (S205_1 c) 0 3 4))] k205 gK = L4 (S205_7 c r2) 0 3 4 5 := Eq.trans (seq_t (by kernel_rfl) (TS205_6 c r2) rfl) (by funext s h; kernel_rfl)
noncomputable def S205_8 (c : CF) (r2 : A3) (t0 t3 t4 : AV) (h : Heap) : Res := opt (fastCut t0 (some t3) none none) fun t30 => opt2 (c 171 [t30] h) fun t31 h1 => opt (extractX t31 0) fun t32 => opt (extractX t31 1) fun t33 => S205_7 c r2 t0 t3 t4 t32 h1
theorem TS205_8 (c : CF) (r2 : A3) : (rk P0 c 81 c205.s3.fst.bd.bd.bd.s2).1 (L3 r2 0 3 4) [(1,(L3 r2 0 3 4)),(0,(L3 (S205_1 c) 0 3 4))] k205 gK = L3 (S205_8 c r2) 0 3 4 := Eq.trans (seq_t (by kernel_rfl) (TS205_7 c r2) rfl) (by funext s h; kernel_rfl)
noncomputable def S205_9 (c : CF) (r2 : A3) (t0 t3 t4 : AV) (h : Heap) : Res := opt (lenStr t0) fun t25 => opt (fastBin .geq t3 t25) fun t26 => test t26 (some ((iL 0),h)) (S205_8 c r2 t0 t3 t4 h)
theorem TS205_9 (c : CF) (r2 : A3) : (rk P0 c 81 c205.s3.fst.bd.bd.bd.snd).1 (L3 r2 0 3 4) [(1,(L3 r2 0 3 4)),(0,(L3 (S205_1 c) 0 3 4))] k205 gK = L3 (S205_9 c r2) 0 3 4 := Eq.trans (seq_t (by kernel_rfl) (TS205_8 c r2) rfl) (by funext s h; kernel_rfl)
noncomputable def S205_10b (c : CF) (r2 : A3) (t0 t3 t4 : AV) (h : Heap) : Res := opt (lenStr t0) fun t11 => opt (fastBin .lss t3 t11) fun t12 => test t12 (opt (fastIndex t0 t3) fun t16 => opt (fastBin .eql t16 (uL 41)) fun t17 => test t17 (opt (fastBin .eql t4 (iL 0)) fun t21 => test t21 (S205_1 c t0 t3 t4 h) (S205_9 c r2 t0 t3 t4 h)) (S205_9 c r2 t0 t3 t4 h)) (S205_9 c r2 t0 t3 t4 h)
theorem TS205_10b (c : CF) (r2 : A3) : (rk P0 c 81 c205.s3.fst.bd.bd).1 (L3 r2 0 3 4) [(0,(L3 (S205_1 c) 0 3 4))] k205 gK = L3 (S205_10b c r2) 0 3 4 := Eq.trans (block_t (id := 1) (by kernel_rfl) (seq_t (by kernel_rfl) (TS205_9 c r2) rfl)) (by funext s h; kernel_rfl)
noncomputable def S205_2l (c : CF) : Nat → A3
  | 0 => fun _ _ _ _ => none
  | k + 1 => S205_10b c (S205_2l c k)
theorem TS205_2l (c : CF) : (rk P0 c 81 c205.s3.fst.bd).1 (L3 (S205_1 c) 0 3 4) [(0,(L3 (S205_1 c) 0 3 4))] k205 gK = L3 (S205_2l c rounds) 0 3 4 := loop_t (by kernel_rfl) (loop_ind (A := fun m => L3 (S205_2l c m) 0 3 4) rfl (fun m => TS205_10b c (S205_2l c m)) rounds)
noncomputable def S205_11 (c : CF) (t0 t3 t4 : AV) (h : Heap) : Res := S205_2l c rounds t0 t3 t4 h
theorem TS205_11 (c : CF) : (rk P0 c 81 c205.s3).1 k205 [] k205 gK = L3 (S205_11 c) 0 3 4 := Eq.trans (seq_t (by kernel_rfl) (TS205_1 c) (block_t (id := 0) (by kernel_rfl) (TS205_2l c))) (by funext s h; kernel_rfl)
noncomputable def S205_12 (c : CF) (t0 t3 : AV) (h : Heap) : Res := S205_11 c t0 t3 (iL 0) h
theorem TS205_12 (c : CF) : (rk P0 c 81 c205.s2).1 k205 [] k205 gK = L2 (S205_12 c) 0 3 := Eq.trans (seq_t (by kernel_rfl) (TS205_11 c) rfl) (by funext s h; kernel_rfl)
noncomputable def S205_13 (c : CF) (t0 : AV) (h : Heap) : Res := S205_12 c t0 (iL 1) h
theorem TS205_13 (c : CF) : (rk P0 c 81 c205.snd).1 k205 [] k205 gK = L1 (S205_13 c) 0 := Eq.trans (seq_t (by kernel_rfl) (TS205_12 c) rfl) (by funext s h; kernel_rfl)
noncomputable def F205 (c : CF) (a0 : AV) (h : Heap) : Res := S205_13 c a0 h
theorem TF205 (c : CF) (a0 : AV) (h : Heap) : (rk P0 c 81 c205).1 k205 [] k205 gK (argsTr gl 0 [a0]) h = F205 c a0 h := Eq.trans (congrFun (congrFun (seq_t (by kernel_rfl) (TS205_13 c) rfl) _) _) (by kernel_rfl)
noncomputable def N205 : FnF := n1 F205
theorem N205_ok : FnOk P0 gl 205 N205 := n1_ok namesOk mixedOrders lowOk Tryz.func205 (by kernel_rfl) (by kernel_rfl) (by kernel_rfl) TF205
noncomputable def c206 : Code := codeOf Tryz.f206
noncomputable def k206 : Kt := finK P0 Tryz.f206.results.toList
noncomputable def F206 (c : CF) (a0 : AV) (h : Heap) : Res := opt (fastBin .geq a0 (uL 97)) fun t4 => test t4 (opt (fastBin .leq a0 (uL 122)) fun t7 => test t7 (some (tL,h)) (opt (fastBin .geq a0 (uL 65)) fun t11 => test t11 (opt (fastBin .leq a0 (uL 90)) fun t14 => test t14 (some (tL,h)) (opt (fastBin .eql a0 (uL 95)) fun t19 => test t19 (some (tL,h)) (opt (fastBin .geq a0 (uL 48)) fun t23 => test t23 (opt (fastBin .leq a0 (uL 57)) fun t26 => some (t26,h)) (some (fL,h))))) (opt (fastBin .eql a0 (uL 95)) fun t19_1 => test t19_1 (some (tL,h)) (opt (fastBin .geq a0 (uL 48)) fun t23_1 => test t23_1 (opt (fastBin .leq a0 (uL 57)) fun t26_1 => some (t26_1,h)) (some (fL,h)))))) (opt (fastBin .geq a0 (uL 65)) fun t11_1 => test t11_1 (opt (fastBin .leq a0 (uL 90)) fun t14_1 => test t14_1 (some (tL,h)) (opt (fastBin .eql a0 (uL 95)) fun t19_2 => test t19_2 (some (tL,h)) (opt (fastBin .geq a0 (uL 48)) fun t23_2 => test t23_2 (opt (fastBin .leq a0 (uL 57)) fun t26_2 => some (t26_2,h)) (some (fL,h))))) (opt (fastBin .eql a0 (uL 95)) fun t19_3 => test t19_3 (some (tL,h)) (opt (fastBin .geq a0 (uL 48)) fun t23_3 => test t23_3 (opt (fastBin .leq a0 (uL 57)) fun t26_3 => some (t26_3,h)) (some (fL,h)))))
theorem TF206 (c : CF) (a0 : AV) (h : Heap) : (rk P0 c 29 c206).1 k206 [] k206 gK (argsTr gl 0 [a0]) h = F206 c a0 h := by kernel_rfl
noncomputable def N206 : FnF := n1 F206
theorem N206_ok : FnOk P0 gl 206 N206 := n1_ok namesOk mixedOrders lowOk Tryz.func206 (by kernel_rfl) (by kernel_rfl) (by kernel_rfl) TF206
noncomputable def c207 : Code := codeOf Tryz.f207
noncomputable def k207 : Kt := finK P0 Tryz.f207.results.toList
noncomputable def F207 (c : CF) (a0 a1 : AV) (h : Heap) : Res := opt2 (c 233 [a0,a1] h) fun t7 h1 => some (t7,h1)
theorem TF207 (c : CF) (a0 a1 : AV) (h : Heap) : (rk P0 c 8 c207).1 k207 [] k207 gK (argsTr gl 0 [a0,a1]) h = F207 c a0 a1 h := by kernel_rfl
noncomputable def N207 : FnF := n2 F207
theorem N207_ok : FnOk P0 gl 207 N207 := n2_ok namesOk mixedOrders lowOk Tryz.func207 (by kernel_rfl) (by kernel_rfl) (by kernel_rfl) TF207
noncomputable def c209 : Code := codeOf Tryz.f209
noncomputable def k209 : Kt := finK P0 Tryz.f209.results.toList
noncomputable def F209 (c : CF) (a0 a1 : AV) (h : Heap) : Res := opt (binX P0 .none .and 236 a0 (.lit (.int .u64 4294967295))) fun t15 => opt (binX P0 .none .shr 236 a0 (.lit (.int .u64 32))) fun t17 => opt (binX P0 .none .and 236 a1 (.lit (.int .u64 4294967295))) fun t19 => opt (binX P0 .none .shr 236 a1 (.lit (.int .u64 32))) fun t21 => opt (fastBin .mul t15 t19) fun t24 => opt (fastBin .mul t17 t19) fun t27 => opt (binX P0 .none .shr 236 t24 (.lit (.int .u64 32))) fun t29 => opt (fastBin .add t27 t29) fun t30 => opt (binX P0 .none .and 236 t30 (.lit (.int .u64 4294967295))) fun t32 => opt (binX P0 .none .shr 236 t30 (.lit (.int .u64 32))) fun t34 => opt (fastBin .mul t15 t21) fun t38 => opt (fastBin .add t32 t38) fun t39 => opt (fastBin .mul t17 t21) fun t42 => opt (fastBin .add t42 t34) fun t44 => opt (binX P0 .none .shr 236 t39 (.lit (.int .u64 32))) fun t46 => opt (fastBin .add t44 t46) fun t47 => opt (fastBin .mul a0 a1) fun t50 => some ((.tup [t47,t50]),h)
theorem TF209 (c : CF) (a0 a1 : AV) (h : Heap) : (rk P0 c 51 c209).1 k209 [] k209 gK (argsTr gl 0 [a0,a1]) h = F209 c a0 a1 h := by kernel_rfl
noncomputable def N209 : FnF := n2 F209
theorem N209_ok : FnOk P0 gl 209 N209 := n2_ok namesOk mixedOrders lowOk Tryz.func209 (by kernel_rfl) (by kernel_rfl) (by kernel_rfl) TF209
noncomputable def c213 : Code := codeOf Tryz.f213
noncomputable def k213 : Kt := finK P0 Tryz.f213.results.toList
noncomputable def F213 (c : CF) (a0 a1 : AV) (h : Heap) : Res := opt2 (c 234 [a0,a1] h) fun t9 h1 => opt (extractX t9 0) fun t10 => opt (extractX t9 1) fun t11 => opt (extractX t9 2) fun t12 => some ((.tup [t10,t11,t12]),h1)
theorem TF213 (c : CF) (a0 a1 : AV) (h : Heap) : (rk P0 c 13 c213).1 k213 [] k213 gK (argsTr gl 0 [a0,a1]) h = F213 c a0 a1 h := by kernel_rfl
noncomputable def N213 : FnF := n2 F213
theorem N213_ok : FnOk P0 gl 213 N213 := n2_ok namesOk mixedOrders lowOk Tryz.func213 (by kernel_rfl) (by kernel_rfl) (by kernel_rfl) TF213
noncomputable def c218 : Code := codeOf Tryz.f218
noncomputable def k218 : Kt := finK P0 Tryz.f218.results.toList
noncomputable def S218_0 (c : CF) (h : Heap) : Res := some ((iL (-1)),h)
theorem TS218_0 (c : CF) : (rk P0 c 143 c218.s9).1 k218 [] k218 gK = L0 (S218_0 c) := by funext s h; kernel_rfl
noncomputable def S218_2 (c : CF) (r1 : A9) (t0 t1 t5 t6 t7 t8 t9 t10 t132 g0 : AV) (h : Heap) : Res := test t132 (opt (fastCut t0 (some t8) none none) fun t135 => opt2 (c 236 [t135,t1] h) fun t137 h1 => opt (fastBin .lss t137 (iL 0)) fun t139 => test t139 (some ((iL (-1)),h1)) (opt (fastBin .add t8 t137) fun t142 => some (t142,h1))) (r1 t0 t1 t5 t6 t7 t8 t9 t10 g0 h)
theorem TS218_2 (c : CF) (r1 : A9) : (rk P0 c 143 c218.s8.fst.bd.bd.snd.bd.s5.els.snd).1 (L9 r1 0 1 5 6 7 8 9 10 4294967297) [(2,(L9 r1 0 1 5 6 7 8 9 10 4294967297)),(1,(L0 (S218_0 c)))] k218 gK = L10 (S218_2 c r1) 0 1 5 6 7 8 9 10 132 4294967297 := by funext s h; kernel_rfl
noncomputable def S218_3 (c : CF) (r1 : A9) (t0 t1 t5 t6 t7 t8 t9 t10 g0 : AV) (h : Heap) : Res := opt (loadX none (globOf 0 g0) h) fun t119 => opt (fastBin .gtr t5 t119) fun t120 => test t120 (opt (binX P0 .none .shr 3 t8 (.lit (.int .u64 4))) fun t124 => opt (fastBin .add (iL 4) t124) fun t125 => opt (fastBin .geq t10 t125) fun t126 => test t126 (opt (fastBin .lss t8 t9) fun t131 => S218_2 c r1 t0 t1 t5 t6 t7 t8 t9 t10 t131 g0 h) (S218_2 c r1 t0 t1 t5 t6 t7 t8 t9 t10 fL g0 h)) (S218_2 c r1 t0 t1 t5 t6 t7 t8 t9 t10 fL g0 h)
theorem TS218_3 (c : CF) (r1 : A9) : (rk P0 c 143 c218.s8.fst.bd.bd.snd.bd.s5.els).1 (L9 r1 0 1 5 6 7 8 9 10 4294967297) [(2,(L9 r1 0 1 5 6 7 8 9 10 4294967297)),(1,(L0 (S218_0 c)))] k218 gK = L9 (S218_3 c r1) 0 1 5 6 7 8 9 10 4294967297 := Eq.trans (seq_t (by kernel_rfl) (TS218_2 c r1) rfl) (by funext s h; kernel_rfl)
noncomputable def S218_4 (c : CF) (r1 : A9) (t0 t1 t5 t6 t7 t8 t9 t10 t107 g0 : AV) (h : Heap) : Res := test t107 (opt (fastCut t0 (some t8) none none) fun t110 => opt (litCall P0 [t110,t1] 217) fun t112 => opt (fastBin .geq t112 (iL 0)) fun t114 => test t114 (opt (fastBin .add t112 t8) fun t117 => some (t117,h)) (some ((iL (-1)),h))) (S218_3 c r1 t0 t1 t5 t6 t7 t8 t9 t10 g0 h)
theorem TS218_4 (c : CF) (r1 : A9) : (rk P0 c 143 c218.s8.fst.bd.bd.snd.bd.s5).1 (L9 r1 0 1 5 6 7 8 9 10 4294967297) [(2,(L9 r1 0 1 5 6 7 8 9 10 4294967297)),(1,(L0 (S218_0 c)))] k218 gK = L10 (S218_4 c r1) 0 1 5 6 7 8 9 10 107 4294967297 := Eq.trans (cond_t (by kernel_rfl) rfl (TS218_3 c r1)) (by funext s h; kernel_rfl)
noncomputable def S218_5 (c : CF) (r1 : A9) (t0 t1 t5 t6 t7 t8 t9 t10 g0 : AV) (h : Heap) : Res := opt (loadX none (globOf 0 g0) h) fun t100 => opt (fastBin .leq t5 t100) fun t101 => test t101 (opt2 (c 216 [t8] h) fun t105 h1 => opt (fastBin .gtr t10 t105) fun t106 => S218_4 c r1 t0 t1 t5 t6 t7 t8 t9 t10 t106 g0 h1) (S218_4 c r1 t0 t1 t5 t6 t7 t8 t9 t10 fL g0 h)
theorem TS218_5 (c : CF) (r1 : A9) : (rk P0 c 143 c218.s8.fst.bd.bd.snd.bd.s4).1 (L9 r1 0 1 5 6 7 8 9 10 4294967297) [(2,(L9 r1 0 1 5 6 7 8 9 10 4294967297)),(1,(L0 (S218_0 c)))] k218 gK = L9 (S218_5 c r1) 0 1 5 6 7 8 9 10 4294967297 := Eq.trans (seq_t (by kernel_rfl) (TS218_4 c r1) rfl) (by funext s h; kernel_rfl)
noncomputable def S218_6 (c : CF) (r1 : A9) (t0 t1 t5 t6 t7 t8 t9 t10 g0 : AV) (h : Heap) : Res := opt (fastBin .add t10 (iL 1)) fun t98 => S218_5 c r1 t0 t1 t5 t6 t7 t8 t9 t98 g0 h
theorem TS218_6 (c : CF) (r1 : A9) : (rk P0 c 143 c218.s8.fst.bd.bd.snd.bd.s3).1 (L9 r1 0 1 5 6 7 8 9 10 4294967297) [(2,(L9 r1 0 1 5 6 7 8 9 10 4294967297)),(1,(L0 (S218_0 c)))] k218 gK = L9 (S218_6 c r1) 0 1 5 6 7 8 9 10 4294967297 := Eq.trans (seq_t (by kernel_rfl) (TS218_5 c r1) rfl) (by funext s h; kernel_rfl)
noncomputable def S218_7 (c : CF) (r1 : A9) (t0 t1 t5 t6 t7 t8 t9 t10 g0 : AV) (h : Heap) : Res := opt (fastBin .add t8 (iL 1)) fun t96 => S218_6 c r1 t0 t1 t5 t6 t7 t96 t9 t10 g0 h
theorem TS218_7 (c : CF) (r1 : A9) : (rk P0 c 143 c218.s8.fst.bd.bd.snd.bd.s2).1 (L9 r1 0 1 5 6 7 8 9 10 4294967297) [(2,(L9 r1 0 1 5 6 7 8 9 10 4294967297)),(1,(L0 (S218_0 c)))] k218 gK = L9 (S218_7 c r1) 0 1 5 6 7 8 9 10 4294967297 := Eq.trans (seq_t (by kernel_rfl) (TS218_6 c r1) rfl) (by funext s h; kernel_rfl)
noncomputable def S218_8 (c : CF) (r1 : A9) (t0 t1 t5 t6 t7 t8 t9 t10 t93 g0 : AV) (h : Heap) : Res := test t93 (some (t8,h)) (S218_7 c r1 t0 t1 t5 t6 t7 t8 t9 t10 g0 h)
theorem TS218_8 (c : CF) (r1 : A9) : (rk P0 c 143 c218.s8.fst.bd.bd.snd.bd.snd.fst.snd).1 (L9 (S218_7 c r1) 0 1 5 6 7 8 9 10 4294967297) [(2,(L9 r1 0 1 5 6 7 8 9 10 4294967297)),(1,(L0 (S218_0 c)))] k218 gK = L10 (S218_8 c r1) 0 1 5 6 7 8 9 10 93 4294967297 := by funext s h; kernel_rfl
noncomputable def S218_9 (c : CF) (r1 : A9) (t0 t1 t5 t6 t7 t8 t9 t10 g0 : AV) (h : Heap) : Res := opt (fastBin .add t8 (iL 1)) fun t80 => opt (fastIndex t0 t80) fun t81 => opt (fastBin .eql t81 t7) fun t83 => test t83 (opt (fastBin .add t8 t5) fun t89 => opt (fastCut t0 (some t8) (some t89) none) fun t90 => opt (fastBin .eql t90 t1) fun t92 => S218_8 c r1 t0 t1 t5 t6 t7 t8 t9 t10 t92 g0 h) (S218_8 c r1 t0 t1 t5 t6 t7 t8 t9 t10 fL g0 h)
theorem TS218_9 (c : CF) (r1 : A9) : (rk P0 c 143 c218.s8.fst.bd.bd.snd.bd.snd).1 (L9 r1 0 1 5 6 7 8 9 10 4294967297) [(2,(L9 r1 0 1 5 6 7 8 9 10 4294967297)),(1,(L0 (S218_0 c)))] k218 gK = L9 (S218_9 c r1) 0 1 5 6 7 8 9 10 4294967297 := Eq.trans (seq_t (by kernel_rfl) (TS218_7 c r1) (seq_t (by kernel_rfl) (TS218_8 c r1) rfl)) (by funext s h; kernel_rfl)
noncomputable def S218_10 (c : CF) (r1 : A9) (t0 t1 t5 t6 t7 t8 t9 t10 g0 : AV) (h : Heap) : Res := opt (fastIndex t0 t8) fun t62 => opt (fastBin .neq t62 t6) fun t64 => test t64 (opt (fastBin .add t8 (iL 1)) fun t67 => opt (fastCut t0 (some t67) (some t9) none) fun t69 => opt2 (c 235 [t69,t6] h) fun t71 h1 => opt (fastBin .lss t71 (iL 0)) fun t73 => test t73 (some ((iL (-1)),h1)) (opt (fastBin .add t71 (iL 1)) fun t76 => opt (fastBin .add t8 t76) fun t77 => S218_9 c r1 t0 t1 t5 t6 t7 t77 t9 t10 g0 h1)) (S218_9 c r1 t0 t1 t5 t6 t7 t8 t9 t10 g0 h)
theorem TS218_10 (c : CF) (r1 : A9) : (rk P0 c 143 c218.s8.fst.bd.bd.snd).1 (L9 r1 0 1 5 6 7 8 9 10 4294967297) [(1,(L0 (S218_0 c)))] k218 gK = L9 (S218_10 c r1) 0 1 5 6 7 8 9 10 4294967297 := Eq.trans (block_t (id := 2) (by kernel_rfl) (seq_t (by kernel_rfl) (TS218_9 c r1) rfl)) (by funext s h; kernel_rfl)
noncomputable def S218_11b (c : CF) (r1 : A9) (t0 t1 t5 t6 t7 t8 t9 t10 g0 : AV) (h : Heap) : Res := opt (fastBin .lss t8 t9) fun t59 => test t59 (S218_10 c r1 t0 t1 t5 t6 t7 t8 t9 t10 g0 h) (S218_0 c h)
theorem TS218_11b (c : CF) (r1 : A9) : (rk P0 c 143 c218.s8.fst.bd.bd).1 (L9 r1 0 1 5 6 7 8 9 10 4294967297) [(1,(L0 (S218_0 c)))] k218 gK = L9 (S218_11b c r1) 0 1 5 6 7 8 9 10 4294967297 := Eq.trans (seq_t (by kernel_rfl) (TS218_10 c r1) rfl) (by funext s h; kernel_rfl)
noncomputable def S218_1l (c : CF) : Nat → A9
  | 0 => fun _ _ _ _ _ _ _ _ _ _ => none
  | k + 1 => S218_11b c (S218_1l c k)
theorem TS218_1l (c : CF) : (rk P0 c 143 c218.s8.fst.bd).1 (L0 (S218_0 c)) [(1,(L0 (S218_0 c)))] k218 gK = L9 (S218_1l c rounds) 0 1 5 6 7 8 9 10 4294967297 := loop_t (by kernel_rfl) (loop_ind (A := fun m => L9 (S218_1l c m) 0 1 5 6 7 8 9 10 4294967297) rfl (fun m => TS218_11b c (S218_1l c m)) rounds)
noncomputable def S218_12 (c : CF) (t0 t1 t5 t6 t7 t8 t9 t10 g0 : AV) (h : Heap) : Res := S218_1l c rounds t0 t1 t5 t6 t7 t8 t9 t10 g0 h
theorem TS218_12 (c : CF) : (rk P0 c 143 c218.s8).1 k218 [] k218 gK = L9 (S218_12 c) 0 1 5 6 7 8 9 10 4294967297 := Eq.trans (seq_t (by kernel_rfl) (TS218_0 c) (block_t (id := 1) (by kernel_rfl) (TS218_1l c))) (by funext s h; kernel_rfl)
noncomputable def S218_13 (c : CF) (t0 t1 t5 t6 t7 t8 t9 g0 : AV) (h : Heap) : Res := S218_12 c t0 t1 t5 t6 t7 t8 t9 (iL 0) g0 h
theorem TS218_13 (c : CF) : (rk P0 c 143 c218.s7).1 k218 [] k218 gK = L8 (S218_13 c) 0 1 5 6 7 8 9 4294967297 := Eq.trans (seq_t (by kernel_rfl) (TS218_12 c) rfl) (by funext s h; kernel_rfl)
noncomputable def S218_14 (c : CF) (t0 t1 t5 t6 t7 t8 g0 : AV) (h : Heap) : Res := opt (lenStr t0) fun t53 => opt (fastBin .sub t53 t5) fun t55 => opt (fastBin .add t55 (iL 1)) fun t56 => S218_13 c t0 t1 t5 t6 t7 t8 t56 g0 h
theorem TS218_14 (c : CF) : (rk P0 c 143 c218.s6).1 k218 [] k218 gK = L7 (S218_14 c) 0 1 5 6 7 8 4294967297 := Eq.trans (seq_t (by kernel_rfl) (TS218_13 c) rfl) (by funext s h; kernel_rfl)
noncomputable def S218_15 (c : CF) (t0 t1 t5 t6 t7 g0 : AV) (h : Heap) : Res := S218_14 c t0 t1 t5 t6 t7 (iL 0) g0 h
theorem TS218_15 (c : CF) : (rk P0 c 143 c218.s5).1 k218 [] k218 gK = L6 (S218_15 c) 0 1 5 6 7 4294967297 := Eq.trans (seq_t (by kernel_rfl) (TS218_14 c) rfl) (by funext s h; kernel_rfl)
noncomputable def S218_16 (c : CF) (t0 t1 t5 t6 g0 : AV) (h : Heap) : Res := opt (fastIndex t1 (iL 1)) fun t51 => S218_15 c t0 t1 t5 t6 t51 g0 h
theorem TS218_16 (c : CF) : (rk P0 c 143 c218.s4).1 k218 [] k218 gK = L5 (S218_16 c) 0 1 5 6 4294967297 := Eq.trans (seq_t (by kernel_rfl) (TS218_15 c) rfl) (by funext s h; kernel_rfl)
noncomputable def S218_17 (c : CF) (t0 t1 t5 g0 : AV) (h : Heap) : Res := opt (fastIndex t1 (iL 0)) fun t49 => S218_16 c t0 t1 t5 t49 g0 h
theorem TS218_17 (c : CF) : (rk P0 c 143 c218.s3).1 k218 [] k218 gK = L4 (S218_17 c) 0 1 5 4294967297 := Eq.trans (seq_t (by kernel_rfl) (TS218_16 c) rfl) (by funext s h; kernel_rfl)
noncomputable def S218_18 (c : CF) (t0 t1 t5 t36 g0 : AV) (h : Heap) : Res := test t36 (opt (litCall P0 [t0,t1] 217) fun t47 => some (t47,h)) (S218_17 c t0 t1 t5 g0 h)
theorem TS218_18 (c : CF) : (rk P0 c 143 c218.s2.fst.bd.snd.els.snd.els.snd.els.snd).1 (L4 (S218_17 c) 0 1 5 4294967297) [(0,(L4 (S218_17 c) 0 1 5 4294967297))] k218 gK = L5 (S218_18 c) 0 1 5 36 4294967297 := by funext s h; kernel_rfl
noncomputable def S218_19 (c : CF) (t0 t1 t5 g0 : AV) (h : Heap) : Res := opt (loadX none (globOf 0 g0) h) fun t38 => opt (fastBin .leq t5 t38) fun t39 => test t39 (opt (lenStr t0) fun t42 => opt (fastBin .leq t42 (iL 64)) fun t43 => S218_18 c t0 t1 t5 t43 g0 h) (S218_18 c t0 t1 t5 fL g0 h)
theorem TS218_19 (c : CF) : (rk P0 c 143 c218.s2.fst.bd.snd.els.snd.els.snd.els).1 (L4 (S218_17 c) 0 1 5 4294967297) [(0,(L4 (S218_17 c) 0 1 5 4294967297))] k218 gK = L4 (S218_19 c) 0 1 5 4294967297 := Eq.trans (seq_t (by kernel_rfl) (TS218_18 c) rfl) (by funext s h; kernel_rfl)
noncomputable def S218_20 (c : CF) (t0 t1 t5 t31 g0 : AV) (h : Heap) : Res := test t31 (some ((iL (-1)),h)) (S218_19 c t0 t1 t5 g0 h)
theorem TS218_20 (c : CF) : (rk P0 c 143 c218.s2.fst.bd.snd.els.snd.els.snd).1 (L4 (S218_17 c) 0 1 5 4294967297) [(0,(L4 (S218_17 c) 0 1 5 4294967297))] k218 gK = L5 (S218_20 c) 0 1 5 31 4294967297 := Eq.trans (cond_t (by kernel_rfl) rfl (TS218_19 c)) (by funext s h; kernel_rfl)
noncomputable def S218_21 (c : CF) (t0 t1 t5 g0 : AV) (h : Heap) : Res := opt (lenStr t0) fun t34 => opt (fastBin .geq t5 t34) fun t35 => S218_20 c t0 t1 t5 t35 g0 h
theorem TS218_21 (c : CF) : (rk P0 c 143 c218.s2.fst.bd.snd.els.snd.els).1 (L4 (S218_17 c) 0 1 5 4294967297) [(0,(L4 (S218_17 c) 0 1 5 4294967297))] k218 gK = L4 (S218_21 c) 0 1 5 4294967297 := Eq.trans (seq_t (by kernel_rfl) (TS218_20 c) rfl) (by funext s h; kernel_rfl)
noncomputable def S218_22 (c : CF) (t0 t1 t5 t24 g0 : AV) (h : Heap) : Res := test t24 (opt (fastIndex t1 (iL 0)) fun t29 => opt2 (c 235 [t0,t29] h) fun t30 h1 => some (t30,h1)) (S218_21 c t0 t1 t5 g0 h)
theorem TS218_22 (c : CF) : (rk P0 c 143 c218.s2.fst.bd.snd.els.snd).1 (L4 (S218_17 c) 0 1 5 4294967297) [(0,(L4 (S218_17 c) 0 1 5 4294967297))] k218 gK = L5 (S218_22 c) 0 1 5 24 4294967297 := Eq.trans (cond_t (by kernel_rfl) rfl (TS218_21 c)) (by funext s h; kernel_rfl)
noncomputable def S218_23 (c : CF) (t0 t1 t5 g0 : AV) (h : Heap) : Res := opt (fastBin .eql t5 (iL 1)) fun t26 => S218_22 c t0 t1 t5 t26 g0 h
theorem TS218_23 (c : CF) : (rk P0 c 143 c218.s2.fst.bd.snd.els).1 (L4 (S218_17 c) 0 1 5 4294967297) [(0,(L4 (S218_17 c) 0 1 5 4294967297))] k218 gK = L4 (S218_23 c) 0 1 5 4294967297 := Eq.trans (seq_t (by kernel_rfl) (TS218_22 c) rfl) (by funext s h; kernel_rfl)
noncomputable def S218_24 (c : CF) (t0 t1 t5 t16 g0 : AV) (h : Heap) : Res := test t16 (some ((iL 0),h)) (S218_23 c t0 t1 t5 g0 h)
theorem TS218_24 (c : CF) : (rk P0 c 143 c218.s2.fst.bd.snd).1 (L4 (S218_17 c) 0 1 5 4294967297) [(0,(L4 (S218_17 c) 0 1 5 4294967297))] k218 gK = L5 (S218_24 c) 0 1 5 16 4294967297 := Eq.trans (cond_t (by kernel_rfl) rfl (TS218_23 c)) (by funext s h; kernel_rfl)
noncomputable def S218_25 (c : CF) (t0 t1 t5 g0 : AV) (h : Heap) : Res := opt (fastBin .eql t5 (iL 0)) fun t18 => test t18 (S218_24 c t0 t1 t5 tL g0 h) (opt (fastBin .eql t1 t0) fun t22 => S218_24 c t0 t1 t5 t22 g0 h)
theorem TS218_25 (c : CF) : (rk P0 c 143 c218.s2).1 k218 [] k218 gK = L4 (S218_25 c) 0 1 5 4294967297 := Eq.trans (seq_t (by kernel_rfl) (TS218_17 c) (block_t (id := 0) (by kernel_rfl) (seq_t (by kernel_rfl) (TS218_24 c) rfl))) (by funext s h; kernel_rfl)
noncomputable def S218_26 (c : CF) (t0 t1 g0 : AV) (h : Heap) : Res := opt (lenStr t1) fun t15 => S218_25 c t0 t1 t15 g0 h
theorem TS218_26 (c : CF) : (rk P0 c 143 c218.snd).1 k218 [] k218 gK = L3 (S218_26 c) 0 1 4294967297 := Eq.trans (seq_t (by kernel_rfl) (TS218_25 c) rfl) (by funext s h; kernel_rfl)
noncomputable def F218 (c : CF) (a0 a1 : AV) (h : Heap) : Res := S218_26 c a0 a1 (Tr.rd gl 4294967297) h
theorem TF218 (c : CF) (a0 a1 : AV) (h : Heap) : (rk P0 c 143 c218).1 k218 [] k218 gK (argsTr gl 0 [a0,a1]) h = F218 c a0 a1 h := Eq.trans (congrFun (congrFun (seq_t (by kernel_rfl) (TS218_26 c) rfl) _) _) (by kernel_rfl)
noncomputable def N218 : FnF := n2 F218
theorem N218_ok : FnOk P0 gl 218 N218 := n2_ok namesOk mixedOrders lowOk Tryz.func218 (by kernel_rfl) (by kernel_rfl) (by kernel_rfl) TF218
noncomputable def c219 : Code := codeOf Tryz.f219
noncomputable def k219 : Kt := finK P0 Tryz.f219.results.toList
noncomputable def S219_1 (c : CF) (r0 : A4) (t0 t1 t2 t6 : AV) (h : Heap) : Res := opt (fastBin .add t6 (iL 1)) fun t14 => r0 t0 t1 t2 t14 h
theorem TS219_1 (c : CF) (r0 : A4) : (rk P0 c 49 c219.snd.bd.bd.s2).1 (L4 r0 0 1 2 6) [(0,k219)] k219 gK = L4 (S219_1 c r0) 0 1 2 6 := by funext s h; kernel_rfl
noncomputable def S219_3 (c : CF) (r0 : A4) (r2 : A5) (t0 t1 t2 t6 t7 : AV) (h : Heap) : Res := opt (fastBin .sub t7 (iL 1)) fun t37 => opt (fastBin .sub t7 (iL 1)) fun t40 => opt (indexAddrS 1 t0 t40 h) fun t41 => eqH h h (opt (loadX none t41 h) fun t42 => eqH h h (opt (indexAddrS 1 t0 t7 h) fun t45 => eqH h h (opt (loadX none t45 h) fun t46 => eqH h h (opt (indexAddrS 1 t0 t7 h) fun t47 => eqH h h (optH (storeX 1 t47 t42 h) fun h1 => opt (indexAddrS 1 t0 t37 h1) fun t48 => eqH h1 h1 (optH (storeX 1 t48 t46 h1) fun h2 => opt (fastBin .sub t7 (iL 1)) fun t32 => r2 t0 t1 t2 t6 t32 h2))))))
theorem TS219_3 (c : CF) (r0 : A4) (r2 : A5) : (rk P0 c 49 c219.snd.bd.bd.snd.fst.bd.snd.bd.bd.snd).1 (L5 r2 0 1 2 6 7) [(2,(L4 (S219_1 c r0) 0 1 2 6)),(1,(L4 (S219_1 c r0) 0 1 2 6)),(0,k219)] k219 gK = L5 (S219_3 c r0 r2) 0 1 2 6 7 := by funext s h; kernel_rfl
noncomputable def S219_4b (c : CF) (r0 : A4) (r2 : A5) (t0 t1 t2 t6 t7 : AV) (h : Heap) : Res := opt (fastBin .gtr t7 t1) fun t18 => test t18 (opt (indexAddrS 1 t0 t7 h) fun t22 => eqH h h (opt (loadX none t22 h) fun t23 => eqH h h (opt (fastBin .sub t7 (iL 1)) fun t26 => opt (indexAddrS 1 t0 t26 h) fun t27 => eqH h h (opt (loadX none t27 h) fun t28 => eqH h h (opt2 (c 225 [t23,t28] h) fun t29 h1 => eqH h1 h (test t29 (S219_3 c r0 r2 t0 t1 t2 t6 t7 h) (S219_1 c r0 t0 t1 t2 t6 h))))))) (S219_1 c r0 t0 t1 t2 t6 h)
theorem TS219_4b (c : CF) (r0 : A4) (r2 : A5) : (rk P0 c 49 c219.snd.bd.bd.snd.fst.bd.snd.bd.bd).1 (L5 r2 0 1 2 6 7) [(2,(L4 (S219_1 c r0) 0 1 2 6)),(1,(L4 (S219_1 c r0) 0 1 2 6)),(0,k219)] k219 gK = L5 (S219_4b c r0 r2) 0 1 2 6 7 := Eq.trans (seq_t (by kernel_rfl) (TS219_3 c r0 r2) rfl) (by funext s h; kernel_rfl)
noncomputable def S219_2l (c : CF) (r0 : A4) : Nat → A5
  | 0 => fun _ _ _ _ _ _ => none
  | k + 1 => S219_4b c r0 (S219_2l c r0 k)
theorem TS219_2l (c : CF) (r0 : A4) : (rk P0 c 49 c219.snd.bd.bd.snd.fst.bd.snd.bd).1 (L4 (S219_1 c r0) 0 1 2 6) [(2,(L4 (S219_1 c r0) 0 1 2 6)),(1,(L4 (S219_1 c r0) 0 1 2 6)),(0,k219)] k219 gK = L5 (S219_2l c r0 rounds) 0 1 2 6 7 := loop_t (by kernel_rfl) (loop_ind (A := fun m => L5 (S219_2l c r0 m) 0 1 2 6 7) rfl (fun m => TS219_4b c r0 (S219_2l c r0 m)) rounds)
noncomputable def S219_5 (c : CF) (r0 : A4) (t0 t1 t2 t6 t7 : AV) (h : Heap) : Res := S219_2l c r0 rounds t0 t1 t2 t6 t7 h
theorem TS219_5 (c : CF) (r0 : A4) : (rk P0 c 49 c219.snd.bd.bd.snd.fst.bd.snd).1 (L4 (S219_1 c r0) 0 1 2 6) [(1,(L4 (S219_1 c r0) 0 1 2 6)),(0,k219)] k219 gK = L5 (S219_5 c r0) 0 1 2 6 7 := Eq.trans (block_t (id := 2) (by kernel_rfl) (TS219_2l c r0)) (by funext s h; kernel_rfl)
noncomputable def S219_6 (c : CF) (r0 : A4) (t0 t1 t2 t6 : AV) (h : Heap) : Res := S219_5 c r0 t0 t1 t2 t6 t6 h
theorem TS219_6 (c : CF) (r0 : A4) : (rk P0 c 49 c219.snd.bd.bd.snd).1 (L4 r0 0 1 2 6) [(0,k219)] k219 gK = L4 (S219_6 c r0) 0 1 2 6 := Eq.trans (seq_t (by kernel_rfl) (TS219_1 c r0) (block_t (id := 1) (by kernel_rfl) (seq_t (by kernel_rfl) (TS219_5 c r0) rfl))) (by funext s h; kernel_rfl)
noncomputable def S219_7b (c : CF) (r0 : A4) (t0 t1 t2 t6 : AV) (h : Heap) : Res := opt (fastBin .lss t6 t2) fun t12 => test t12 (S219_6 c r0 t0 t1 t2 t6 h) (some ((.lit (.tuple #[])),h))
theorem TS219_7b (c : CF) (r0 : A4) : (rk P0 c 49 c219.snd.bd.bd).1 (L4 r0 0 1 2 6) [(0,k219)] k219 gK = L4 (S219_7b c r0) 0 1 2 6 := Eq.trans (seq_t (by kernel_rfl) (TS219_6 c r0) rfl) (by funext s h; kernel_rfl)
noncomputable def S219_0l (c : CF) : Nat → A4
  | 0 => fun _ _ _ _ _ => none
  | k + 1 => S219_7b c (S219_0l c k)
theorem TS219_0l (c : CF) : (rk P0 c 49 c219.snd.bd).1 k219 [(0,k219)] k219 gK = L4 (S219_0l c rounds) 0 1 2 6 := loop_t (by kernel_rfl) (loop_ind (A := fun m => L4 (S219_0l c m) 0 1 2 6) rfl (fun m => TS219_7b c (S219_0l c m)) rounds)
noncomputable def S219_8 (c : CF) (t0 t1 t2 t6 : AV) (h : Heap) : Res := S219_0l c rounds t0 t1 t2 t6 h
theorem TS219_8 (c : CF) : (rk P0 c 49 c219.snd).1 k219 [] k219 gK = L4 (S219_8 c) 0 1 2 6 := Eq.trans (block_t (id := 0) (by kernel_rfl) (TS219_0l c)) (by funext s h; kernel_rfl)
noncomputable def F219 (c : CF) (a0 a1 a2 : AV) (h : Heap) : Res := opt (fastBin .add a1 (iL 1)) fun t9 => S219_8 c a0 a1 a2 t9 h
theorem TF219 (c : CF) (a0 a1 a2 : AV) (h : Heap) : (rk P0 c 49 c219).1 k219 [] k219 gK (argsTr gl 0 [a0,a1,a2]) h = F219 c a0 a1 a2 h := Eq.trans (congrFun (congrFun (seq_t (by kernel_rfl) (TS219_8 c) rfl) _) _) (by kernel_rfl)
noncomputable def N219 : FnF := n3 F219
theorem N219_ok : FnOk P0 gl 219 N219 := n3_ok namesOk mixedOrders lowOk Tryz.func219 (by kernel_rfl) (by kernel_rfl) (by kernel_rfl) TF219
noncomputable def c230 : Code := codeOf Tryz.f230
noncomputable def k230 : Kt := finK P0 Tryz.f230.results.toList
noncomputable def F230 (c : CF) (a0 a1 : AV) (h : Heap) : Res := opt (lenStr a0) fun t8 => opt (fastBin .gtr t8 (iL 200)) fun t9 => test t9 (some ((.tup [eL,(iL 3),a1]),h)) (some ((.tup [a0,(iL 0),(iL 0)]),h))
theorem TF230 (c : CF) (a0 a1 : AV) (h : Heap) : (rk P0 c 12 c230).1 k230 [] k230 gK (argsTr gl 0 [a0,a1]) h = F230 c a0 a1 h := by kernel_rfl
noncomputable def N230 : FnF := n2 F230
theorem N230_ok : FnOk P0 gl 230 N230 := n2_ok namesOk mixedOrders lowOk Tryz.func230 (by kernel_rfl) (by kernel_rfl) (by kernel_rfl) TF230
noncomputable def c231 : Code := codeOf Tryz.f231
noncomputable def k231 : Kt := finK P0 Tryz.f231.results.toList
noncomputable def F231 (c : CF) (a0 a1 : AV) (h : Heap) : Res := opt2 (c 242 [a0,a1] h) fun t9 h1 => opt2 (c 243 [t9] h1) fun t11 h2 => opt (notX t11) fun t12 => test t12 (some ((.tup [cL,(iL 44)]),h2)) (some ((.tup [t9,(iL 0)]),h2))
theorem TF231 (c : CF) (a0 a1 : AV) (h : Heap) : (rk P0 c 14 c231).1 k231 [] k231 gK (argsTr gl 0 [a0,a1]) h = F231 c a0 a1 h := by kernel_rfl
noncomputable def N231 : FnF := n2 F231
theorem N231_ok : FnOk P0 gl 231 N231 := n2_ok namesOk mixedOrders lowOk Tryz.func231 (by kernel_rfl) (by kernel_rfl) (by kernel_rfl) TF231
noncomputable def c233 : Code := codeOf Tryz.f233
noncomputable def k233 : Kt := finK P0 Tryz.f233.results.toList
noncomputable def F233 (c : CF) (a0 a1 : AV) (h : Heap) : Res := opt (lenStr a0) fun t6 => opt (lenStr a1) fun t8 => opt (fastBin .geq t6 t8) fun t9 => test t9 (opt (lenStr a1) fun t13 => opt (fastCut a0 none (some t13) none) fun t14 => opt (fastBin .eql t14 a1) fun t16 => some (t16,h)) (some (fL,h))
theorem TF233 (c : CF) (a0 a1 : AV) (h : Heap) : (rk P0 c 18 c233).1 k233 [] k233 gK (argsTr gl 0 [a0,a1]) h = F233 c a0 a1 h := by kernel_rfl
noncomputable def N233 : FnF := n2 F233
theorem N233_ok : FnOk P0 gl 233 N233 := n2_ok namesOk mixedOrders lowOk Tryz.func233 (by kernel_rfl) (by kernel_rfl) (by kernel_rfl) TF233
noncomputable def c234 : Code := codeOf Tryz.f234
noncomputable def k234 : Kt := finK P0 Tryz.f234.results.toList
noncomputable def F234 (c : CF) (a0 a1 : AV) (h : Heap) : Res := opt2 (c 218 [a0,a1] h) fun t10 h1 => opt (fastBin .geq t10 (iL 0)) fun t12 => test t12 (opt (fastCut a0 none (some t10) none) fun t15 => eqH h1 h1 (opt (lenStr a1) fun t19 => opt (fastBin .add t10 t19) fun t20 => opt (fastCut a0 (some t20) none none) fun t21 => eqH h1 h1 (some ((.tup [t15,t21,tL]),h1)))) (some ((.tup [a0,eL,fL]),h1))
theorem TF234 (c : CF) (a0 a1 : AV) (h : Heap) : (rk P0 c 23 c234).1 k234 [] k234 gK (argsTr gl 0 [a0,a1]) h = F234 c a0 a1 h := by kernel_rfl
noncomputable def N234 : FnF := n2 F234
theorem N234_ok : FnOk P0 gl 234 N234 := n2_ok namesOk mixedOrders lowOk Tryz.func234 (by kernel_rfl) (by kernel_rfl) (by kernel_rfl) TF234
noncomputable def c235 : Code := codeOf Tryz.f235
noncomputable def k235 : Kt := finK P0 Tryz.f235.results.toList
noncomputable def F235 (c : CF) (a0 a1 : AV) (h : Heap) : Res := opt (litCall P0 [a0,a1] 244) fun t7 => some (t7,h)
theorem TF235 (c : CF) (a0 a1 : AV) (h : Heap) : (rk P0 c 8 c235).1 k235 [] k235 gK (argsTr gl 0 [a0,a1]) h = F235 c a0 a1 h := by kernel_rfl
noncomputable def N235 : FnF := n2 F235
theorem N235_ok : FnOk P0 gl 235 N235 := n2_ok namesOk mixedOrders lowOk Tryz.func235 (by kernel_rfl) (by kernel_rfl) (by kernel_rfl) TF235
noncomputable def c242 : Code := codeOf Tryz.f242
noncomputable def k242 : Kt := finK P0 Tryz.f242.results.toList
noncomputable def F242 (c : CF) (a0 a1 : AV) (h : Heap) : Res := opt (convX P0 2 307 a0 h) fun t6 => opt (convX P0 2 307 a1 h) fun t8 => opt (litBi P0 .complex [307,307] 37 [false,false] [t6,t8]) fun t9 => some (t9,h)
theorem TF242 (c : CF) (a0 a1 : AV) (h : Heap) : (rk P0 c 10 c242).1 k242 [] k242 gK (argsTr gl 0 [a0,a1]) h = F242 c a0 a1 h := by kernel_rfl
noncomputable def N242 : FnF := n2 F242
theorem N242_ok : FnOk P0 gl 242 N242 := n2_ok namesOk mixedOrders lowOk Tryz.func242 (by kernel_rfl) (by kernel_rfl) (by kernel_rfl) TF242
noncomputable def c243 : Code := codeOf Tryz.f243
noncomputable def k243 : Kt := finK P0 Tryz.f243.results.toList
noncomputable def F243 (c : CF) (a0 : AV) (h : Heap) : Res := opt2 (c 247 [a0] h) fun t8 h1 => opt (extractX t8 0) fun t9 => opt (extractX t8 1) fun t10 => opt (extractX t8 2) fun t11 => some (t11,h1)
theorem TF243 (c : CF) (a0 : AV) (h : Heap) : (rk P0 c 13 c243).1 k243 [] k243 gK (argsTr gl 0 [a0]) h = F243 c a0 h := by kernel_rfl
noncomputable def N243 : FnF := n1 F243
theorem N243_ok : FnOk P0 gl 243 N243 := n1_ok namesOk mixedOrders lowOk Tryz.func243 (by kernel_rfl) (by kernel_rfl) (by kernel_rfl) TF243
noncomputable def c247 : Code := codeOf Tryz.f247
noncomputable def k247 : Kt := finK P0 Tryz.f247.results.toList
noncomputable def S247_0 (c : CF) (t5 t6 : AV) (h : Heap) : Res := opt (convX P0 307 2 t5 h) fun t29 => opt (convX P0 307 2 t6 h) fun t31 => opt (convX P0 2 307 t29 h) fun t35 => opt (binX P0 .none .eql 307 t35 t5) fun t37 => test t37 (opt (convX P0 2 307 t31 h) fun t40 => opt (binX P0 .none .eql 307 t40 t6) fun t42 => some ((.tup [t29,t31,t42]),h)) (some ((.tup [t29,t31,fL]),h))
theorem TS247_0 (c : CF) : (rk P0 c 44 c247.s4).1 k247 [] k247 gK = L2 (S247_0 c) 5 6 := by funext s h; kernel_rfl
noncomputable def S247_1 (c : CF) (t5 t6 t27 : AV) (h : Heap) : Res := test t27 (some ((.tup [(iL 0),(iL 0),fL]),h)) (S247_0 c t5 t6 h)
theorem TS247_1 (c : CF) : (rk P0 c 44 c247.s3.fst.snd).1 (L2 (S247_0 c) 5 6) [] k247 gK = L3 (S247_1 c) 5 6 27 := by funext s h; kernel_rfl
noncomputable def S247_2 (c : CF) (t5 t6 : AV) (h : Heap) : Res := opt (binX P0 .none .geq 307 t5 (.lit (.float .f64 13920626448202203136))) fun t14 => test t14 (opt (binX P0 .none .leq 307 t5 (.lit (.float .f64 4697254411347427328))) fun t17 => test t17 (opt (binX P0 .none .geq 307 t6 (.lit (.float .f64 13920626448202203136))) fun t21 => test t21 (opt (binX P0 .none .leq 307 t6 (.lit (.float .f64 4697254411347427328))) fun t25 => opt (notX t25) fun t27 => S247_1 c t5 t6 t27 h) (opt (notX fL) fun t27_1 => S247_1 c t5 t6 t27_1 h)) (opt (notX fL) fun t27_2 => S247_1 c t5 t6 t27_2 h)) (opt (notX fL) fun t27_3 => S247_1 c t5 t6 t27_3 h)
theorem TS247_2 (c : CF) : (rk P0 c 44 c247.s3).1 k247 [] k247 gK = L2 (S247_2 c) 5 6 := Eq.trans (seq_t (by kernel_rfl) (TS247_0 c) (seq_t (by kernel_rfl) (TS247_1 c) rfl)) (by funext s h; kernel_rfl)
noncomputable def S247_3 (c : CF) (t0 t5 : AV) (h : Heap) : Res := opt (litBi P0 .imag [37] 307 [false] [t0]) fun t12 => S247_2 c t5 t12 h
theorem TS247_3 (c : CF) : (rk P0 c 44 c247.s2).1 k247 [] k247 gK = L2 (S247_3 c) 0 5 := Eq.trans (seq_t (by kernel_rfl) (TS247_2 c) rfl) (by funext s h; kernel_rfl)
noncomputable def S247_4 (c : CF) (t0 : AV) (h : Heap) : Res := opt (litBi P0 .real [37] 307 [false] [t0]) fun t10 => S247_3 c t0 t10 h
theorem TS247_4 (c : CF) : (rk P0 c 44 c247.snd).1 k247 [] k247 gK = L1 (S247_4 c) 0 := Eq.trans (seq_t (by kernel_rfl) (TS247_3 c) rfl) (by funext s h; kernel_rfl)
noncomputable def F247 (c : CF) (a0 : AV) (h : Heap) : Res := S247_4 c a0 h
theorem TF247 (c : CF) (a0 : AV) (h : Heap) : (rk P0 c 44 c247).1 k247 [] k247 gK (argsTr gl 0 [a0]) h = F247 c a0 h := Eq.trans (congrFun (congrFun (seq_t (by kernel_rfl) (TS247_4 c) rfl) _) _) (by kernel_rfl)
noncomputable def N247 : FnF := n1 F247
theorem N247_ok : FnOk P0 gl 247 N247 := n1_ok namesOk mixedOrders lowOk Tryz.func247 (by kernel_rfl) (by kernel_rfl) (by kernel_rfl) TF247
end Go.Proofs.YtngiokdbbjbpfaaGreat
