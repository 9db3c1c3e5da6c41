import Derived.Test.YtomjidlkaocmkaaGreatG91
namespace Go.Proofs.YtomjidlkaocmkaaGreat
open Go.Am
set_option maxRecDepth 100000
set_option linter.unusedSimpArgs false
set_option linter.unusedVariables false
noncomputable def c187 : Code := codeOf Tryz.f187
noncomputable def k187 : Kt := finK P0 Tryz.f187.results.toList
def d187 : List Nat := []
noncomputable def F187 (c : CF) (a0 : AV) (h : Heap) : Res := opt2 (c 247 [a0] h) fun t4 h1 => test t4 (opt (fastIndex a0 (iL 0)) fun t7 => opt (fastBin .geq t7 (uL 65)) fun t8 => test t8 (opt (fastIndex a0 (iL 0)) fun t12 => opt (fastBin .leq t12 (uL 90)) fun t13 => some (t13,h1)) (some (fL,h1))) (some (fL,h1))
theorem TF187 (c : CF) (a0 : AV) (h : Heap) : (rk d187 P0 c 15 c187).1 k187 [] k187 gK (argsTr gl 0 [a0]) h = F187 c a0 h := by kernel_rfl
noncomputable def N187 : FnF := n1 F187
theorem N187_ok : FnOk P0 gl 187 N187 := n1_ok namesOk mixedOrders lowOk Tryz.func187 (by kernel_rfl) (by kernel_rfl) (by kernel_rfl) TF187
noncomputable def c188 : Code := codeOf Tryz.f188
noncomputable def k188 : Kt := finK P0 Tryz.f188.results.toList
def d188 : List Nat := [4,6,8,9,10,11,12,13,14,15,16,17,18,19,20]
noncomputable def F188 (c : CF) (a0 : AV) (h : Heap) : Res := opt2 (box a0 h) fun t1 h1 => opt (fieldAddrX 0 t1) fun t8 => opt (loadX none t8 h1) fun t9 => opt (fastBin .neq t9 (iL 1)) fun t10 => test t10 (opt (fieldAddrX 2 t1) fun t12 => opt (loadX none t12 h1) fun t13 => opt2 (c 248 [t13] h1) fun t14 h2 => opt (extractX t14 0) fun t15 => opt (extractX t14 1) fun t16 => opt (extractX t14 2) fun t17 => opt (fieldAddrX 3 t1) fun t19 => opt (loadX none t19 h2) fun t20 => opt (lenS t20) fun t21 => opt (fastBin .gtr t21 (iL 0)) fun t22 => test t22 (none) (opt (fieldAddrX 2 t1) fun t24 => opt (loadX none t24 h2) fun t25 => opt2 (c 196 [t25] h2) fun t26 h3 => opt (notX t26) fun t27 => test t27 (none) (opt (fieldAddrX 0 t1) fun t29 => opt (loadX none t29 h3) fun t30 => opt (fastBin .eql t30 (iL 3)) fun t31 => test t31 (opt (notX t17) fun t34 => test t34 (none) (some ((iL 0),h3))) (some ((iL 0),h3))))) (none)
theorem TF188 (c : CF) (a0 : AV) (h : Heap) : (rk d188 P0 c 83 c188).1 k188 [] k188 gK (argsTr gl 0 [a0]) h = F188 c a0 h := by kernel_rfl
noncomputable def N188 : FnF := n1 F188
theorem N188_ok : FnOk P0 gl 188 N188 := n1_ok namesOk mixedOrders lowOk Tryz.func188 (by kernel_rfl) (by kernel_rfl) (by kernel_rfl) TF188
noncomputable def c189 : Code := codeOf Tryz.f189
noncomputable def k189 : Kt := finK P0 Tryz.f189.results.toList
def d189 : List Nat := []
noncomputable def S189_0 (c : CF) (t5 : AV) (h : Heap) : Res := some (t5,h)
theorem TS189_0 (c : CF) : (rk d189 P0 c 29 c189.s3).1 k189 [] k189 gK = L1 (S189_0 c) 5 := by funext s h; kernel_rfl
noncomputable def S189_2b (c : CF) (r1 : A4) (t5 t16 t17 t18 : AV) (h : Heap) : Res := opt (fastBin .lss t18 t17) fun t19 => test t19 (opt (indexAddrS 11 t16 t18 h) fun t20 => opt (loadX (some 11) t20 h) fun t21 => opt2 (box (.agg [eL,eL,(iL 0),(iL 0),eL,cL,eL,eL,nL,nL,nL]) h) fun t7 h1 => optH (storeX 11 t7 t21 h1) fun h2 => opt (fieldAddrX 0 t7) fun t23 => opt (loadX none t23 h2) fun t24 => opt2 (bsliceX 1 eL 1 [(0,t24)] h2) fun t25 h3 => opt2 (appendX 1 16 t5 t25 h3) fun t26 h4 => opt (fastBin .add t18 (iL 1)) fun t27 => r1 t26 t16 t17 t27 h4) (S189_0 c t5 h)
theorem TS189_2b (c : CF) (r1 : A4) : (rk d189 P0 c 29 c189.s2.fst.snd.bd.bd).1 (L4 r1 5 16 17 18) [(0,(L1 (S189_0 c) 5))] k189 gK = L4 (S189_2b c r1) 5 16 17 18 := by funext s h; kernel_rfl
noncomputable def S189_1l (c : CF) : Nat → A4
  | 0 => fun _ _ _ _ _ => none
  | k + 1 => S189_2b c (S189_1l c k)
theorem TS189_1l (c : CF) : (rk d189 P0 c 29 c189.s2.fst.snd.bd).1 (L1 (S189_0 c) 5) [(0,(L1 (S189_0 c) 5))] k189 gK = L4 (S189_1l c rounds) 5 16 17 18 := loop_t (by kernel_rfl) (loop_ind (A := fun m => L4 (S189_1l c m) 5 16 17 18) rfl (fun m => TS189_2b c (S189_1l c m)) rounds)
noncomputable def S189_3 (c : CF) (t5 t16 t17 t18 : AV) (h : Heap) : Res := S189_1l c rounds t5 t16 t17 t18 h
theorem TS189_3 (c : CF) : (rk d189 P0 c 29 c189.s2.fst.snd).1 (L1 (S189_0 c) 5) [] k189 gK = L4 (S189_3 c) 5 16 17 18 := Eq.trans (block_t (id := 0) (by kernel_rfl) (TS189_1l c)) (by funext s h; kernel_rfl)
noncomputable def S189_4 (c : CF) (t1 t2 t5 : AV) (h : Heap) : Res := opt (fieldAddrX 4 t2) fun t8 => opt (loadX none t8 h) fun t9 => opt (litBi P0 .max [3,3] 3 [false,true] [t1,(iL 0)]) fun t11 => opt (fieldAddrX 4 t2) fun t12 => opt (loadX none t12 h) fun t13 => opt (lenS t13) fun t14 => opt (litBi P0 .min [3,3] 3 [false,false] [t11,t14]) fun t15 => opt (cutZ 11 t9 (some t15) none none h) fun t16 => opt (lenS t16) fun t17 => S189_3 c t5 t16 t17 (iL 0) h
theorem TS189_4 (c : CF) : (rk d189 P0 c 29 c189.s2).1 k189 [] k189 gK = L3 (S189_4 c) 1 2 5 := Eq.trans (seq_t (by kernel_rfl) (TS189_0 c) (seq_t (by kernel_rfl) (TS189_3 c) rfl)) (by funext s h; kernel_rfl)
noncomputable def S189_5 (c : CF) (t1 t2 : AV) (h : Heap) : Res := S189_4 c t1 t2 nL h
theorem TS189_5 (c : CF) : (rk d189 P0 c 29 c189.snd).1 k189 [] k189 gK = L2 (S189_5 c) 1 2 := Eq.trans (seq_t (by kernel_rfl) (TS189_4 c) rfl) (by funext s h; kernel_rfl)
noncomputable def F189 (c : CF) (a0 a1 : AV) (h : Heap) : Res := opt2 (box a0 h) fun t2 h1 => S189_5 c a1 t2 h1
theorem TF189 (c : CF) (a0 a1 : AV) (h : Heap) : (rk d189 P0 c 29 c189).1 k189 [] k189 gK (argsTr gl 0 [a0,a1]) h = F189 c a0 a1 h := Eq.trans (congrFun (congrFun (seq_t (by kernel_rfl) (TS189_5 c) rfl) _) _) (by kernel_rfl)
noncomputable def N189 : FnF := n2 F189
theorem N189_ok : FnOk P0 gl 189 N189 := n2_ok namesOk mixedOrders lowOk Tryz.func189 (by kernel_rfl) (by kernel_rfl) (by kernel_rfl) TF189
noncomputable def c190 : Code := codeOf Tryz.f190
noncomputable def k190 : Kt := finK P0 Tryz.f190.results.toList
def d190 : List Nat := []
noncomputable def F190 (c : CF) (a0 : AV) (h : Heap) : Res := opt (binX P0 .slice .eql 82 a0 nL) fun t4 => test t4 (some (nL,h)) (opt2 (bsliceX 2 (.agg [eL,eL]) 0 [] h) fun t5 h1 => opt2 (appendX 2 32 t5 a0 h1) fun t7 h2 => some (t7,h2))
theorem TF190 (c : CF) (a0 : AV) (h : Heap) : (rk d190 P0 c 8 c190).1 k190 [] k190 gK (argsTr gl 0 [a0]) h = F190 c a0 h := by kernel_rfl
noncomputable def N190 : FnF := n1 F190
theorem N190_ok : FnOk P0 gl 190 N190 := n1_ok namesOk mixedOrders lowOk Tryz.func190 (by kernel_rfl) (by kernel_rfl) (by kernel_rfl) TF190
noncomputable def c191 : Code := codeOf Tryz.f191
noncomputable def k191 : Kt := finK P0 Tryz.f191.results.toList
def d191 : List Nat := [2,17,20,23,24,27,28,29,30,31]
noncomputable def S191_0 (c : CF) (t0 t3 : AV) (h : Heap) : Res := opt (fieldAddrX 0 t3) fun t61 => opt (loadX none t61 h) fun t62 => opt (fastBin .eql t62 (iL 4)) fun t64 => test t64 (none) (opt (fastBin .eql t62 (iL 5)) fun t83 => test t83 (opt (loadX (some 9) t3 h) fun t85 => opt2 (c 259 [t0,t85] h) fun t86 h1 => some (t86,h1)) (none))
theorem TS191_0 (c : CF) : (rk d191 P0 c 100 c191.s5).1 k191 [] k191 gK = L2 (S191_0 c) 0 3 := by funext s h; kernel_rfl
noncomputable def S191_1 (c : CF) (t0 t3 t5 : AV) (h : Heap) : Res := opt (fastBin .gtr t5 (iL 0)) fun t50 => test t50 (opt (fieldAddrX 6 t3) fun t52 => opt (loadX none t52 h) fun t53 => opt (lenS t53) fun t54 => opt (fastBin .geq t54 t5) fun t56 => opt (loadX (some 9) t3 h) fun t58 => opt2 (c 257 [t0,t56,(iL 12),t58] h) fun t59 h1 => opt (notX t59) fun t60 => test t60 (none) (S191_0 c t0 t3 h1)) (opt (loadX (some 9) t3 h) fun t58_1 => opt2 (c 257 [t0,fL,(iL 12),t58_1] h) fun t59_1 h2 => opt (notX t59_1) fun t60_1 => test t60_1 (none) (S191_0 c t0 t3 h2))
theorem TS191_1 (c : CF) : (rk d191 P0 c 100 c191.s4).1 k191 [] k191 gK = L3 (S191_1 c) 0 3 5 := Eq.trans (seq_t (by kernel_rfl) (TS191_0 c) rfl) (by funext s h; kernel_rfl)
noncomputable def S191_2 (c : CF) (t0 t3 : AV) (h : Heap) : Res := opt2 (mkmapX h) fun t43 h1 => optH (mapSetX (.int .i64) t43 (iL 4) (iL 2) h1) fun h2 => optH (mapSetX (.int .i64) t43 (iL 5) (iL 3) h2) fun h3 => optH (mapSetX (.int .i64) t43 (iL 9) (iL 1) h3) fun h4 => optH (mapSetX (.int .i64) t43 (iL 10) (iL 1) h4) fun h5 => optH (mapSetX (.int .i64) t43 (iL 11) (iL 1) h5) fun h6 => opt (fieldAddrX 0 t3) fun t45 => opt (loadX none t45 h6) fun t46 => opt (lookupX (.int .i64) (iL 0) t43 t46 false h6) fun t47 => S191_1 c t0 t3 t47 h6
theorem TS191_2 (c : CF) : (rk d191 P0 c 100 c191.s3).1 k191 [] k191 gK = L2 (S191_2 c) 0 3 := Eq.trans (seq_t (by kernel_rfl) (TS191_1 c) rfl) (by funext s h; kernel_rfl)
noncomputable def S191_3 (c : CF) (t0 t3 : AV) (h : Heap) : Res := opt (fieldAddrX 0 t3) fun t12 => opt (loadX none t12 h) fun t13 => opt (fastBin .eql t13 (iL 1)) fun t15 => test t15 (some ((sL [110,117,109]),h)) (opt (fastBin .eql t13 (iL 2)) fun t17 => test t17 (some ((sL [98,121,116,101,115]),h)) (opt (fastBin .eql t13 (iL 3)) fun t19 => test t19 (opt (loadX (some 9) t3 h) fun t21 => opt2 (c 252 [t0,t21] h) fun t22 h1 => some (t22,h1)) (opt (fastBin .eql t13 (iL 6)) fun t24 => test t24 (opt (loadX (some 9) t3 h) fun t26 => opt2 (c 253 [t0,t26] h) fun t27 h2 => some (t27,h2)) (opt (fastBin .eql t13 (iL 8)) fun t29 => test t29 (opt (loadX (some 9) t3 h) fun t31 => opt2 (c 254 [t0,t31] h) fun t32 h3 => some (t32,h3)) (opt (fastBin .eql t13 (iL 12)) fun t34 => test t34 (opt (loadX (some 9) t3 h) fun t36 => opt2 (c 255 [t0,t36] h) fun t37 h4 => some (t37,h4)) (opt (fastBin .eql t13 (iL 7)) fun t39 => test t39 (none) (S191_2 c t0 t3 h)))))))
theorem TS191_3 (c : CF) : (rk d191 P0 c 100 c191.s2).1 k191 [] k191 gK = L2 (S191_3 c) 0 3 := Eq.trans (seq_t (by kernel_rfl) (TS191_2 c) rfl) (by funext s h; kernel_rfl)
noncomputable def S191_4 (c : CF) (t0 t3 : AV) (h : Heap) : Res := opt (nilCheckX t0) fun t8 => opt (fieldAddrX 3 t8) fun t9 => opt (loadX none t9 h) fun t10 => opt (fastBin .neq t10 (iL 0)) fun t11 => test t11 (none) (S191_3 c t0 t3 h)
theorem TS191_4 (c : CF) : (rk d191 P0 c 100 c191.snd).1 k191 [] k191 gK = L2 (S191_4 c) 0 3 := Eq.trans (seq_t (by kernel_rfl) (TS191_3 c) rfl) (by funext s h; kernel_rfl)
noncomputable def F191 (c : CF) (a0 a1 : AV) (h : Heap) : Res := opt2 (box a1 h) fun t3 h1 => S191_4 c a0 t3 h1
theorem TF191 (c : CF) (a0 a1 : AV) (h : Heap) : (rk d191 P0 c 100 c191).1 k191 [] k191 gK (argsTr gl 0 [a0,a1]) h = F191 c a0 a1 h := Eq.trans (congrFun (congrFun (seq_t (by kernel_rfl) (TS191_4 c) rfl) _) _) (by kernel_rfl)
noncomputable def N191 : FnF := n2 F191
theorem N191_ok : FnOk P0 gl 191 N191 := n2_ok namesOk mixedOrders lowOk Tryz.func191 (by kernel_rfl) (by kernel_rfl) (by kernel_rfl) TF191
noncomputable def c192 : Code := codeOf Tryz.f192
noncomputable def k192 : Kt := finK P0 Tryz.f192.results.toList
def d192 : List Nat := []
noncomputable def S192_0 (c : CF) (h : Heap) : Res := some ((iL (-1)),h)
theorem TS192_0 (c : CF) : (rk d192 P0 c 19 c192.s2).1 k192 [] k192 gK = L0 (S192_0 c) := by funext s h; kernel_rfl
noncomputable def S192_2b (c : CF) (r1 : A4) (t0 t1 t7 t8 : AV) (h : Heap) : Res := opt (fastBin .lss t8 t7) fun t9 => test t9 (opt (indexAddrS 2 t0 t8 h) fun t14 => opt (loadX (some 2) t14 h) fun t15 => opt2 (callV P0 c t1 [t15] h) fun t16 h1 => test t16 (some (t8,h1)) (opt (fastBin .add t8 (iL 1)) fun t18 => r1 t0 t1 t7 t18 h1)) (S192_0 c h)
theorem TS192_2b (c : CF) (r1 : A4) : (rk d192 P0 c 19 c192.snd.fst.snd.bd.bd).1 (L4 r1 0 1 7 8) [(0,(L0 (S192_0 c)))] k192 gK = L4 (S192_2b c r1) 0 1 7 8 := by funext s h; kernel_rfl
noncomputable def S192_1l (c : CF) : Nat → A4
  | 0 => fun _ _ _ _ _ => none
  | k + 1 => S192_2b c (S192_1l c k)
theorem TS192_1l (c : CF) : (rk d192 P0 c 19 c192.snd.fst.snd.bd).1 (L0 (S192_0 c)) [(0,(L0 (S192_0 c)))] k192 gK = L4 (S192_1l c rounds) 0 1 7 8 := loop_t (by kernel_rfl) (loop_ind (A := fun m => L4 (S192_1l c m) 0 1 7 8) rfl (fun m => TS192_2b c (S192_1l c m)) rounds)
noncomputable def S192_3 (c : CF) (t0 t1 t7 t8 : AV) (h : Heap) : Res := S192_1l c rounds t0 t1 t7 t8 h
theorem TS192_3 (c : CF) : (rk d192 P0 c 19 c192.snd.fst.snd).1 (L0 (S192_0 c)) [] k192 gK = L4 (S192_3 c) 0 1 7 8 := Eq.trans (block_t (id := 0) (by kernel_rfl) (TS192_1l c)) (by funext s h; kernel_rfl)
noncomputable def S192_4 (c : CF) (t0 t1 : AV) (h : Heap) : Res := opt (lenS t0) fun t7 => S192_3 c t0 t1 t7 (iL 0) h
theorem TS192_4 (c : CF) : (rk d192 P0 c 19 c192.snd).1 k192 [] k192 gK = L2 (S192_4 c) 0 1 := Eq.trans (seq_t (by kernel_rfl) (TS192_0 c) (seq_t (by kernel_rfl) (TS192_3 c) rfl)) (by funext s h; kernel_rfl)
noncomputable def F192 (c : CF) (a0 a1 : AV) (h : Heap) : Res := S192_4 c a0 a1 h
theorem TF192 (c : CF) (a0 a1 : AV) (h : Heap) : (rk d192 P0 c 19 c192).1 k192 [] k192 gK (argsTr gl 0 [a0,a1]) h = F192 c a0 a1 h := Eq.trans (congrFun (congrFun (seq_t (by kernel_rfl) (TS192_4 c) rfl) _) _) (by kernel_rfl)
noncomputable def N192 : FnF := n2 F192
theorem N192_ok : FnOk P0 gl 192 N192 := n2_ok namesOk mixedOrders lowOk Tryz.func192 (by kernel_rfl) (by kernel_rfl) (by kernel_rfl) TF192
noncomputable def c193 : Code := codeOf Tryz.f193
noncomputable def k193 : Kt := finK P0 Tryz.f193.results.toList
def d193 : List Nat := []
noncomputable def S193_0 (c : CF) (h : Heap) : Res := some ((iL (-1)),h)
theorem TS193_0 (c : CF) : (rk d193 P0 c 19 c193.s2).1 k193 [] k193 gK = L0 (S193_0 c) := by funext s h; kernel_rfl
noncomputable def S193_2b (c : CF) (r1 : A4) (t0 t1 t7 t8 : AV) (h : Heap) : Res := opt (fastBin .lss t8 t7) fun t9 => test t9 (opt (indexAddrS 2 t0 t8 h) fun t14 => opt (loadX (some 2) t14 h) fun t15 => opt2 (callV P0 c t1 [t15] h) fun t16 h1 => test t16 (some (t8,h1)) (opt (fastBin .add t8 (iL 1)) fun t18 => r1 t0 t1 t7 t18 h1)) (S193_0 c h)
theorem TS193_2b (c : CF) (r1 : A4) : (rk d193 P0 c 19 c193.snd.fst.snd.bd.bd).1 (L4 r1 0 1 7 8) [(0,(L0 (S193_0 c)))] k193 gK = L4 (S193_2b c r1) 0 1 7 8 := by funext s h; kernel_rfl
noncomputable def S193_1l (c : CF) : Nat → A4
  | 0 => fun _ _ _ _ _ => none
  | k + 1 => S193_2b c (S193_1l c k)
theorem TS193_1l (c : CF) : (rk d193 P0 c 19 c193.snd.fst.snd.bd).1 (L0 (S193_0 c)) [(0,(L0 (S193_0 c)))] k193 gK = L4 (S193_1l c rounds) 0 1 7 8 := loop_t (by kernel_rfl) (loop_ind (A := fun m => L4 (S193_1l c m) 0 1 7 8) rfl (fun m => TS193_2b c (S193_1l c m)) rounds)
noncomputable def S193_3 (c : CF) (t0 t1 t7 t8 : AV) (h : Heap) : Res := S193_1l c rounds t0 t1 t7 t8 h
theorem TS193_3 (c : CF) : (rk d193 P0 c 19 c193.snd.fst.snd).1 (L0 (S193_0 c)) [] k193 gK = L4 (S193_3 c) 0 1 7 8 := Eq.trans (block_t (id := 0) (by kernel_rfl) (TS193_1l c)) (by funext s h; kernel_rfl)
noncomputable def S193_4 (c : CF) (t0 t1 : AV) (h : Heap) : Res := opt (lenS t0) fun t7 => S193_3 c t0 t1 t7 (iL 0) h
theorem TS193_4 (c : CF) : (rk d193 P0 c 19 c193.snd).1 k193 [] k193 gK = L2 (S193_4 c) 0 1 := Eq.trans (seq_t (by kernel_rfl) (TS193_0 c) (seq_t (by kernel_rfl) (TS193_3 c) rfl)) (by funext s h; kernel_rfl)
noncomputable def F193 (c : CF) (a0 a1 : AV) (h : Heap) : Res := S193_4 c a0 a1 h
theorem TF193 (c : CF) (a0 a1 : AV) (h : Heap) : (rk d193 P0 c 19 c193).1 k193 [] k193 gK (argsTr gl 0 [a0,a1]) h = F193 c a0 a1 h := Eq.trans (congrFun (congrFun (seq_t (by kernel_rfl) (TS193_4 c) rfl) _) _) (by kernel_rfl)
noncomputable def N193 : FnF := n2 F193
theorem N193_ok : FnOk P0 gl 193 N193 := n2_ok namesOk mixedOrders lowOk Tryz.func193 (by kernel_rfl) (by kernel_rfl) (by kernel_rfl) TF193
noncomputable def c194 : Code := codeOf Tryz.f194
noncomputable def k194 : Kt := finK P0 Tryz.f194.results.toList
def d194 : List Nat := []
noncomputable def F194 (c : CF) (a0 a1 : AV) (h : Heap) : Res := opt2 (box a0 h) fun t2 h1 => opt (fieldAddrX 0 t2) fun t4 => opt (loadX none t4 h1) fun t5 => opt (loadX none a1 h1) fun t6 => opt (fastBin .eql t5 t6) fun t7 => some (t7,h1)
theorem TF194 (c : CF) (a0 a1 : AV) (h : Heap) : (rk d194 P0 c 8 c194).1 k194 [] k194 gK (argsTr gl 0 [a0,a1]) h = F194 c a0 a1 h := by kernel_rfl
noncomputable def N194 : FnF := n2 F194
theorem N194_ok : FnOk P0 gl 194 N194 := n2_ok namesOk mixedOrders lowOk Tryz.func194 (by kernel_rfl) (by kernel_rfl) (by kernel_rfl) TF194
noncomputable def c195 : Code := codeOf Tryz.f195
noncomputable def k195 : Kt := finK P0 Tryz.f195.results.toList
def d195 : List Nat := [6,7]
noncomputable def S195_1 (c : CF) (r0 : Nat → A3) (h : Heap) : Res := none
theorem TS195_1 (c : CF) (r0 : Nat → A3) : (rk d195 P0 c 23 (c195.snd.bd.at_ 0).s2).1 k195 [] k195 (fun l s h => r0 l (s.rd 1) (s.rd 2) (s.rd 4) h) = L0 (S195_1 c r0) := by funext s h; kernel_rfl
noncomputable def S195_3b (c : CF) (r0 : Nat → A3) (r2 : A5) (t1 t4 t9 t10 t11 : AV) (h : Heap) : Res := opt (fastBin .lss t11 t10) fun t12 => test t12 (opt (indexAddrS 4 t9 t11 h) fun t13 => opt (loadX (some 4) t13 h) fun t14 => opt2 (box (.agg [(iL 0),eL,eL,nL]) h) fun t7 h1 => optH (storeX 4 t7 t14 h1) fun h2 => opt (fieldAddrX 1 t7) fun t15 => opt (loadX none t15 h2) fun t16 => opt (fastBin .neq t16 t1) fun t18 => test t18 (none) (opt (loadX (some 4) t7 h2) fun t19 => opt2 (c 101 [t19] h2) fun t20 h3 => optH (storeX 4 t4 t20 h3) fun h4 => opt (loadX (some 4) t4 h4) fun res => some ((.tup [res,tL]),h4))) (S195_1 c r0 h)
theorem TS195_3b (c : CF) (r0 : Nat → A3) (r2 : A5) : (rk d195 P0 c 23 (c195.snd.bd.at_ 0).snd.fst.snd.bd.bd).1 (L5 r2 1 4 9 10 11) [(0,(L0 (S195_1 c r0)))] k195 (fun l s h => r0 l (s.rd 1) (s.rd 2) (s.rd 4) h) = L5 (S195_3b c r0 r2) 1 4 9 10 11 := by funext s h; kernel_rfl
noncomputable def S195_2l (c : CF) (r0 : Nat → A3) : Nat → A5
  | 0 => fun _ _ _ _ _ _ => none
  | k + 1 => S195_3b c r0 (S195_2l c r0 k)
theorem TS195_2l (c : CF) (r0 : Nat → A3) : (rk d195 P0 c 23 (c195.snd.bd.at_ 0).snd.fst.snd.bd).1 (L0 (S195_1 c r0)) [(0,(L0 (S195_1 c r0)))] k195 (fun l s h => r0 l (s.rd 1) (s.rd 2) (s.rd 4) h) = L5 (S195_2l c r0 rounds) 1 4 9 10 11 := loop_t (by kernel_rfl) (loop_ind (A := fun m => L5 (S195_2l c r0 m) 1 4 9 10 11) rfl (fun m => TS195_3b c r0 (S195_2l c r0 m)) rounds)
noncomputable def S195_4 (c : CF) (r0 : Nat → A3) (t1 t4 t9 t10 t11 : AV) (h : Heap) : Res := S195_2l c r0 rounds t1 t4 t9 t10 t11 h
theorem TS195_4 (c : CF) (r0 : Nat → A3) : (rk d195 P0 c 23 (c195.snd.bd.at_ 0).snd.fst.snd).1 (L0 (S195_1 c r0)) [] k195 (fun l s h => r0 l (s.rd 1) (s.rd 2) (s.rd 4) h) = L5 (S195_4 c r0) 1 4 9 10 11 := Eq.trans (block_t (id := 0) (by kernel_rfl) (TS195_2l c r0)) (by funext s h; kernel_rfl)
noncomputable def S195_5 (c : CF) (r0 : Nat → A3) (t1 t2 t4 : AV) (h : Heap) : Res := opt (fieldAddrX 1 t2) fun t8 => opt (loadX none t8 h) fun t9 => opt (lenS t9) fun t10 => S195_4 c r0 t1 t4 t9 t10 (iL 0) h
theorem TS195_5 (c : CF) (r0 : Nat → A3) : (rk d195 P0 c 23 (c195.snd.bd.at_ 0).snd).1 k195 [] k195 (fun l s h => r0 l (s.rd 1) (s.rd 2) (s.rd 4) h) = L3 (S195_5 c r0) 1 2 4 := Eq.trans (seq_t (by kernel_rfl) (TS195_1 c r0) (seq_t (by kernel_rfl) (TS195_4 c r0) rfl)) (by funext s h; kernel_rfl)
noncomputable def S195_6L0_ (c : CF) (r0 : Nat → A3) (t1 t2 t4 : AV) (h : Heap) : Res := S195_5 c r0 t1 t2 t4 h
theorem TS195_6L0_ (c : CF) (r0 : Nat → A3) : (rk d195 P0 c 23 (c195.snd.bd.at_ 0)).1 k195 [] k195 (fun l s h => r0 l (s.rd 1) (s.rd 2) (s.rd 4) h) = L3 (S195_6L0_ c r0) 1 2 4 := Eq.trans (seq_t (by kernel_rfl) (TS195_5 c r0) rfl) (by funext s h; kernel_rfl)
noncomputable def S195_0g (c : CF) : Nat → Nat → A3
  | 0 => fun _ _ _ _ _ => none
  | k + 1 => fun l => match l with
    | 0 => S195_6L0_ c (S195_0g c k)
    | _ => fun _ _ _ _ => none
theorem TS195_0g (c : CF) : jumpK (fun l kg' => match (rk d195 P0 c 23 c195.snd.bd).2 l with | some f => some (f k195 [] k195 kg') | none => none) gK rounds = fun l s h => S195_0g c rounds l (s.rd 1) (s.rd 2) (s.rd 4) h := jump_ind (J := fun m => fun l s h => S195_0g c m l (s.rd 1) (s.rd 2) (s.rd 4) h) rfl (fun m l => match l with
    | 0 => by rw [show findLabel c195.snd.bd 0 = some (c195.snd.bd.at_ 0) by kernel_rfl]; exact TS195_6L0_ c (S195_0g c m)
    | l + 1 => by rw [show findLabel c195.snd.bd (l + 1) = none by kernel_rfl]; rfl) rounds
noncomputable def S195_7 (c : CF) (h : Heap) : Res := none
theorem TS195_7 (c : CF) : (rk d195 P0 c 23 c195.snd.bd.s2).1 k195 [] k195 (fun l s h => S195_0g c rounds l (s.rd 1) (s.rd 2) (s.rd 4) h) = L0 (S195_7 c) := by funext s h; kernel_rfl
noncomputable def S195_9b (c : CF) (r8 : A5) (t1 t4 t9 t10 t11 : AV) (h : Heap) : Res := opt (fastBin .lss t11 t10) fun t12 => test t12 (opt (indexAddrS 4 t9 t11 h) fun t13 => opt (loadX (some 4) t13 h) fun t14 => opt2 (box (.agg [(iL 0),eL,eL,nL]) h) fun t7 h1 => optH (storeX 4 t7 t14 h1) fun h2 => opt (fieldAddrX 1 t7) fun t15 => opt (loadX none t15 h2) fun t16 => opt (fastBin .neq t16 t1) fun t18 => test t18 (none) (opt (loadX (some 4) t7 h2) fun t19 => opt2 (c 101 [t19] h2) fun t20 h3 => optH (storeX 4 t4 t20 h3) fun h4 => opt (loadX (some 4) t4 h4) fun res => some ((.tup [res,tL]),h4))) (S195_7 c h)
theorem TS195_9b (c : CF) (r8 : A5) : (rk d195 P0 c 23 c195.snd.bd.snd.fst.snd.bd.bd).1 (L5 r8 1 4 9 10 11) [(0,(L0 (S195_7 c)))] k195 (fun l s h => S195_0g c rounds l (s.rd 1) (s.rd 2) (s.rd 4) h) = L5 (S195_9b c r8) 1 4 9 10 11 := by funext s h; kernel_rfl
noncomputable def S195_8l (c : CF) : Nat → A5
  | 0 => fun _ _ _ _ _ _ => none
  | k + 1 => S195_9b c (S195_8l c k)
theorem TS195_8l (c : CF) : (rk d195 P0 c 23 c195.snd.bd.snd.fst.snd.bd).1 (L0 (S195_7 c)) [(0,(L0 (S195_7 c)))] k195 (fun l s h => S195_0g c rounds l (s.rd 1) (s.rd 2) (s.rd 4) h) = L5 (S195_8l c rounds) 1 4 9 10 11 := loop_t (by kernel_rfl) (loop_ind (A := fun m => L5 (S195_8l c m) 1 4 9 10 11) rfl (fun m => TS195_9b c (S195_8l c m)) rounds)
noncomputable def S195_10 (c : CF) (t1 t4 t9 t10 t11 : AV) (h : Heap) : Res := S195_8l c rounds t1 t4 t9 t10 t11 h
theorem TS195_10 (c : CF) : (rk d195 P0 c 23 c195.snd.bd.snd.fst.snd).1 (L0 (S195_7 c)) [] k195 (fun l s h => S195_0g c rounds l (s.rd 1) (s.rd 2) (s.rd 4) h) = L5 (S195_10 c) 1 4 9 10 11 := Eq.trans (block_t (id := 0) (by kernel_rfl) (TS195_8l c)) (by funext s h; kernel_rfl)
noncomputable def S195_11 (c : CF) (t1 t2 t4 : AV) (h : Heap) : Res := opt (fieldAddrX 1 t2) fun t8 => opt (loadX none t8 h) fun t9 => opt (lenS t9) fun t10 => S195_10 c t1 t4 t9 t10 (iL 0) h
theorem TS195_11 (c : CF) : (rk d195 P0 c 23 c195.snd.bd.snd).1 k195 [] k195 (fun l s h => S195_0g c rounds l (s.rd 1) (s.rd 2) (s.rd 4) h) = L3 (S195_11 c) 1 2 4 := Eq.trans (seq_t (by kernel_rfl) (TS195_7 c) (seq_t (by kernel_rfl) (TS195_10 c) rfl)) (by funext s h; kernel_rfl)
noncomputable def S195_12 (c : CF) (t1 t2 t4 : AV) (h : Heap) : Res := S195_11 c t1 t2 t4 h
theorem TS195_12 (c : CF) : (rk d195 P0 c 23 c195.snd).1 k195 [] k195 gK = L3 (S195_12 c) 1 2 4 := Eq.trans (scope_t (by kernel_rfl) (TS195_0g c) (seq_t (by kernel_rfl) (TS195_11 c) rfl)) (by funext s h; kernel_rfl)
noncomputable def F195 (c : CF) (a0 a1 : AV) (h : Heap) : Res := opt2 (box a0 h) fun t2 h1 => opt2 (box (.agg [(iL 0),eL,eL,nL]) h1) fun t4 h2 => S195_12 c a1 t2 t4 h2
theorem TF195 (c : CF) (a0 a1 : AV) (h : Heap) : (rk d195 P0 c 23 c195).1 k195 [] k195 gK (argsTr gl 0 [a0,a1]) h = F195 c a0 a1 h := Eq.trans (congrFun (congrFun (seq_t (by kernel_rfl) (TS195_12 c) rfl) _) _) (by kernel_rfl)
noncomputable def N195 : FnF := n2 F195
theorem N195_ok : FnOk P0 gl 195 N195 := n2_ok namesOk mixedOrders lowOk Tryz.func195 (by kernel_rfl) (by kernel_rfl) (by kernel_rfl) TF195
noncomputable def c196 : Code := codeOf Tryz.f196
noncomputable def k196 : Kt := finK P0 Tryz.f196.results.toList
def d196 : List Nat := []
noncomputable def F196 (c : CF) (a0 : AV) (h : Heap) : Res := opt (fastBin .neq a0 eL) fun t4 => test t4 (opt (lenStr a0) fun t7 => opt (fastBin .leq t7 (iL 200)) fun t8 => test t8 (opt2 (c 263 [a0] h) fun t12 h1 => opt (lenStr a0) fun t14 => opt (fastBin .eql t12 t14) fun t15 => some (t15,h1)) (some (fL,h))) (some (fL,h))
theorem TF196 (c : CF) (a0 : AV) (h : Heap) : (rk d196 P0 c 17 c196).1 k196 [] k196 gK (argsTr gl 0 [a0]) h = F196 c a0 h := by kernel_rfl
noncomputable def N196 : FnF := n1 F196
theorem N196_ok : FnOk P0 gl 196 N196 := n1_ok namesOk mixedOrders lowOk Tryz.func196 (by kernel_rfl) (by kernel_rfl) (by kernel_rfl) TF196
noncomputable def c197 : Code := codeOf Tryz.f197
noncomputable def k197 : Kt := finK P0 Tryz.f197.results.toList
def d197 : List Nat := [2]
noncomputable def S197_0 (c : CF) (t3 : AV) (h : Heap) : Res := opt2 (c 32 [t3] h) fun t24 h1 => opt2 (c 268 [t3] h1) fun t26 h2 => some (t26,h2)
theorem TS197_0 (c : CF) : (rk d197 P0 c 27 c197.s4).1 k197 [] k197 gK = L1 (S197_0 c) 3 := by funext s h; kernel_rfl
noncomputable def S197_2b (c : CF) (r1 : A4) (t3 t10 t11 t12 : AV) (h : Heap) : Res := opt (fastBin .lss t12 t11) fun t13 => test t13 (opt (indexAddrS 1 t10 t12 h) fun t14 => opt (loadX none t14 h) fun t15 => opt2 (c 267 [t15,(sL [46])] h) fun t17 h1 => test t17 (opt2 (bsliceX 1 eL 1 [(0,t15)] h1) fun t20 h2 => opt2 (appendX 1 16 t3 t20 h2) fun t21 h3 => opt (fastBin .add t12 (iL 1)) fun t22 => r1 t21 t10 t11 t22 h3) (opt (fastBin .add t12 (iL 1)) fun t22_1 => r1 t3 t10 t11 t22_1 h1)) (S197_0 c t3 h)
theorem TS197_2b (c : CF) (r1 : A4) : (rk d197 P0 c 27 c197.s3.fst.snd.bd.bd).1 (L4 r1 3 10 11 12) [(0,(L1 (S197_0 c) 3))] k197 gK = L4 (S197_2b c r1) 3 10 11 12 := by funext s h; kernel_rfl
noncomputable def S197_1l (c : CF) : Nat → A4
  | 0 => fun _ _ _ _ _ => none
  | k + 1 => S197_2b c (S197_1l c k)
theorem TS197_1l (c : CF) : (rk d197 P0 c 27 c197.s3.fst.snd.bd).1 (L1 (S197_0 c) 3) [(0,(L1 (S197_0 c) 3))] k197 gK = L4 (S197_1l c rounds) 3 10 11 12 := loop_t (by kernel_rfl) (loop_ind (A := fun m => L4 (S197_1l c m) 3 10 11 12) rfl (fun m => TS197_2b c (S197_1l c m)) rounds)
noncomputable def S197_3 (c : CF) (t3 t10 t11 t12 : AV) (h : Heap) : Res := S197_1l c rounds t3 t10 t11 t12 h
theorem TS197_3 (c : CF) : (rk d197 P0 c 27 c197.s3.fst.snd).1 (L1 (S197_0 c) 3) [] k197 gK = L4 (S197_3 c) 3 10 11 12 := Eq.trans (block_t (id := 0) (by kernel_rfl) (TS197_1l c)) (by funext s h; kernel_rfl)
noncomputable def S197_4 (c : CF) (t0 t3 : AV) (h : Heap) : Res := opt2 (c 264 [t0,(.fn (.func 265) [] [])] h) fun t10 h1 => opt (lenS t10) fun t11 => S197_3 c t3 t10 t11 (iL 0) h1
theorem TS197_4 (c : CF) : (rk d197 P0 c 27 c197.s3).1 k197 [] k197 gK = L2 (S197_4 c) 0 3 := Eq.trans (seq_t (by kernel_rfl) (TS197_0 c) (seq_t (by kernel_rfl) (TS197_3 c) rfl)) (by funext s h; kernel_rfl)
noncomputable def S197_5 (c : CF) (t0 : AV) (h : Heap) : Res := S197_4 c t0 nL h
theorem TS197_5 (c : CF) : (rk d197 P0 c 27 c197.s2).1 k197 [] k197 gK = L1 (S197_5 c) 0 := Eq.trans (seq_t (by kernel_rfl) (TS197_4 c) rfl) (by funext s h; kernel_rfl)
noncomputable def S197_6 (c : CF) (t0 : AV) (h : Heap) : Res := opt2 (c 196 [t0] h) fun t7 h1 => opt (notX t7) fun t8 => test t8 (none) (S197_5 c t0 h1)
theorem TS197_6 (c : CF) : (rk d197 P0 c 27 c197.snd).1 k197 [] k197 gK = L1 (S197_6 c) 0 := Eq.trans (seq_t (by kernel_rfl) (TS197_5 c) rfl) (by funext s h; kernel_rfl)
noncomputable def F197 (c : CF) (a0 : AV) (h : Heap) : Res := S197_6 c a0 h
theorem TF197 (c : CF) (a0 : AV) (h : Heap) : (rk d197 P0 c 27 c197).1 k197 [] k197 gK (argsTr gl 0 [a0]) h = F197 c a0 h := Eq.trans (congrFun (congrFun (seq_t (by kernel_rfl) (TS197_6 c) rfl) _) _) (by kernel_rfl)
noncomputable def N197 : FnF := n1 F197
theorem N197_ok : FnOk P0 gl 197 N197 := n1_ok namesOk mixedOrders lowOk Tryz.func197 (by kernel_rfl) (by kernel_rfl) (by kernel_rfl) TF197
noncomputable def c198 : Code := codeOf Tryz.f198
noncomputable def k198 : Kt := finK P0 Tryz.f198.results.toList
def d198 : List Nat := []
noncomputable def F198 (c : CF) (a0 a1 : AV) (h : Heap) : Res := opt (loadX none a1 h) fun t7 => opt (nilCheckX t7) fun t8 => opt (fieldAddrX 2 t8) fun t9 => opt (loadX none t9 h) fun t10 => opt (lookupX .str nL t10 a0 true h) fun t12 => opt (extractX t12 0) fun t13 => opt (extractX t12 1) fun t14 => opt (notX t14) fun t16 => some (t16,h)
theorem TF198 (c : CF) (a0 a1 : AV) (h : Heap) : (rk d198 P0 c 17 c198).1 k198 [] k198 gK (argsTr gl 0 [a0,a1]) h = F198 c a0 a1 h := by kernel_rfl
noncomputable def N198 : FnF := n2 F198
theorem N198_ok : FnOk P0 gl 198 N198 := n2_ok namesOk mixedOrders lowOk Tryz.func198 (by kernel_rfl) (by kernel_rfl) (by kernel_rfl) TF198
noncomputable def c199 : Code := codeOf Tryz.f199
noncomputable def k199 : Kt := finK P0 Tryz.f199.results.toList
def d199 : List Nat := [3,6,7,8,9,10,11,12,13,14,15,16,17,18,19,20,21,22,23,24,25,26,27,28,29,30,31,32,33,34,35]
noncomputable def S199_0 (c : CF) (t0 t1 t5 t16 : AV) (h : Heap) : Res := test t16 (none) (opt (fastBin .eql t5 (iL 1)) fun t26 => test t26 (opt (fastIndex t1 (iL 0)) fun t29 => opt2 (c 269 [t0,t29] h) fun t30 h1 => some (t30,h1)) (none))
theorem TS199_0 (c : CF) : (rk d199 P0 c 143 c199.s2.fst.bd.snd).1 ((rk d199 P0 c 143 c199.s3).1 k199 [] k199 gK) [(0,((rk d199 P0 c 143 c199.s3).1 k199 [] k199 gK))] k199 gK = L4 (S199_0 c) 0 1 5 16 := by funext s h; kernel_rfl
noncomputable def S199_1 (c : CF) (t0 t1 t5 : AV) (h : Heap) : Res := opt (fastBin .eql t5 (iL 0)) fun t18 => test t18 (S199_0 c t0 t1 t5 tL h) (opt (fastBin .eql t1 t0) fun t22 => S199_0 c t0 t1 t5 t22 h)
theorem TS199_1 (c : CF) : (rk d199 P0 c 143 c199.s2).1 k199 [] k199 gK = L3 (S199_1 c) 0 1 5 := Eq.trans (seq_t (by kernel_rfl) rfl (block_t (id := 0) (by kernel_rfl) (seq_t (by kernel_rfl) (TS199_0 c) rfl))) (by funext s h; kernel_rfl)
noncomputable def S199_2 (c : CF) (t0 t1 : AV) (h : Heap) : Res := opt (lenStr t1) fun t15 => S199_1 c t0 t1 t15 h
theorem TS199_2 (c : CF) : (rk d199 P0 c 143 c199.snd).1 k199 [] k199 gK = L2 (S199_2 c) 0 1 := Eq.trans (seq_t (by kernel_rfl) (TS199_1 c) rfl) (by funext s h; kernel_rfl)
noncomputable def F199 (c : CF) (a0 a1 : AV) (h : Heap) : Res := S199_2 c a0 a1 h
theorem TF199 (c : CF) (a0 a1 : AV) (h : Heap) : (rk d199 P0 c 143 c199).1 k199 [] k199 gK (argsTr gl 0 [a0,a1]) h = F199 c a0 a1 h := Eq.trans (congrFun (congrFun (seq_t (by kernel_rfl) (TS199_2 c) rfl) _) _) (by kernel_rfl)
noncomputable def N199 : FnF := n2 F199
theorem N199_ok : FnOk P0 gl 199 N199 := n2_ok namesOk mixedOrders lowOk Tryz.func199 (by kernel_rfl) (by kernel_rfl) (by kernel_rfl) TF199
noncomputable def c200 : Code := codeOf Tryz.f200
noncomputable def k200 : Kt := finK P0 Tryz.f200.results.toList
def d200 : List Nat := []
noncomputable def F200 (c : CF) (a0 : AV) (h : Heap) : Res := opt2 (c 273 [a0] h) fun t5 h1 => opt (binX P0 .none .eql 99 a0 t5) fun t6 => test t6 (opt2 (c 274 [a0] h1) fun t9 h2 => opt (binX P0 .none .leq 99 t9 (.lit (.float .f64 4697254411347427328))) fun t10 => some (t10,h2)) (some (fL,h1))
theorem TF200 (c : CF) (a0 : AV) (h : Heap) : (rk d200 P0 c 12 c200).1 k200 [] k200 gK (argsTr gl 0 [a0]) h = F200 c a0 h := by kernel_rfl
noncomputable def N200 : FnF := n1 F200
theorem N200_ok : FnOk P0 gl 200 N200 := n1_ok namesOk mixedOrders lowOk Tryz.func200 (by kernel_rfl) (by kernel_rfl) (by kernel_rfl) TF200
noncomputable def c204 : Code := codeOf Tryz.f204
noncomputable def k204 : Kt := finK P0 Tryz.f204.results.toList
def d204 : List Nat := []
noncomputable def S204_0 (c : CF) (h : Heap) : Res := some ((iL (-1)),h)
theorem TS204_0 (c : CF) : (rk d204 P0 c 19 c204.s2).1 k204 [] k204 gK = L0 (S204_0 c) := by funext s h; kernel_rfl
noncomputable def S204_2b (c : CF) (r1 : A4) (t0 t1 t7 t8 : AV) (h : Heap) : Res := opt (fastBin .lss t8 t7) fun t9 => test t9 (opt (indexAddrS 11 t0 t8 h) fun t14 => opt (loadX (some 11) t14 h) fun t15 => opt2 (callV P0 c t1 [t15] h) fun t16 h1 => test t16 (some (t8,h1)) (opt (fastBin .add t8 (iL 1)) fun t18 => r1 t0 t1 t7 t18 h1)) (S204_0 c h)
theorem TS204_2b (c : CF) (r1 : A4) : (rk d204 P0 c 19 c204.snd.fst.snd.bd.bd).1 (L4 r1 0 1 7 8) [(0,(L0 (S204_0 c)))] k204 gK = L4 (S204_2b c r1) 0 1 7 8 := by funext s h; kernel_rfl
noncomputable def S204_1l (c : CF) : Nat → A4
  | 0 => fun _ _ _ _ _ => none
  | k + 1 => S204_2b c (S204_1l c k)
theorem TS204_1l (c : CF) : (rk d204 P0 c 19 c204.snd.fst.snd.bd).1 (L0 (S204_0 c)) [(0,(L0 (S204_0 c)))] k204 gK = L4 (S204_1l c rounds) 0 1 7 8 := loop_t (by kernel_rfl) (loop_ind (A := fun m => L4 (S204_1l c m) 0 1 7 8) rfl (fun m => TS204_2b c (S204_1l c m)) rounds)
noncomputable def S204_3 (c : CF) (t0 t1 t7 t8 : AV) (h : Heap) : Res := S204_1l c rounds t0 t1 t7 t8 h
theorem TS204_3 (c : CF) : (rk d204 P0 c 19 c204.snd.fst.snd).1 (L0 (S204_0 c)) [] k204 gK = L4 (S204_3 c) 0 1 7 8 := Eq.trans (block_t (id := 0) (by kernel_rfl) (TS204_1l c)) (by funext s h; kernel_rfl)
noncomputable def S204_4 (c : CF) (t0 t1 : AV) (h : Heap) : Res := opt (lenS t0) fun t7 => S204_3 c t0 t1 t7 (iL 0) h
theorem TS204_4 (c : CF) : (rk d204 P0 c 19 c204.snd).1 k204 [] k204 gK = L2 (S204_4 c) 0 1 := Eq.trans (seq_t (by kernel_rfl) (TS204_0 c) (seq_t (by kernel_rfl) (TS204_3 c) rfl)) (by funext s h; kernel_rfl)
noncomputable def F204 (c : CF) (a0 a1 : AV) (h : Heap) : Res := S204_4 c a0 a1 h
theorem TF204 (c : CF) (a0 a1 : AV) (h : Heap) : (rk d204 P0 c 19 c204).1 k204 [] k204 gK (argsTr gl 0 [a0,a1]) h = F204 c a0 a1 h := Eq.trans (congrFun (congrFun (seq_t (by kernel_rfl) (TS204_4 c) rfl) _) _) (by kernel_rfl)
noncomputable def N204 : FnF := n2 F204
theorem N204_ok : FnOk P0 gl 204 N204 := n2_ok namesOk mixedOrders lowOk Tryz.func204 (by kernel_rfl) (by kernel_rfl) (by kernel_rfl) TF204
noncomputable def c207 : Code := codeOf Tryz.f207
noncomputable def k207 : Kt := finK P0 Tryz.f207.results.toList
def d207 : List Nat := []
noncomputable def F207 (c : CF) (a0 : AV) (h : Heap) : Res := opt (litBi P0 .real [23] 99 [false] [a0]) fun t4 => opt (binX P0 .none .add 99 t4 (.lit (.float .f64 0))) fun t5 => opt (litBi P0 .imag [23] 99 [false] [a0]) fun t7 => opt (binX P0 .none .add 99 t7 (.lit (.float .f64 0))) fun t8 => opt (litBi P0 .complex [99,99] 23 [false,false] [t5,t8]) fun t9 => some (t9,h)
theorem TF207 (c : CF) (a0 : AV) (h : Heap) : (rk d207 P0 c 10 c207).1 k207 [] k207 gK (argsTr gl 0 [a0]) h = F207 c a0 h := by kernel_rfl
noncomputable def N207 : FnF := n1 F207
theorem N207_ok : FnOk P0 gl 207 N207 := n1_ok namesOk mixedOrders lowOk Tryz.func207 (by kernel_rfl) (by kernel_rfl) (by kernel_rfl) TF207
noncomputable def c208 : Code := codeOf Tryz.f208
noncomputable def k208 : Kt := finK P0 Tryz.f208.results.toList
def d208 : List Nat := []
noncomputable def F208 (c : CF) (a0 : AV) (h : Heap) : Res := opt (fastBin .eql a0 (uL 9)) fun t4 => test t4 (some (tL,h)) (opt (fastBin .eql a0 (uL 10)) fun t7 => test t7 (some (tL,h)) (opt (fastBin .eql a0 (uL 13)) fun t11 => test t11 (some (tL,h)) (opt (fastBin .eql a0 (uL 32)) fun t15 => some (t15,h))))
theorem TF208 (c : CF) (a0 : AV) (h : Heap) : (rk d208 P0 c 17 c208).1 k208 [] k208 gK (argsTr gl 0 [a0]) h = F208 c a0 h := by kernel_rfl
noncomputable def N208 : FnF := n1 F208
theorem N208_ok : FnOk P0 gl 208 N208 := n1_ok namesOk mixedOrders lowOk Tryz.func208 (by kernel_rfl) (by kernel_rfl) (by kernel_rfl) TF208
noncomputable def c209 : Code := codeOf Tryz.f209
noncomputable def k209 : Kt := finK P0 Tryz.f209.results.toList
def d209 : List Nat := [6,11,12,13,14,15,16,17,18,19,10,21,23]
noncomputable def S209_0 (c : CF) (t0 t8 t9 : AV) (h : Heap) : Res := opt (lenStr t0) fun t142 => opt (fastBin .geq t9 t142) fun t143 => test t143 (none) (opt (lenStr t8) fun t146 => opt (fastBin .gtr t146 (iL 200)) fun t147 => test t147 (none) (opt (fastBin .add t9 (iL 1)) fun t151 => some ((.tup [t8,t151,(iL 0),(iL 0)]),h)))
theorem TS209_0 (c : CF) : (rk d209 P0 c 152 c209.s4).1 k209 [] k209 gK = L3 (S209_0 c) 0 8 9 := by funext s h; kernel_rfl
noncomputable def S209_2 (c : CF) (r1 : A3) (t0 t8 t9 t10 : AV) (h : Heap) : Res := opt (fastBin .neq t10 (uL 92)) fun t34 => test t34 (opt (fastBin .add t9 (iL 1)) fun t39 => opt (fastCut t0 (some t9) (some t39) none) fun t40 => opt (fastBin .add t8 t40) fun t41 => opt (fastBin .add t9 (iL 1)) fun t43 => r1 t0 t41 t43 h) (none)
theorem TS209_2 (c : CF) (r1 : A3) : (rk d209 P0 c 152 c209.s3.fst.bd.bd.snd.bd.s2).1 (L3 r1 0 8 9) [(1,(L3 r1 0 8 9)),(0,(L3 (S209_0 c) 0 8 9))] k209 gK = L4 (S209_2 c r1) 0 8 9 10 := by funext s h; kernel_rfl
noncomputable def S209_3 (c : CF) (r1 : A3) (t0 t8 t9 t10 : AV) (h : Heap) : Res := opt (fastBin .lss t10 (uL 32)) fun t27 => test t27 (none) (opt (fastBin .gtr t10 (uL 126)) fun t30 => test t30 (none) (S209_2 c r1 t0 t8 t9 t10 h))
theorem TS209_3 (c : CF) (r1 : A3) : (rk d209 P0 c 152 c209.s3.fst.bd.bd.snd.bd.snd).1 (L3 r1 0 8 9) [(1,(L3 r1 0 8 9)),(0,(L3 (S209_0 c) 0 8 9))] k209 gK = L4 (S209_3 c r1) 0 8 9 10 := Eq.trans (seq_t (by kernel_rfl) (TS209_2 c r1) rfl) (by funext s h; kernel_rfl)
noncomputable def S209_4 (c : CF) (r1 : A3) (t0 t8 t9 : AV) (h : Heap) : Res := opt (fastIndex t0 t9) fun t25 => S209_3 c r1 t0 t8 t9 t25 h
theorem TS209_4 (c : CF) (r1 : A3) : (rk d209 P0 c 152 c209.s3.fst.bd.bd.snd).1 (L3 r1 0 8 9) [(0,(L3 (S209_0 c) 0 8 9))] k209 gK = L3 (S209_4 c r1) 0 8 9 := Eq.trans (block_t (id := 1) (by kernel_rfl) (seq_t (by kernel_rfl) (TS209_3 c r1) rfl)) (by funext s h; kernel_rfl)
noncomputable def S209_5b (c : CF) (r1 : A3) (t0 t8 t9 : AV) (h : Heap) : Res := opt (lenStr t0) fun t15 => opt (fastBin .lss t9 t15) fun t16 => test t16 (opt (fastIndex t0 t9) fun t20 => opt (fastBin .neq t20 (uL 34)) fun t21 => test t21 (S209_4 c r1 t0 t8 t9 h) (S209_0 c t0 t8 t9 h)) (S209_0 c t0 t8 t9 h)
theorem TS209_5b (c : CF) (r1 : A3) : (rk d209 P0 c 152 c209.s3.fst.bd.bd).1 (L3 r1 0 8 9) [(0,(L3 (S209_0 c) 0 8 9))] k209 gK = L3 (S209_5b c r1) 0 8 9 := Eq.trans (seq_t (by kernel_rfl) (TS209_4 c r1) rfl) (by funext s h; kernel_rfl)
noncomputable def S209_1l (c : CF) : Nat → A3
  | 0 => fun _ _ _ _ => none
  | k + 1 => S209_5b c (S209_1l c k)
theorem TS209_1l (c : CF) : (rk d209 P0 c 152 c209.s3.fst.bd).1 (L3 (S209_0 c) 0 8 9) [(0,(L3 (S209_0 c) 0 8 9))] k209 gK = L3 (S209_1l c rounds) 0 8 9 := loop_t (by kernel_rfl) (loop_ind (A := fun m => L3 (S209_1l c m) 0 8 9) rfl (fun m => TS209_5b c (S209_1l c m)) rounds)
noncomputable def S209_6 (c : CF) (t0 t8 t9 : AV) (h : Heap) : Res := S209_1l c rounds t0 t8 t9 h
theorem TS209_6 (c : CF) : (rk d209 P0 c 152 c209.s3).1 k209 [] k209 gK = L3 (S209_6 c) 0 8 9 := Eq.trans (seq_t (by kernel_rfl) (TS209_0 c) (block_t (id := 0) (by kernel_rfl) (TS209_1l c))) (by funext s h; kernel_rfl)
noncomputable def S209_7 (c : CF) (t0 t1 t8 : AV) (h : Heap) : Res := opt (fastBin .add t1 (iL 1)) fun t12 => S209_6 c t0 t8 t12 h
theorem TS209_7 (c : CF) : (rk d209 P0 c 152 c209.s2).1 k209 [] k209 gK = L3 (S209_7 c) 0 1 8 := Eq.trans (seq_t (by kernel_rfl) (TS209_6 c) rfl) (by funext s h; kernel_rfl)
noncomputable def S209_8 (c : CF) (t0 t1 : AV) (h : Heap) : Res := S209_7 c t0 t1 eL h
theorem TS209_8 (c : CF) : (rk d209 P0 c 152 c209.snd).1 k209 [] k209 gK = L2 (S209_8 c) 0 1 := Eq.trans (seq_t (by kernel_rfl) (TS209_7 c) rfl) (by funext s h; kernel_rfl)
noncomputable def F209 (c : CF) (a0 a1 : AV) (h : Heap) : Res := S209_8 c a0 a1 h
theorem TF209 (c : CF) (a0 a1 : AV) (h : Heap) : (rk d209 P0 c 152 c209).1 k209 [] k209 gK (argsTr gl 0 [a0,a1]) h = F209 c a0 a1 h := Eq.trans (congrFun (congrFun (seq_t (by kernel_rfl) (TS209_8 c) rfl) _) _) (by kernel_rfl)
noncomputable def N209 : FnF := n2 F209
theorem N209_ok : FnOk P0 gl 209 N209 := n2_ok namesOk mixedOrders lowOk Tryz.func209 (by kernel_rfl) (by kernel_rfl) (by kernel_rfl) TF209
noncomputable def c210 : Code := codeOf Tryz.f210
noncomputable def k210 : Kt := finK P0 Tryz.f210.results.toList
def d210 : List Nat := [6]
noncomputable def S210_0 (c : CF) (h : Heap) : Res := some (fL,h)
theorem TS210_0 (c : CF) : (rk d210 P0 c 20 c210.s3).1 k210 [] k210 gK = L0 (S210_0 c) := by funext s h; kernel_rfl
noncomputable def S210_2b (c : CF) (r1 : A3) (t0 t3 t4 : AV) (h : Heap) : Res := opt (lenS t3) fun t10 => opt (fastBin .lss t4 t10) fun t11 => test t11 (opt (indexAddrS 1 t3 t4 h) fun t16 => opt (loadX none t16 h) fun t17 => opt (fastBin .eql t17 t0) fun t19 => test t19 (none) (opt (fastBin .add t4 (iL 1)) fun t13 => r1 t0 t3 t13 h)) (S210_0 c h)
theorem TS210_2b (c : CF) (r1 : A3) : (rk d210 P0 c 20 c210.s2.fst.snd.bd.bd).1 (L3 r1 0 3 4) [(0,(L0 (S210_0 c)))] k210 gK = L3 (S210_2b c r1) 0 3 4 := by funext s h; kernel_rfl
noncomputable def S210_1l (c : CF) : Nat → A3
  | 0 => fun _ _ _ _ => none
  | k + 1 => S210_2b c (S210_1l c k)
theorem TS210_1l (c : CF) : (rk d210 P0 c 20 c210.s2.fst.snd.bd).1 (L0 (S210_0 c)) [(0,(L0 (S210_0 c)))] k210 gK = L3 (S210_1l c rounds) 0 3 4 := loop_t (by kernel_rfl) (loop_ind (A := fun m => L3 (S210_1l c m) 0 3 4) rfl (fun m => TS210_2b c (S210_1l c m)) rounds)
noncomputable def S210_3 (c : CF) (t0 t3 t4 : AV) (h : Heap) : Res := S210_1l c rounds t0 t3 t4 h
theorem TS210_3 (c : CF) : (rk d210 P0 c 20 c210.s2.fst.snd).1 (L0 (S210_0 c)) [] k210 gK = L3 (S210_3 c) 0 3 4 := Eq.trans (block_t (id := 0) (by kernel_rfl) (TS210_1l c)) (by funext s h; kernel_rfl)
noncomputable def S210_4 (c : CF) (t0 t3 : AV) (h : Heap) : Res := S210_3 c t0 t3 (iL 0) h
theorem TS210_4 (c : CF) : (rk d210 P0 c 20 c210.s2).1 k210 [] k210 gK = L2 (S210_4 c) 0 3 := Eq.trans (seq_t (by kernel_rfl) (TS210_0 c) (seq_t (by kernel_rfl) (TS210_3 c) rfl)) (by funext s h; kernel_rfl)
noncomputable def S210_5 (c : CF) (t0 : AV) (h : Heap) : Res := opt2 (c 279 [] h) fun t5 h1 => opt2 (bsliceX 1 eL 14 [(0,(sL [108,101,116])),(1,(sL [105,102])),(2,(sL [97,114,114,97,121])),(3,(sL [109,97,116,99,104])),(4,(sL [102,110])),(5,(sL [99,97,108,108])),(6,(sL [110,117,109])),(7,(sL [98,121,116,101,115])),(8,(sL [109,111,100,117,108,101])),(9,(sL [105,109,112,111,114,116])),(10,(sL [101,120,112,111,114,116])),(11,(sL [116,121,112,101])),(12,(sL [99,111,110,115,116])),(13,(sL [102,117,110]))] h1) fun t6 h2 => opt2 (appendX 1 16 t5 t6 h2) fun t7 h3 => S210_4 c t0 t7 h3
theorem TS210_5 (c : CF) : (rk d210 P0 c 20 c210.snd).1 k210 [] k210 gK = L1 (S210_5 c) 0 := Eq.trans (seq_t (by kernel_rfl) (TS210_4 c) rfl) (by funext s h; kernel_rfl)
noncomputable def F210 (c : CF) (a0 : AV) (h : Heap) : Res := S210_5 c a0 h
theorem TF210 (c : CF) (a0 : AV) (h : Heap) : (rk d210 P0 c 20 c210).1 k210 [] k210 gK (argsTr gl 0 [a0]) h = F210 c a0 h := Eq.trans (congrFun (congrFun (seq_t (by kernel_rfl) (TS210_5 c) rfl) _) _) (by kernel_rfl)
noncomputable def N210 : FnF := n1 F210
theorem N210_ok : FnOk P0 gl 210 N210 := n1_ok namesOk mixedOrders lowOk Tryz.func210 (by kernel_rfl) (by kernel_rfl) (by kernel_rfl) TF210
noncomputable def c211 : Code := codeOf Tryz.f211
noncomputable def k211 : Kt := finK P0 Tryz.f211.results.toList
def d211 : List Nat := [3]
noncomputable def F211 (c : CF) (a0 a1 : AV) (h : Heap) : Res := opt2 (box a0 h) fun t2 h1 => opt (loadX (some 4) t2 h1) fun t11 => opt2 (c 280 [t11,a1] h1) fun t13 h2 => opt (extractX t13 0) fun t14 => opt (extractX t13 1) fun t15 => opt (extractX t13 2) fun t16 => opt (fastBin .neq t15 (iL 0)) fun t18 => test t18 (none) (some ((.tup [t14,(iL 0),(iL 0)]),h2))
theorem TF211 (c : CF) (a0 a1 : AV) (h : Heap) : (rk d211 P0 c 22 c211).1 k211 [] k211 gK (argsTr gl 0 [a0,a1]) h = F211 c a0 a1 h := by kernel_rfl
noncomputable def N211 : FnF := n2 F211
theorem N211_ok : FnOk P0 gl 211 N211 := n2_ok namesOk mixedOrders lowOk Tryz.func211 (by kernel_rfl) (by kernel_rfl) (by kernel_rfl) TF211
noncomputable def c212 : Code := codeOf Tryz.f212
noncomputable def k212 : Kt := finK P0 Tryz.f212.results.toList
def d212 : List Nat := [3,4,11,12,13,14,15,16,17,18,19,20]
noncomputable def S212_0 (c : CF) (t0 t4 : AV) (h : Heap) : Res := opt2 (c 281 [t0] h) fun t22 h1 => opt (extractX t22 0) fun t23 => opt (extractX t22 1) fun t24 => opt (extractX t22 2) fun t25 => opt (fastBin .mul t23 t4) fun t28 => opt (notX t25) fun t31 => test t31 (some ((.tup [cL,fL]),h1)) (opt (fastBin .eql t24 eL) fun t34 => test t34 (opt2 (c 282 [t28,(iL 0)] h1) fun t36 h2 => opt (extractX t36 0) fun t37 => opt (extractX t36 1) fun t38 => some ((.tup [t37,t38]),h2)) (none))
theorem TS212_0 (c : CF) : (rk d212 P0 c 78 c212.s3).1 k212 [] k212 gK = L2 (S212_0 c) 0 4 := by funext s h; kernel_rfl
noncomputable def S212_1 (c : CF) (t0 t4 : AV) (h : Heap) : Res := opt (fastBin .neq t0 eL) fun t12 => test t12 (opt (fastIndex t0 (iL 0)) fun t15 => opt (fastBin .eql t15 (uL 45)) fun t16 => test t16 (none) (S212_0 c t0 t4 h)) (S212_0 c t0 t4 h)
theorem TS212_1 (c : CF) : (rk d212 P0 c 78 c212.s2).1 k212 [] k212 gK = L2 (S212_1 c) 0 4 := Eq.trans (seq_t (by kernel_rfl) (TS212_0 c) rfl) (by funext s h; kernel_rfl)
noncomputable def S212_2 (c : CF) (t0 : AV) (h : Heap) : Res := S212_1 c t0 (iL 1) h
theorem TS212_2 (c : CF) : (rk d212 P0 c 78 c212.snd).1 k212 [] k212 gK = L1 (S212_2 c) 0 := Eq.trans (seq_t (by kernel_rfl) (TS212_1 c) rfl) (by funext s h; kernel_rfl)
noncomputable def F212 (c : CF) (a0 : AV) (h : Heap) : Res := S212_2 c a0 h
theorem TF212 (c : CF) (a0 : AV) (h : Heap) : (rk d212 P0 c 78 c212).1 k212 [] k212 gK (argsTr gl 0 [a0]) h = F212 c a0 h := Eq.trans (congrFun (congrFun (seq_t (by kernel_rfl) (TS212_2 c) rfl) _) _) (by kernel_rfl)
noncomputable def N212 : FnF := n1 F212
theorem N212_ok : FnOk P0 gl 212 N212 := n1_ok namesOk mixedOrders lowOk Tryz.func212 (by kernel_rfl) (by kernel_rfl) (by kernel_rfl) TF212
noncomputable def c213 : Code := codeOf Tryz.f213
noncomputable def k213 : Kt := finK P0 Tryz.f213.results.toList
def d213 : List Nat := []
noncomputable def F213 (c : CF) (a0 a1 : AV) (h : Heap) : Res := opt2 (c 43 [a0] h) fun t10 h1 => opt (extractX t10 0) fun t11 => opt (extractX t10 1) fun t12 => opt (extractX t10 2) fun t13 => test t13 (opt2 (c 79 [t11] h1) fun t17 h2 => test t17 (test a1 (opt2 (c 138 [t12] h2) fun t23 h3 => test t23 (some (tL,h3)) (opt (notX a1) fun t27 => test t27 (opt2 (c 79 [t12] h3) fun t30 h4 => some (t30,h4)) (some (fL,h3)))) (opt (notX a1) fun t27_1 => test t27_1 (opt2 (c 79 [t12] h2) fun t30_1 h5 => some (t30_1,h5)) (some (fL,h2)))) (some (fL,h2))) (some (fL,h1))
theorem TF213 (c : CF) (a0 a1 : AV) (h : Heap) : (rk d213 P0 c 34 c213).1 k213 [] k213 gK (argsTr gl 0 [a0,a1]) h = F213 c a0 a1 h := by kernel_rfl
noncomputable def N213 : FnF := n2 F213
theorem N213_ok : FnOk P0 gl 213 N213 := n2_ok namesOk mixedOrders lowOk Tryz.func213 (by kernel_rfl) (by kernel_rfl) (by kernel_rfl) TF213
noncomputable def c214 : Code := codeOf Tryz.f214
noncomputable def k214 : Kt := finK P0 Tryz.f214.results.toList
def d214 : List Nat := [6,7,8,9,10,11,14,15,19,20,21,22,23,24,25,26,28,30,31,32,33,34,35,36,37,38,40,41,42,43,44,45,46,53,59,4]
noncomputable def S214_0 (c : CF) (t0 t5 t6 t7 t8 t9 t213 : AV) (h : Heap) : Res := test t213 (opt (fastBin .sub t8 (iL 1)) fun t226 => opt (fastBin .gtr t226 (iL 6)) fun t227 => test t227 (none) (opt (fieldAddrX 0 t5) fun t232 => optH (storeX 1 t232 (iL 12) h) fun h1 => opt (fieldAddrX 2 t5) fun t234 => optH (storeX 1 t234 t7 h1) fun h2 => opt2 (c 283 [t0,t9] h2) fun t237 h3 => opt (fieldAddrX 6 t5) fun t238 => optH (storeX 1 t238 t237 h3) fun h4 => opt (loadX (some 9) t5 h4) fun t239 => optH (storeX 9 t6 t239 h4) fun h5 => opt (loadX (some 9) t6 h5) fun res => some (res,h5))) (none)
theorem TS214_0 (c : CF) : (rk d214 P0 c 240 c214.s4.fst.bd.snd.els.snd.els.snd.els.snd.els.snd.els.snd.els.snd.els.snd.els.snd).1 ((rk d214 P0 c 240 c214.s5).1 k214 [] k214 gK) [(0,((rk d214 P0 c 240 c214.s5).1 k214 [] k214 gK))] k214 gK = L7 (S214_0 c) 0 5 6 7 8 9 213 := by funext s h; kernel_rfl
noncomputable def S214_1 (c : CF) (t0 t5 t6 t7 t8 t9 : AV) (h : Heap) : Res := opt2 (c 79 [t7] h) fun t215 h1 => test t215 (opt2 (c 210 [t7] h1) fun t218 h2 => opt (notX t218) fun t219 => test t219 (S214_0 c t0 t5 t6 t7 t8 t9 tL h2) (opt2 (c 213 [t7,fL] h2) fun t223 h3 => S214_0 c t0 t5 t6 t7 t8 t9 t223 h3)) (opt2 (c 213 [t7,fL] h1) fun t223_1 h4 => S214_0 c t0 t5 t6 t7 t8 t9 t223_1 h4)
theorem TS214_1 (c : CF) : (rk d214 P0 c 240 c214.s4.fst.bd.snd.els.snd.els.snd.els.snd.els.snd.els.snd.els.snd.els.snd.els).1 ((rk d214 P0 c 240 c214.s5).1 k214 [] k214 gK) [(0,((rk d214 P0 c 240 c214.s5).1 k214 [] k214 gK))] k214 gK = L6 (S214_1 c) 0 5 6 7 8 9 := Eq.trans (seq_t (by kernel_rfl) (TS214_0 c) rfl) (by funext s h; kernel_rfl)
noncomputable def S214_2 (c : CF) (t0 t5 t6 t7 t8 t9 t192 : AV) (h : Heap) : Res := test t192 (opt (fastBin .sub t8 (iL 1)) fun t200 => opt (fastBin .gtr t200 (iL 4)) fun t201 => test t201 (none) (opt (fieldAddrX 0 t5) fun t206 => optH (storeX 1 t206 (iL 8) h) fun h1 => opt (fieldAddrX 2 t5) fun t208 => optH (storeX 1 t208 t7 h1) fun h2 => opt2 (c 283 [t0,t9] h2) fun t211 h3 => opt (fieldAddrX 6 t5) fun t212 => optH (storeX 1 t212 t211 h3) fun h4 => opt (loadX (some 9) t5 h4) fun t239 => optH (storeX 9 t6 t239 h4) fun h5 => opt (loadX (some 9) t6 h5) fun res => some (res,h5))) (S214_1 c t0 t5 t6 t7 t8 t9 h)
theorem TS214_2 (c : CF) : (rk d214 P0 c 240 c214.s4.fst.bd.snd.els.snd.els.snd.els.snd.els.snd.els.snd.els.snd.els.snd).1 ((rk d214 P0 c 240 c214.s5).1 k214 [] k214 gK) [(0,((rk d214 P0 c 240 c214.s5).1 k214 [] k214 gK))] k214 gK = L7 (S214_2 c) 0 5 6 7 8 9 192 := Eq.trans (cond_t (by kernel_rfl) rfl (TS214_1 c)) (by funext s h; kernel_rfl)
noncomputable def S214_3 (c : CF) (t0 t5 t6 t7 t8 t9 : AV) (h : Heap) : Res := opt2 (c 138 [t7] h) fun t194 h1 => test t194 (S214_2 c t0 t5 t6 t7 t8 t9 tL h1) (opt2 (c 213 [t7,tL] h1) fun t197 h2 => S214_2 c t0 t5 t6 t7 t8 t9 t197 h2)
theorem TS214_3 (c : CF) : (rk d214 P0 c 240 c214.s4.fst.bd.snd.els.snd.els.snd.els.snd.els.snd.els.snd.els.snd.els).1 ((rk d214 P0 c 240 c214.s5).1 k214 [] k214 gK) [(0,((rk d214 P0 c 240 c214.s5).1 k214 [] k214 gK))] k214 gK = L6 (S214_3 c) 0 5 6 7 8 9 := Eq.trans (seq_t (by kernel_rfl) (TS214_2 c) rfl) (by funext s h; kernel_rfl)
noncomputable def S214_4 (c : CF) (t0 t5 t6 t7 t8 t9 t181 : AV) (h : Heap) : Res := test t181 (opt (fieldAddrX 0 t5) fun t185 => optH (storeX 1 t185 (iL 6) h) fun h1 => opt (fieldAddrX 2 t5) fun t187 => optH (storeX 1 t187 t7 h1) fun h2 => opt2 (c 283 [t0,t9] h2) fun t190 h3 => opt (fieldAddrX 6 t5) fun t191 => optH (storeX 1 t191 t190 h3) fun h4 => opt (loadX (some 9) t5 h4) fun t239 => optH (storeX 9 t6 t239 h4) fun h5 => opt (loadX (some 9) t6 h5) fun res => some (res,h5)) (S214_3 c t0 t5 t6 t7 t8 t9 h)
theorem TS214_4 (c : CF) : (rk d214 P0 c 240 c214.s4.fst.bd.snd.els.snd.els.snd.els.snd.els.snd.els.snd.els.snd).1 ((rk d214 P0 c 240 c214.s5).1 k214 [] k214 gK) [(0,((rk d214 P0 c 240 c214.s5).1 k214 [] k214 gK))] k214 gK = L7 (S214_4 c) 0 5 6 7 8 9 181 := Eq.trans (cond_t (by kernel_rfl) rfl (TS214_3 c)) (by funext s h; kernel_rfl)
noncomputable def S214_5 (c : CF) (t0 t5 t6 t7 t8 t9 : AV) (h : Heap) : Res := opt2 (c 285 [t7] h) fun t183 h1 => opt (fastBin .geq t183 (iL 0)) fun t184 => S214_4 c t0 t5 t6 t7 t8 t9 t184 h1
theorem TS214_5 (c : CF) : (rk d214 P0 c 240 c214.s4.fst.bd.snd.els.snd.els.snd.els.snd.els.snd.els.snd.els).1 ((rk d214 P0 c 240 c214.s5).1 k214 [] k214 gK) [(0,((rk d214 P0 c 240 c214.s5).1 k214 [] k214 gK))] k214 gK = L6 (S214_5 c) 0 5 6 7 8 9 := Eq.trans (seq_t (by kernel_rfl) (TS214_4 c) rfl) (by funext s h; kernel_rfl)
noncomputable def S214_6 (c : CF) (t0 t5 t6 t7 t8 t9 t159 : AV) (h : Heap) : Res := test t159 (none) (S214_5 c t0 t5 t6 t7 t8 t9 h)
theorem TS214_6 (c : CF) : (rk d214 P0 c 240 c214.s4.fst.bd.snd.els.snd.els.snd.els.snd.els.snd.els.snd).1 ((rk d214 P0 c 240 c214.s5).1 k214 [] k214 gK) [(0,((rk d214 P0 c 240 c214.s5).1 k214 [] k214 gK))] k214 gK = L7 (S214_6 c) 0 5 6 7 8 9 159 := Eq.trans (cond_t (by kernel_rfl) rfl (TS214_5 c)) (by funext s h; kernel_rfl)
noncomputable def S214_7 (c : CF) (t0 t5 t6 t7 t8 t9 : AV) (h : Heap) : Res := opt (fastBin .eql t7 (sL [99,97,108,108])) fun t161 => S214_6 c t0 t5 t6 t7 t8 t9 t161 h
theorem TS214_7 (c : CF) : (rk d214 P0 c 240 c214.s4.fst.bd.snd.els.snd.els.snd.els.snd.els.snd.els).1 ((rk d214 P0 c 240 c214.s5).1 k214 [] k214 gK) [(0,((rk d214 P0 c 240 c214.s5).1 k214 [] k214 gK))] k214 gK = L6 (S214_7 c) 0 5 6 7 8 9 := Eq.trans (seq_t (by kernel_rfl) (TS214_6 c) rfl) (by funext s h; kernel_rfl)
noncomputable def S214_8 (c : CF) (t0 t5 t6 t7 t8 t9 t109 : AV) (h : Heap) : Res := test t109 (none) (S214_7 c t0 t5 t6 t7 t8 t9 h)
theorem TS214_8 (c : CF) : (rk d214 P0 c 240 c214.s4.fst.bd.snd.els.snd.els.snd.els.snd.els.snd).1 ((rk d214 P0 c 240 c214.s5).1 k214 [] k214 gK) [(0,((rk d214 P0 c 240 c214.s5).1 k214 [] k214 gK))] k214 gK = L7 (S214_8 c) 0 5 6 7 8 9 109 := Eq.trans (cond_t (by kernel_rfl) rfl (TS214_7 c)) (by funext s h; kernel_rfl)
noncomputable def S214_9 (c : CF) (t0 t5 t6 t7 t8 t9 : AV) (h : Heap) : Res := opt (fastBin .eql t7 (sL [102,110])) fun t111 => S214_8 c t0 t5 t6 t7 t8 t9 t111 h
theorem TS214_9 (c : CF) : (rk d214 P0 c 240 c214.s4.fst.bd.snd.els.snd.els.snd.els.snd.els).1 ((rk d214 P0 c 240 c214.s5).1 k214 [] k214 gK) [(0,((rk d214 P0 c 240 c214.s5).1 k214 [] k214 gK))] k214 gK = L6 (S214_9 c) 0 5 6 7 8 9 := Eq.trans (seq_t (by kernel_rfl) (TS214_8 c) rfl) (by funext s h; kernel_rfl)
noncomputable def S214_10 (c : CF) (t0 t5 t6 t7 t8 t9 t102 : AV) (h : Heap) : Res := test t102 (none) (S214_9 c t0 t5 t6 t7 t8 t9 h)
theorem TS214_10 (c : CF) : (rk d214 P0 c 240 c214.s4.fst.bd.snd.els.snd.els.snd.els.snd).1 ((rk d214 P0 c 240 c214.s5).1 k214 [] k214 gK) [(0,((rk d214 P0 c 240 c214.s5).1 k214 [] k214 gK))] k214 gK = L7 (S214_10 c) 0 5 6 7 8 9 102 := Eq.trans (cond_t (by kernel_rfl) rfl (TS214_9 c)) (by funext s h; kernel_rfl)
noncomputable def S214_11 (c : CF) (t0 t5 t6 t7 t8 t9 : AV) (h : Heap) : Res := opt (fastBin .eql t7 (sL [109,97,116,99,104])) fun t104 => S214_10 c t0 t5 t6 t7 t8 t9 t104 h
theorem TS214_11 (c : CF) : (rk d214 P0 c 240 c214.s4.fst.bd.snd.els.snd.els.snd.els).1 ((rk d214 P0 c 240 c214.s5).1 k214 [] k214 gK) [(0,((rk d214 P0 c 240 c214.s5).1 k214 [] k214 gK))] k214 gK = L6 (S214_11 c) 0 5 6 7 8 9 := Eq.trans (seq_t (by kernel_rfl) (TS214_10 c) rfl) (by funext s h; kernel_rfl)
noncomputable def S214_12 (c : CF) (t0 t5 t6 t7 t8 t9 t72 : AV) (h : Heap) : Res := test t72 (none) (S214_11 c t0 t5 t6 t7 t8 t9 h)
theorem TS214_12 (c : CF) : (rk d214 P0 c 240 c214.s4.fst.bd.snd.els.snd.els.snd).1 ((rk d214 P0 c 240 c214.s5).1 k214 [] k214 gK) [(0,((rk d214 P0 c 240 c214.s5).1 k214 [] k214 gK))] k214 gK = L7 (S214_12 c) 0 5 6 7 8 9 72 := Eq.trans (cond_t (by kernel_rfl) rfl (TS214_11 c)) (by funext s h; kernel_rfl)
noncomputable def S214_13 (c : CF) (t0 t5 t6 t7 t8 t9 : AV) (h : Heap) : Res := opt (fastBin .eql t7 (sL [97,114,114,97,121])) fun t74 => S214_12 c t0 t5 t6 t7 t8 t9 t74 h
theorem TS214_13 (c : CF) : (rk d214 P0 c 240 c214.s4.fst.bd.snd.els.snd.els).1 ((rk d214 P0 c 240 c214.s5).1 k214 [] k214 gK) [(0,((rk d214 P0 c 240 c214.s5).1 k214 [] k214 gK))] k214 gK = L6 (S214_13 c) 0 5 6 7 8 9 := Eq.trans (seq_t (by kernel_rfl) (TS214_12 c) rfl) (by funext s h; kernel_rfl)
noncomputable def S214_14 (c : CF) (t0 t5 t6 t7 t8 t9 t57 : AV) (h : Heap) : Res := test t57 (opt (fastBin .neq t8 (iL 4)) fun t61 => test t61 (none) (opt (fieldAddrX 0 t5) fun t67 => optH (storeX 1 t67 (iL 5) h) fun h1 => opt2 (c 283 [t0,t9] h1) fun t70 h2 => opt (fieldAddrX 6 t5) fun t71 => optH (storeX 1 t71 t70 h2) fun h3 => opt (loadX (some 9) t5 h3) fun t239 => optH (storeX 9 t6 t239 h3) fun h4 => opt (loadX (some 9) t6 h4) fun res => some (res,h4))) (S214_13 c t0 t5 t6 t7 t8 t9 h)
theorem TS214_14 (c : CF) : (rk d214 P0 c 240 c214.s4.fst.bd.snd.els.snd).1 ((rk d214 P0 c 240 c214.s5).1 k214 [] k214 gK) [(0,((rk d214 P0 c 240 c214.s5).1 k214 [] k214 gK))] k214 gK = L7 (S214_14 c) 0 5 6 7 8 9 57 := Eq.trans (cond_t (by kernel_rfl) rfl (TS214_13 c)) (by funext s h; kernel_rfl)
noncomputable def S214_15 (c : CF) (t0 t5 t6 t7 t8 t9 : AV) (h : Heap) : Res := opt (fastBin .eql t7 (sL [105,102])) fun t59 => S214_14 c t0 t5 t6 t7 t8 t9 t59 h
theorem TS214_15 (c : CF) : (rk d214 P0 c 240 c214.s4.fst.bd.snd.els).1 ((rk d214 P0 c 240 c214.s5).1 k214 [] k214 gK) [(0,((rk d214 P0 c 240 c214.s5).1 k214 [] k214 gK))] k214 gK = L6 (S214_15 c) 0 5 6 7 8 9 := Eq.trans (seq_t (by kernel_rfl) (TS214_14 c) rfl) (by funext s h; kernel_rfl)
noncomputable def S214_16 (c : CF) (t0 t5 t6 t7 t8 t9 t25 : AV) (h : Heap) : Res := test t25 (none) (S214_15 c t0 t5 t6 t7 t8 t9 h)
theorem TS214_16 (c : CF) : (rk d214 P0 c 240 c214.s4.fst.bd.snd).1 ((rk d214 P0 c 240 c214.s5).1 k214 [] k214 gK) [(0,((rk d214 P0 c 240 c214.s5).1 k214 [] k214 gK))] k214 gK = L7 (S214_16 c) 0 5 6 7 8 9 25 := Eq.trans (cond_t (by kernel_rfl) rfl (TS214_15 c)) (by funext s h; kernel_rfl)
noncomputable def S214_17 (c : CF) (t0 t5 t6 t7 t8 t9 : AV) (h : Heap) : Res := opt (fastBin .eql t7 (sL [108,101,116])) fun t27 => S214_16 c t0 t5 t6 t7 t8 t9 t27 h
theorem TS214_17 (c : CF) : (rk d214 P0 c 240 c214.s4).1 k214 [] k214 gK = L6 (S214_17 c) 0 5 6 7 8 9 := Eq.trans (seq_t (by kernel_rfl) rfl (block_t (id := 0) (by kernel_rfl) (seq_t (by kernel_rfl) (TS214_16 c) rfl))) (by funext s h; kernel_rfl)
noncomputable def S214_18 (c : CF) (t0 t4 t5 t6 t7 t8 : AV) (h : Heap) : Res := opt (fieldAddrX 3 t4) fun t18 => opt (loadX none t18 h) fun t19 => opt (cutZ 4 t19 (some (iL 1)) none none h) fun t20 => S214_17 c t0 t5 t6 t7 t8 t20 h
theorem TS214_18 (c : CF) : (rk d214 P0 c 240 c214.s3).1 k214 [] k214 gK = L6 (S214_18 c) 0 4 5 6 7 8 := Eq.trans (seq_t (by kernel_rfl) (TS214_17 c) rfl) (by funext s h; kernel_rfl)
noncomputable def S214_19 (c : CF) (t0 t4 t5 t6 t7 : AV) (h : Heap) : Res := opt (fieldAddrX 3 t4) fun t15 => opt (loadX none t15 h) fun t16 => opt (lenS t16) fun t17 => S214_18 c t0 t4 t5 t6 t7 t17 h
theorem TS214_19 (c : CF) : (rk d214 P0 c 240 c214.s2).1 k214 [] k214 gK = L5 (S214_19 c) 0 4 5 6 7 := Eq.trans (seq_t (by kernel_rfl) (TS214_18 c) rfl) (by funext s h; kernel_rfl)
noncomputable def S214_20 (c : CF) (t0 t4 t5 t6 : AV) (h : Heap) : Res := opt (fieldAddrX 3 t4) fun t10 => opt (loadX none t10 h) fun t11 => opt (indexAddrS 4 t11 (iL 0) h) fun t12 => opt (fieldAddrX 2 t12) fun t13 => opt (loadX none t13 h) fun t14 => S214_19 c t0 t4 t5 t6 t14 h
theorem TS214_20 (c : CF) : (rk d214 P0 c 240 c214.snd).1 k214 [] k214 gK = L4 (S214_20 c) 0 4 5 6 := Eq.trans (seq_t (by kernel_rfl) (TS214_19 c) rfl) (by funext s h; kernel_rfl)
noncomputable def F214 (c : CF) (a0 a1 a2 : AV) (h : Heap) : Res := opt2 (box a1 h) fun t4 h1 => opt2 (box a2 h1) fun t5 h2 => opt2 (box (.agg [(iL 0),(iL 0),eL,cL,eL,eL,nL,nL,nL]) h2) fun t6 h3 => S214_20 c a0 t4 t5 t6 h3
theorem TF214 (c : CF) (a0 a1 a2 : AV) (h : Heap) : (rk d214 P0 c 240 c214).1 k214 [] k214 gK (argsTr gl 0 [a0,a1,a2]) h = F214 c a0 a1 a2 h := Eq.trans (congrFun (congrFun (seq_t (by kernel_rfl) (TS214_20 c) rfl) _) _) (by kernel_rfl)
noncomputable def N214 : FnF := n3 F214
theorem N214_ok : FnOk P0 gl 214 N214 := n3_ok namesOk mixedOrders lowOk Tryz.func214 (by kernel_rfl) (by kernel_rfl) (by kernel_rfl) TF214
noncomputable def c230 : Code := codeOf Tryz.f230
noncomputable def k230 : Kt := finK P0 Tryz.f230.results.toList
def d230 : List Nat := [4]
noncomputable def S230_0 (c : CF) (t5 t6 : AV) (h : Heap) : Res := opt (convX P0 99 2 t5 h) fun t29 => opt (convX P0 99 2 t6 h) fun t31 => opt (convX P0 2 99 t29 h) fun t35 => opt (binX P0 .none .eql 99 t35 t5) fun t37 => test t37 (opt (convX P0 2 99 t31 h) fun t40 => opt (binX P0 .none .eql 99 t40 t6) fun t42 => some ((.tup [t29,t31,t42]),h)) (some ((.tup [t29,t31,fL]),h))
theorem TS230_0 (c : CF) : (rk d230 P0 c 44 c230.s4).1 k230 [] k230 gK = L2 (S230_0 c) 5 6 := by funext s h; kernel_rfl
noncomputable def S230_1 (c : CF) (t5 t6 : AV) (h : Heap) : Res := opt (binX P0 .none .geq 99 t5 (.lit (.float .f64 13920626448202203136))) fun t14 => test t14 (opt (binX P0 .none .leq 99 t5 (.lit (.float .f64 4697254411347427328))) fun t17 => test t17 (opt (binX P0 .none .geq 99 t6 (.lit (.float .f64 13920626448202203136))) fun t21 => test t21 (opt (binX P0 .none .leq 99 t6 (.lit (.float .f64 4697254411347427328))) fun t25 => opt (notX t25) fun t27 => test t27 (none) (S230_0 c t5 t6 h)) (opt (notX fL) fun t27_1 => test t27_1 (none) (S230_0 c t5 t6 h))) (opt (notX fL) fun t27_2 => test t27_2 (none) (S230_0 c t5 t6 h))) (opt (notX fL) fun t27_3 => test t27_3 (none) (S230_0 c t5 t6 h))
theorem TS230_1 (c : CF) : (rk d230 P0 c 44 c230.s3).1 k230 [] k230 gK = L2 (S230_1 c) 5 6 := Eq.trans (seq_t (by kernel_rfl) (TS230_0 c) rfl) (by funext s h; kernel_rfl)
noncomputable def S230_2 (c : CF) (t0 t5 : AV) (h : Heap) : Res := opt (litBi P0 .imag [23] 99 [false] [t0]) fun t12 => S230_1 c t5 t12 h
theorem TS230_2 (c : CF) : (rk d230 P0 c 44 c230.s2).1 k230 [] k230 gK = L2 (S230_2 c) 0 5 := Eq.trans (seq_t (by kernel_rfl) (TS230_1 c) rfl) (by funext s h; kernel_rfl)
noncomputable def S230_3 (c : CF) (t0 : AV) (h : Heap) : Res := opt (litBi P0 .real [23] 99 [false] [t0]) fun t10 => S230_2 c t0 t10 h
theorem TS230_3 (c : CF) : (rk d230 P0 c 44 c230.snd).1 k230 [] k230 gK = L1 (S230_3 c) 0 := Eq.trans (seq_t (by kernel_rfl) (TS230_2 c) rfl) (by funext s h; kernel_rfl)
noncomputable def F230 (c : CF) (a0 : AV) (h : Heap) : Res := S230_3 c a0 h
theorem TF230 (c : CF) (a0 : AV) (h : Heap) : (rk d230 P0 c 44 c230).1 k230 [] k230 gK (argsTr gl 0 [a0]) h = F230 c a0 h := Eq.trans (congrFun (congrFun (seq_t (by kernel_rfl) (TS230_3 c) rfl) _) _) (by kernel_rfl)
noncomputable def N230 : FnF := n1 F230
theorem N230_ok : FnOk P0 gl 230 N230 := n1_ok namesOk mixedOrders lowOk Tryz.func230 (by kernel_rfl) (by kernel_rfl) (by kernel_rfl) TF230
noncomputable def c239 : Code := codeOf Tryz.f239
noncomputable def k239 : Kt := finK P0 Tryz.f239.results.toList
def d239 : List Nat := [3,4,6,5,2]
noncomputable def S239_1b (c : CF) (r0 : A2) (t2 t8 : AV) (h : Heap) : Res := opt (fastBin .lss t8 t2) fun t14 => test t14 (none) (some ((.lit (.tuple #[])),h))
theorem TS239_1b (c : CF) (r0 : A2) : (rk d239 P0 c 53 c239.snd.bd.bd).1 (L2 r0 2 8) [(0,k239)] k239 gK = L2 (S239_1b c r0) 2 8 := by funext s h; kernel_rfl
noncomputable def S239_0l (c : CF) : Nat → A2
  | 0 => fun _ _ _ => none
  | k + 1 => S239_1b c (S239_0l c k)
theorem TS239_0l (c : CF) : (rk d239 P0 c 53 c239.snd.bd).1 k239 [(0,k239)] k239 gK = L2 (S239_0l c rounds) 2 8 := loop_t (by kernel_rfl) (loop_ind (A := fun m => L2 (S239_0l c m) 2 8) rfl (fun m => TS239_1b c (S239_0l c m)) rounds)
noncomputable def S239_2 (c : CF) (t2 t8 : AV) (h : Heap) : Res := S239_0l c rounds t2 t8 h
theorem TS239_2 (c : CF) : (rk d239 P0 c 53 c239.snd).1 k239 [] k239 gK = L2 (S239_2 c) 2 8 := Eq.trans (block_t (id := 0) (by kernel_rfl) (TS239_0l c)) (by funext s h; kernel_rfl)
noncomputable def F239 (c : CF) (a0 a1 a2 a3 : AV) (h : Heap) : Res := opt (fastBin .add a1 (iL 1)) fun t11 => S239_2 c a2 t11 h
theorem TF239 (c : CF) (a0 a1 a2 a3 : AV) (h : Heap) : (rk d239 P0 c 53 c239).1 k239 [] k239 gK (argsTr gl 0 [a0,a1,a2,a3]) h = F239 c a0 a1 a2 a3 h := Eq.trans (congrFun (congrFun (seq_t (by kernel_rfl) (TS239_2 c) rfl) _) _) (by kernel_rfl)
noncomputable def N239 : FnF := n4 F239
theorem N239_ok : FnOk P0 gl 239 N239 := n4_ok namesOk mixedOrders lowOk Tryz.func239 (by kernel_rfl) (by kernel_rfl) (by kernel_rfl) TF239
noncomputable def c247 : Code := codeOf Tryz.f247
noncomputable def k247 : Kt := finK P0 Tryz.f247.results.toList
def d247 : List Nat := [6]
noncomputable def S247_0 (c : CF) (t0 : AV) (h : Heap) : Res := opt (fastBin .neq t0 eL) fun t34 => test t34 (opt (lenStr t0) fun t37 => opt (fastBin .leq t37 (iL 24)) fun t38 => some (t38,h)) (some (fL,h))
theorem TS247_0 (c : CF) : (rk d247 P0 c 40 c247.s2).1 k247 [] k247 gK = L1 (S247_0 c) 0 := by funext s h; kernel_rfl
noncomputable def S247_2b (c : CF) (r1 : A3) (t0 t6 t7 : AV) (h : Heap) : Res := opt (fastBin .lss t7 t6) fun t8 => test t8 (opt (fastIndex t0 t7) fun t12 => opt2 (c 303 [t12] h) fun t14 h1 => opt (notX t14) fun t15 => test t15 (opt (fastBin .neq t12 (uL 95)) fun t18 => test t18 (opt (fastBin .eql t7 (iL 0)) fun t22 => test t22 (none) (opt (fastBin .lss t12 (uL 48)) fun t25 => test t25 (none) (opt (fastBin .gtr t12 (uL 57)) fun t29 => test t29 (none) (opt (fastBin .add t7 (iL 1)) fun t32 => r1 t0 t6 t32 h1)))) (opt (fastBin .add t7 (iL 1)) fun t32_1 => r1 t0 t6 t32_1 h1)) (opt (fastBin .add t7 (iL 1)) fun t32_2 => r1 t0 t6 t32_2 h1)) (S247_0 c t0 h)
theorem TS247_2b (c : CF) (r1 : A3) : (rk d247 P0 c 40 c247.snd.fst.snd.bd.bd).1 (L3 r1 0 6 7) [(0,(L1 (S247_0 c) 0))] k247 gK = L3 (S247_2b c r1) 0 6 7 := by funext s h; kernel_rfl
noncomputable def S247_1l (c : CF) : Nat → A3
  | 0 => fun _ _ _ _ => none
  | k + 1 => S247_2b c (S247_1l c k)
theorem TS247_1l (c : CF) : (rk d247 P0 c 40 c247.snd.fst.snd.bd).1 (L1 (S247_0 c) 0) [(0,(L1 (S247_0 c) 0))] k247 gK = L3 (S247_1l c rounds) 0 6 7 := loop_t (by kernel_rfl) (loop_ind (A := fun m => L3 (S247_1l c m) 0 6 7) rfl (fun m => TS247_2b c (S247_1l c m)) rounds)
noncomputable def S247_3 (c : CF) (t0 t6 t7 : AV) (h : Heap) : Res := S247_1l c rounds t0 t6 t7 h
theorem TS247_3 (c : CF) : (rk d247 P0 c 40 c247.snd.fst.snd).1 (L1 (S247_0 c) 0) [] k247 gK = L3 (S247_3 c) 0 6 7 := Eq.trans (block_t (id := 0) (by kernel_rfl) (TS247_1l c)) (by funext s h; kernel_rfl)
noncomputable def S247_4 (c : CF) (t0 : AV) (h : Heap) : Res := opt (lenStr t0) fun t6 => S247_3 c t0 t6 (iL 0) h
theorem TS247_4 (c : CF) : (rk d247 P0 c 40 c247.snd).1 k247 [] k247 gK = L1 (S247_4 c) 0 := Eq.trans (seq_t (by kernel_rfl) (TS247_0 c) (seq_t (by kernel_rfl) (TS247_3 c) rfl)) (by funext s h; kernel_rfl)
noncomputable def F247 (c : CF) (a0 : AV) (h : Heap) : Res := S247_4 c a0 h
theorem TF247 (c : CF) (a0 : AV) (h : Heap) : (rk d247 P0 c 40 c247).1 k247 [] k247 gK (argsTr gl 0 [a0]) h = F247 c a0 h := Eq.trans (congrFun (congrFun (seq_t (by kernel_rfl) (TS247_4 c) rfl) _) _) (by kernel_rfl)
noncomputable def N247 : FnF := n1 F247
theorem N247_ok : FnOk P0 gl 247 N247 := n1_ok namesOk mixedOrders lowOk Tryz.func247 (by kernel_rfl) (by kernel_rfl) (by kernel_rfl) TF247
noncomputable def c248 : Code := codeOf Tryz.f248
noncomputable def k248 : Kt := finK P0 Tryz.f248.results.toList
def d248 : List Nat := [2]
noncomputable def S248_0 (c : CF) (t0 : AV) (h : Heap) : Res := opt2 (c 304 [t0] h) fun t17 h1 => opt (extractX t17 0) fun t18 => opt (extractX t17 1) fun t19 => opt2 (c 183 [t18] h1) fun t21 h2 => opt (fastCut t0 (some t19) none none) fun t24 => eqH h1 h1 (opt (fastCut t0 (some t19) none none) fun t24_1 => eqK t24_1 t24 (eqH h2 h2 (some ((.tup [t21,t24,tL]),h2))))
theorem TS248_0 (c : CF) : (rk d248 P0 c 25 c248.s2).1 k248 [] k248 gK = L1 (S248_0 c) 0 := by funext s h; kernel_rfl
noncomputable def S248_1 (c : CF) (t0 : AV) (h : Heap) : Res := opt2 (c 196 [t0] h) fun t8 h1 => opt (notX t8) fun t9 => test t9 (none) (opt (fastIndex t0 (iL 0)) fun t12 => opt (fastBin .neq t12 (uL 40)) fun t13 => test t13 (none) (S248_0 c t0 h1))
theorem TS248_1 (c : CF) : (rk d248 P0 c 25 c248.snd).1 k248 [] k248 gK = L1 (S248_1 c) 0 := Eq.trans (seq_t (by kernel_rfl) (TS248_0 c) rfl) (by funext s h; kernel_rfl)
noncomputable def F248 (c : CF) (a0 : AV) (h : Heap) : Res := S248_1 c a0 h
theorem TF248 (c : CF) (a0 : AV) (h : Heap) : (rk d248 P0 c 25 c248).1 k248 [] k248 gK (argsTr gl 0 [a0]) h = F248 c a0 h := Eq.trans (congrFun (congrFun (seq_t (by kernel_rfl) (TS248_1 c) rfl) _) _) (by kernel_rfl)
noncomputable def N248 : FnF := n1 F248
theorem N248_ok : FnOk P0 gl 248 N248 := n1_ok namesOk mixedOrders lowOk Tryz.func248 (by kernel_rfl) (by kernel_rfl) (by kernel_rfl) TF248
noncomputable def c252 : Code := codeOf Tryz.f252
noncomputable def k252 : Kt := finK P0 Tryz.f252.results.toList
def d252 : List Nat := [3]
noncomputable def S252_0 (c : CF) (t0 t3 : AV) (h : Heap) : Res := opt (fieldAddrX 2 t3) fun t39 => opt (loadX none t39 h) fun t40 => opt2 (c 306 [t0,t40] h) fun t41 h1 => opt (extractX t41 0) fun t42 => opt (extractX t41 1) fun t43 => opt2 (box (.agg [(iL 0),eL,eL,nL]) h1) fun t6 h2 => optH (storeX 4 t6 t42 h2) fun h3 => opt (loadX (some 9) t3 h3) fun t46 => opt2 (c 257 [t0,t43,(iL 13),t46] h3) fun t47 h4 => opt (fieldAddrX 2 t6) fun t48 => opt (loadX none t48 h4) fun t49 => some (t49,h4)
theorem TS252_0 (c : CF) : (rk d252 P0 c 50 c252.s2).1 k252 [] k252 gK = L2 (S252_0 c) 0 3 := by funext s h; kernel_rfl
noncomputable def S252_2b (c : CF) (r1 : A3) (t0 t3 t5 : AV) (h : Heap) : Res := opt (fastBin .geq t5 (iL 0)) fun t15 => test t15 (opt (nilCheckX t0) fun t19 => opt (fieldAddrX 2 t19) fun t20 => opt (loadX none t20 h) fun t21 => eqH h h (opt (indexAddrS 2 t21 t5 h) fun t23 => eqH h h (opt (fieldAddrX 0 t23) fun t24 => opt (loadX none t24 h) fun t25 => eqH h h (opt (fieldAddrX 2 t3) fun t26 => opt (loadX none t26 h) fun t27 => eqH h h (opt (fastBin .eql t25 t27) fun t28 => test t28 (opt (nilCheckX t0) fun t30 => opt (fieldAddrX 2 t30) fun t31 => opt (loadX none t31 h) fun t32 => opt (indexAddrS 2 t32 t5 h) fun t34 => opt (fieldAddrX 1 t34) fun t35 => opt (loadX none t35 h) fun t36 => some (t36,h)) (none)))))) (S252_0 c t0 t3 h)
theorem TS252_2b (c : CF) (r1 : A3) : (rk d252 P0 c 50 c252.snd.fst.snd.bd.bd).1 (L3 r1 0 3 5) [(0,(L2 (S252_0 c) 0 3))] k252 gK = L3 (S252_2b c r1) 0 3 5 := by funext s h; kernel_rfl
noncomputable def S252_1l (c : CF) : Nat → A3
  | 0 => fun _ _ _ _ => none
  | k + 1 => S252_2b c (S252_1l c k)
theorem TS252_1l (c : CF) : (rk d252 P0 c 50 c252.snd.fst.snd.bd).1 (L2 (S252_0 c) 0 3) [(0,(L2 (S252_0 c) 0 3))] k252 gK = L3 (S252_1l c rounds) 0 3 5 := loop_t (by kernel_rfl) (loop_ind (A := fun m => L3 (S252_1l c m) 0 3 5) rfl (fun m => TS252_2b c (S252_1l c m)) rounds)
noncomputable def S252_3 (c : CF) (t0 t3 t5 : AV) (h : Heap) : Res := S252_1l c rounds t0 t3 t5 h
theorem TS252_3 (c : CF) : (rk d252 P0 c 50 c252.snd.fst.snd).1 (L2 (S252_0 c) 0 3) [] k252 gK = L3 (S252_3 c) 0 3 5 := Eq.trans (block_t (id := 0) (by kernel_rfl) (TS252_1l c)) (by funext s h; kernel_rfl)
noncomputable def S252_4 (c : CF) (t0 t3 : AV) (h : Heap) : Res := opt (nilCheckX t0) fun t9 => opt (fieldAddrX 2 t9) fun t10 => opt (loadX none t10 h) fun t11 => opt (lenS t11) fun t12 => opt (fastBin .sub t12 (iL 1)) fun t13 => S252_3 c t0 t3 t13 h
theorem TS252_4 (c : CF) : (rk d252 P0 c 50 c252.snd).1 k252 [] k252 gK = L2 (S252_4 c) 0 3 := Eq.trans (seq_t (by kernel_rfl) (TS252_0 c) (seq_t (by kernel_rfl) (TS252_3 c) rfl)) (by funext s h; kernel_rfl)
noncomputable def F252 (c : CF) (a0 a1 : AV) (h : Heap) : Res := opt2 (box a1 h) fun t3 h1 => S252_4 c a0 t3 h1
theorem TF252 (c : CF) (a0 a1 : AV) (h : Heap) : (rk d252 P0 c 50 c252).1 k252 [] k252 gK (argsTr gl 0 [a0,a1]) h = F252 c a0 a1 h := Eq.trans (congrFun (congrFun (seq_t (by kernel_rfl) (TS252_4 c) rfl) _) _) (by kernel_rfl)
noncomputable def N252 : FnF := n2 F252
theorem N252_ok : FnOk P0 gl 252 N252 := n2_ok namesOk mixedOrders lowOk Tryz.func252 (by kernel_rfl) (by kernel_rfl) (by kernel_rfl) TF252
noncomputable def c253 : Code := codeOf Tryz.f253
noncomputable def k253 : Kt := finK P0 Tryz.f253.results.toList
def d253 : List Nat := [2,5,8]
noncomputable def S253_0 (c : CF) (t0 t3 : AV) (h : Heap) : Res := opt (fieldAddrX 6 t3) fun t30 => opt (loadX none t30 h) fun t31 => opt2 (c 308 [t0,t31] h) fun t32 h1 => opt (nilCheckX t0) fun t34 => opt (fieldAddrX 3 t34) fun t35 => opt (loadX none t35 h1) fun t36 => opt (fastBin .neq t36 (iL 0)) fun t37 => test t37 (none) (opt (fieldAddrX 2 t3) fun t39 => opt (loadX none t39 h1) fun t40 => opt2 (c 309 [t40,t32] h1) fun t42 h2 => opt (extractX t42 0) fun t43 => opt (extractX t42 1) fun t44 => opt (fastBin .geq t44 (iL 0)) fun t46 => test t46 (none) (some (t43,h2)))
theorem TS253_0 (c : CF) : (rk d253 P0 c 55 c253.s2).1 k253 [] k253 gK = L2 (S253_0 c) 0 3 := by funext s h; kernel_rfl
noncomputable def S253_1 (c : CF) (t0 t3 : AV) (h : Heap) : Res := opt (fieldAddrX 2 t3) fun t9 => opt (loadX none t9 h) fun t10 => eqH h h (opt2 (c 307 [t10] h) fun t11 h1 => eqH h1 h (opt (fastBin .gtr t11 (iL 0)) fun t12 => opt (loadX (some 9) t3 h) fun t13 => eqH h h (opt2 (c 257 [t0,t12,(iL 12),t13] h) fun t14 h2 => opt (notX t14) fun t15 => test t15 (none) (opt (fieldAddrX 2 t3) fun t18 => opt (loadX none t18 h2) fun t19 => eqH h2 h2 (opt2 (c 307 [t19] h2) fun t20 h3 => eqH h3 h2 (opt (fieldAddrX 6 t3) fun t21 => opt (loadX none t21 h2) fun t22 => eqH h2 h2 (opt (lenS t22) fun t23 => opt (fastBin .eql t20 t23) fun t24 => opt (loadX (some 9) t3 h2) fun t25 => eqH h2 h2 (opt2 (c 257 [t0,t24,(iL 19),t25] h2) fun t26 h4 => opt (notX t26) fun t27 => test t27 (none) (S253_0 c t0 t3 h4)))))))))
theorem TS253_1 (c : CF) : (rk d253 P0 c 55 c253.snd).1 k253 [] k253 gK = L2 (S253_1 c) 0 3 := Eq.trans (seq_t (by kernel_rfl) (TS253_0 c) rfl) (by funext s h; kernel_rfl)
noncomputable def F253 (c : CF) (a0 a1 : AV) (h : Heap) : Res := opt2 (box a1 h) fun t3 h1 => S253_1 c a0 t3 h1
theorem TF253 (c : CF) (a0 a1 : AV) (h : Heap) : (rk d253 P0 c 55 c253).1 k253 [] k253 gK (argsTr gl 0 [a0,a1]) h = F253 c a0 a1 h := Eq.trans (congrFun (congrFun (seq_t (by kernel_rfl) (TS253_1 c) rfl) _) _) (by kernel_rfl)
noncomputable def N253 : FnF := n2 F253
theorem N253_ok : FnOk P0 gl 253 N253 := n2_ok namesOk mixedOrders lowOk Tryz.func253 (by kernel_rfl) (by kernel_rfl) (by kernel_rfl) TF253
noncomputable def c254 : Code := codeOf Tryz.f254
noncomputable def k254 : Kt := finK P0 Tryz.f254.results.toList
def d254 : List Nat := [3]
noncomputable def S254_0 (c : CF) (t0 t3 t5 t7 : AV) (h : Heap) : Res := opt (fieldAddrX 6 t3) fun t40 => opt (loadX none t40 h) fun t41 => eqH h h (opt (fieldAddrX 6 t3) fun t43 => opt (loadX none t43 h) fun t44 => eqH h h (opt2 (c 308 [t0,t44] h) fun t45 h1 => opt (loadX none t40 h1) fun t41_1 => eqK t41_1 t41 (eqH h1 h1 (opt (fieldAddrX 1 t7) fun t46 => opt (loadX none t46 h) fun t47 => eqH h h (opt (loadX none t46 h1) fun t47_1 => eqK t47_1 t47 (eqH h1 h1 (opt2 (c 310 [t0,t41,t45,t47] h1) fun t48 h2 => some (t5,h2))))))))
theorem TS254_0 (c : CF) : (rk d254 P0 c 50 c254.s3).1 k254 [] k254 gK = L4 (S254_0 c) 0 3 5 7 := by funext s h; kernel_rfl
noncomputable def S254_1 (c : CF) (t0 t3 t5 t7 t8 : AV) (h : Heap) : Res := opt (loadX (some 9) t3 h) fun t23 => opt2 (c 257 [t0,t8,(iL 13),t23] h) fun t24 h1 => opt (notX t24) fun t25 => test t25 (none) (opt (fieldAddrX 1 t7) fun t28 => opt (loadX none t28 h1) fun t29 => opt (lenS t29) fun t30 => opt (fieldAddrX 6 t3) fun t31 => opt (loadX none t31 h1) fun t32 => opt (lenS t32) fun t33 => opt (fastBin .eql t30 t33) fun t34 => opt (loadX (some 9) t3 h1) fun t35 => opt2 (c 257 [t0,t34,(iL 19),t35] h1) fun t36 h2 => opt (notX t36) fun t37 => test t37 (none) (S254_0 c t0 t3 t5 t7 h2))
theorem TS254_1 (c : CF) : (rk d254 P0 c 50 c254.s2).1 k254 [] k254 gK = L5 (S254_1 c) 0 3 5 7 8 := Eq.trans (seq_t (by kernel_rfl) (TS254_0 c) rfl) (by funext s h; kernel_rfl)
noncomputable def S254_2 (c : CF) (t0 t3 : AV) (h : Heap) : Res := opt (nilCheckX t0) fun t11 => opt (fieldAddrX 0 t11) fun t12 => opt (loadX none t12 h) fun t13 => eqH h h (opt (fieldAddrX 2 t3) fun t14 => opt (loadX none t14 h) fun t15 => eqH h h (opt2 (c 72 [t13,t15] h) fun t16 h1 => opt (extractX t16 0) fun t17 => opt (extractX t16 1) fun t18 => opt (extractX t16 2) fun t19 => opt (extractX t16 3) fun t20 => opt2 (box (.agg [eL,nL]) h) fun t7 h2 => opt2 (box (.agg [eL,nL]) h1) fun t7_1 h3 => eqK t7_1 t7 (opt2 (c 72 [t13,t15] h2) fun t16_1 h4 => eqK t16_1 t16 (eqH h4 h3 (opt (loadX none t14 h2) fun t15_1 => eqK t15_1 t15 (eqH h2 h2 (opt (loadX none t12 h2) fun t13_1 => eqK t13_1 t13 (eqH h2 h2 (optH (storeX 2 t7 t19 h3) fun h5 => S254_1 c t0 t3 t17 t7 t20 h5)))))))))
theorem TS254_2 (c : CF) : (rk d254 P0 c 50 c254.snd).1 k254 [] k254 gK = L2 (S254_2 c) 0 3 := Eq.trans (seq_t (by kernel_rfl) (TS254_1 c) rfl) (by funext s h; kernel_rfl)
noncomputable def F254 (c : CF) (a0 a1 : AV) (h : Heap) : Res := opt2 (box a1 h) fun t3 h1 => S254_2 c a0 t3 h1
theorem TF254 (c : CF) (a0 a1 : AV) (h : Heap) : (rk d254 P0 c 50 c254).1 k254 [] k254 gK (argsTr gl 0 [a0,a1]) h = F254 c a0 a1 h := Eq.trans (congrFun (congrFun (seq_t (by kernel_rfl) (TS254_2 c) rfl) _) _) (by kernel_rfl)
noncomputable def N254 : FnF := n2 F254
theorem N254_ok : FnOk P0 gl 254 N254 := n2_ok namesOk mixedOrders lowOk Tryz.func254 (by kernel_rfl) (by kernel_rfl) (by kernel_rfl) TF254
noncomputable def c255 : Code := codeOf Tryz.f255
noncomputable def k255 : Kt := finK P0 Tryz.f255.results.toList
def d255 : List Nat := [3,6]
noncomputable def S255_0 (c : CF) (t0 t3 t7 t8 : AV) (h : Heap) : Res := opt (fieldAddrX 6 t3) fun t50 => opt (loadX none t50 h) fun t51 => eqH h h (opt (fieldAddrX 6 t3) fun t53 => opt (loadX none t53 h) fun t54 => eqH h h (opt2 (c 308 [t0,t54] h) fun t55 h1 => opt (loadX none t50 h1) fun t51_1 => eqK t51_1 t51 (eqH h1 h1 (opt2 (c 310 [t0,t51,t55,t7] h1) fun t57 h2 => some (t8,h2)))))
theorem TS255_0 (c : CF) : (rk d255 P0 c 59 c255.s5).1 k255 [] k255 gK = L4 (S255_0 c) 0 3 7 8 := by funext s h; kernel_rfl
noncomputable def S255_1 (c : CF) (t0 t3 t6 t7 t8 : AV) (h : Heap) : Res := test t6 (opt (lenS t7) fun t40 => opt (fieldAddrX 6 t3) fun t41 => opt (loadX none t41 h) fun t42 => opt (lenS t42) fun t43 => opt (fastBin .eql t40 t43) fun t44 => opt (loadX (some 9) t3 h) fun t46 => opt2 (c 257 [t0,t44,(iL 19),t46] h) fun t47 h1 => opt (notX t47) fun t48 => test t48 (none) (S255_0 c t0 t3 t7 t8 h1)) (opt (loadX (some 9) t3 h) fun t46_1 => opt2 (c 257 [t0,fL,(iL 19),t46_1] h) fun t47_1 h2 => opt (notX t47_1) fun t48_1 => test t48_1 (none) (S255_0 c t0 t3 t7 t8 h2))
theorem TS255_1 (c : CF) : (rk d255 P0 c 59 c255.s4).1 k255 [] k255 gK = L5 (S255_1 c) 0 3 6 7 8 := Eq.trans (seq_t (by kernel_rfl) (TS255_0 c) rfl) (by funext s h; kernel_rfl)
noncomputable def S255_2 (c : CF) (t0 t3 t5 : AV) (h : Heap) : Res := opt (fieldAddrX 2 t5) fun t30 => opt (loadX none t30 h) fun t31 => opt2 (c 248 [t31] h) fun t32 h1 => opt (extractX t32 0) fun t33 => opt (extractX t32 1) fun t34 => opt (extractX t32 2) fun t35 => S255_1 c t0 t3 t35 t33 t34 h1
theorem TS255_2 (c : CF) : (rk d255 P0 c 59 c255.s3).1 k255 [] k255 gK = L3 (S255_2 c) 0 3 5 := Eq.trans (seq_t (by kernel_rfl) (TS255_1 c) rfl) (by funext s h; kernel_rfl)
noncomputable def S255_3 (c : CF) (t0 t3 t5 t6 : AV) (h : Heap) : Res := test t6 (opt (fieldAddrX 0 t5) fun t22 => opt (loadX none t22 h) fun t23 => opt (fastBin .eql t23 (iL 3)) fun t24 => opt (loadX (some 9) t3 h) fun t26 => opt2 (c 257 [t0,t24,(iL 13),t26] h) fun t27 h1 => opt (notX t27) fun t28 => test t28 (none) (S255_2 c t0 t3 t5 h1)) (opt (loadX (some 9) t3 h) fun t26_1 => opt2 (c 257 [t0,fL,(iL 13),t26_1] h) fun t27_1 h2 => opt (notX t27_1) fun t28_1 => test t28_1 (none) (S255_2 c t0 t3 t5 h2))
theorem TS255_3 (c : CF) : (rk d255 P0 c 59 c255.s2).1 k255 [] k255 gK = L4 (S255_3 c) 0 3 5 6 := Eq.trans (seq_t (by kernel_rfl) (TS255_2 c) rfl) (by funext s h; kernel_rfl)
noncomputable def S255_4 (c : CF) (t0 t3 : AV) (h : Heap) : Res := opt (nilCheckX t0) fun t11 => opt (fieldAddrX 0 t11) fun t12 => opt (loadX none t12 h) fun t13 => eqH h h (opt (fieldAddrX 2 t3) fun t14 => opt (loadX none t14 h) fun t15 => eqH h h (opt2 (c 311 [t13,t15] h) fun t16 h1 => opt (extractX t16 0) fun t17 => opt (extractX t16 1) fun t18 => opt2 (box (.agg [(iL 0),eL,eL,nL]) h) fun t5 h2 => opt2 (box (.agg [(iL 0),eL,eL,nL]) h1) fun t5_1 h3 => eqK t5_1 t5 (opt2 (c 311 [t13,t15] h2) fun t16_1 h4 => eqK t16_1 t16 (eqH h4 h3 (opt (loadX none t14 h2) fun t15_1 => eqK t15_1 t15 (eqH h2 h2 (opt (loadX none t12 h2) fun t13_1 => eqK t13_1 t13 (eqH h2 h2 (optH (storeX 4 t5 t17 h3) fun h5 => S255_3 c t0 t3 t5 t18 h5)))))))))
theorem TS255_4 (c : CF) : (rk d255 P0 c 59 c255.snd).1 k255 [] k255 gK = L2 (S255_4 c) 0 3 := Eq.trans (seq_t (by kernel_rfl) (TS255_3 c) rfl) (by funext s h; kernel_rfl)
noncomputable def F255 (c : CF) (a0 a1 : AV) (h : Heap) : Res := opt2 (box a1 h) fun t3 h1 => S255_4 c a0 t3 h1
theorem TF255 (c : CF) (a0 a1 : AV) (h : Heap) : (rk d255 P0 c 59 c255).1 k255 [] k255 gK (argsTr gl 0 [a0,a1]) h = F255 c a0 a1 h := Eq.trans (congrFun (congrFun (seq_t (by kernel_rfl) (TS255_4 c) rfl) _) _) (by kernel_rfl)
noncomputable def N255 : FnF := n2 F255
theorem N255_ok : FnOk P0 gl 255 N255 := n2_ok namesOk mixedOrders lowOk Tryz.func255 (by kernel_rfl) (by kernel_rfl) (by kernel_rfl) TF255
noncomputable def c257 : Code := codeOf Tryz.f257
noncomputable def k257 : Kt := finK P0 Tryz.f257.results.toList
def d257 : List Nat := [2]
noncomputable def S257_0 (c : CF) (t0 : AV) (h : Heap) : Res := opt (nilCheckX t0) fun t28 => opt (fieldAddrX 3 t28) fun t29 => opt (loadX none t29 h) fun t30 => opt (fastBin .eql t30 (iL 0)) fun t31 => some (t31,h)
theorem TS257_0 (c : CF) : (rk d257 P0 c 32 c257.s2).1 k257 [] k257 gK = L1 (S257_0 c) 0 := by funext s h; kernel_rfl
noncomputable def S257_1 (c : CF) (t0 t1 : AV) (h : Heap) : Res := opt (notX t1) fun t10 => test t10 (opt (nilCheckX t0) fun t13 => opt (fieldAddrX 3 t13) fun t14 => opt (loadX none t14 h) fun t15 => opt (fastBin .eql t15 (iL 0)) fun t16 => test t16 (none) (S257_0 c t0 h)) (S257_0 c t0 h)
theorem TS257_1 (c : CF) : (rk d257 P0 c 32 c257.snd).1 k257 [] k257 gK = L2 (S257_1 c) 0 1 := Eq.trans (seq_t (by kernel_rfl) (TS257_0 c) rfl) (by funext s h; kernel_rfl)
noncomputable def F257 (c : CF) (a0 a1 a2 a3 : AV) (h : Heap) : Res := opt2 (box a3 h) fun t7 h1 => S257_1 c a0 a1 h1
theorem TF257 (c : CF) (a0 a1 a2 a3 : AV) (h : Heap) : (rk d257 P0 c 32 c257).1 k257 [] k257 gK (argsTr gl 0 [a0,a1,a2,a3]) h = F257 c a0 a1 a2 a3 h := Eq.trans (congrFun (congrFun (seq_t (by kernel_rfl) (TS257_1 c) rfl) _) _) (by kernel_rfl)
noncomputable def N257 : FnF := n4 F257
theorem N257_ok : FnOk P0 gl 257 N257 := n4_ok namesOk mixedOrders lowOk Tryz.func257 (by kernel_rfl) (by kernel_rfl) (by kernel_rfl) TF257
noncomputable def c259 : Code := codeOf Tryz.f259
noncomputable def k259 : Kt := finK P0 Tryz.f259.results.toList
def d259 : List Nat := []
noncomputable def F259 (c : CF) (a0 a1 : AV) (h : Heap) : Res := opt2 (box a1 h) fun t3 h1 => opt (fieldAddrX 6 t3) fun t7 => opt (loadX none t7 h1) fun t8 => opt2 (c 308 [a0,t8] h1) fun t9 h2 => opt (indexAddrS 1 t9 (iL 0) h2) fun t12 => eqH h2 h2 (opt (loadX none t12 h2) fun t13 => eqH h2 h2 (opt (fastBin .eql t13 (sL [110,117,109])) fun t14 => opt (fieldAddrX 6 t3) fun t15 => opt (loadX none t15 h2) fun t16 => eqH h2 h2 (opt (indexAddrS 9 t16 (iL 0) h2) fun t17 => eqH h2 h2 (opt (loadX (some 9) t17 h2) fun t18 => eqH h2 h2 (opt2 (c 257 [a0,t14,(iL 17),t18] h2) fun t19 h3 => opt (indexAddrS 1 t9 (iL 1) h3) fun t22 => eqH h3 h3 (opt (loadX none t22 h3) fun t23 => eqH h3 h3 (opt (indexAddrS 1 t9 (iL 2) h3) fun t25 => eqH h3 h3 (opt (loadX none t25 h3) fun t26 => eqH h3 h3 (opt (fastBin .eql t23 t26) fun t27 => opt (loadX (some 9) t3 h3) fun t28 => eqH h3 h3 (opt2 (c 257 [a0,t27,(iL 17),t28] h3) fun t29 h4 => opt (indexAddrS 1 t9 (iL 1) h4) fun t31 => opt (loadX none t31 h4) fun t32 => some (t32,h4)))))))))))
theorem TF259 (c : CF) (a0 a1 : AV) (h : Heap) : (rk d259 P0 c 33 c259).1 k259 [] k259 gK (argsTr gl 0 [a0,a1]) h = F259 c a0 a1 h := by kernel_rfl
noncomputable def N259 : FnF := n2 F259
theorem N259_ok : FnOk P0 gl 259 N259 := n2_ok namesOk mixedOrders lowOk Tryz.func259 (by kernel_rfl) (by kernel_rfl) (by kernel_rfl) TF259
noncomputable def c263 : Code := codeOf Tryz.f263
noncomputable def k263 : Kt := finK P0 Tryz.f263.results.toList
def d263 : List Nat := [3,8,11,19,22,23,24,25]
noncomputable def S263_1L0_ (c : CF) (r0 : Nat → A2) (t3 t4 : AV) (h : Heap) : Res := opt (fastBin .gtr t4 (iL 0)) fun t91 => test t91 (none) (some (t3,h))
theorem TS263_1L0_ (c : CF) (r0 : Nat → A2) : (rk d263 P0 c 107 (c263.snd.bd.at_ 0)).1 k263 [] k263 (fun l s h => r0 l (s.rd 3) (s.rd 4) h) = L2 (S263_1L0_ c r0) 3 4 := by funext s h; kernel_rfl
noncomputable def S263_0g (c : CF) : Nat → Nat → A2
  | 0 => fun _ _ _ _ => none
  | k + 1 => fun l => match l with
    | 0 => S263_1L0_ c (S263_0g c k)
    | _ => fun _ _ _ => none
theorem TS263_0g (c : CF) : jumpK (fun l kg' => match (rk d263 P0 c 107 c263.snd.bd).2 l with | some f => some (f k263 [] k263 kg') | none => none) gK rounds = fun l s h => S263_0g c rounds l (s.rd 3) (s.rd 4) h := jump_ind (J := fun m => fun l s h => S263_0g c m l (s.rd 3) (s.rd 4) h) rfl (fun m l => match l with
    | 0 => by rw [show findLabel c263.snd.bd 0 = some (c263.snd.bd.at_ 0) by kernel_rfl]; exact TS263_1L0_ c (S263_0g c m)
    | l + 1 => by rw [show findLabel c263.snd.bd (l + 1) = none by kernel_rfl]; rfl) rounds
noncomputable def S263_2 (c : CF) (t3 t4 : AV) (h : Heap) : Res := opt (fastBin .gtr t4 (iL 0)) fun t91 => test t91 (none) (some (t3,h))
theorem TS263_2 (c : CF) : (rk d263 P0 c 107 c263.snd.bd.s5).1 k263 [] k263 (fun l s h => S263_0g c rounds l (s.rd 3) (s.rd 4) h) = L2 (S263_2 c) 3 4 := by funext s h; kernel_rfl
noncomputable def S263_3 (c : CF) (t3 t4 t8 : AV) (h : Heap) : Res := opt (fastBin .add t3 t8) fun t89 => S263_2 c t89 t4 h
theorem TS263_3 (c : CF) : (rk d263 P0 c 107 c263.snd.bd.s4.fst.s4).1 (L2 (S263_2 c) 3 4) [] k263 (fun l s h => S263_0g c rounds l (s.rd 3) (s.rd 4) h) = L3 (S263_3 c) 3 4 8 := by funext s h; kernel_rfl
noncomputable def S263_4 (c : CF) (t3 t4 t8 t9 : AV) (h : Heap) : Res := opt2 (c 277 [t9] h) fun t76 h1 => opt (extractX t76 0) fun t77 => opt (extractX t76 1) fun t78 => opt (extractX t76 2) fun t79 => opt (notX t79) fun t81 => test t81 (opt2 (c 316 [t9] h1) fun t84 h2 => opt (notX t84) fun t85 => test t85 (none) (S263_3 c t3 t4 t8 h2)) (S263_3 c t3 t4 t8 h1)
theorem TS263_4 (c : CF) : (rk d263 P0 c 107 c263.snd.bd.s4.fst.s3).1 (L2 (S263_2 c) 3 4) [] k263 (fun l s h => S263_0g c rounds l (s.rd 3) (s.rd 4) h) = L4 (S263_4 c) 3 4 8 9 := Eq.trans (seq_t (by kernel_rfl) (TS263_3 c) rfl) (by funext s h; kernel_rfl)
noncomputable def S263_5 (c : CF) (t0 t3 t4 t8 : AV) (h : Heap) : Res := opt (fastBin .add t3 t8) fun t72 => opt (fastCut t0 (some t3) (some t72) none) fun t73 => S263_4 c t3 t4 t8 t73 h
theorem TS263_5 (c : CF) : (rk d263 P0 c 107 c263.snd.bd.s4.fst.s2).1 (L2 (S263_2 c) 3 4) [] k263 (fun l s h => S263_0g c rounds l (s.rd 3) (s.rd 4) h) = L4 (S263_5 c) 0 3 4 8 := Eq.trans (seq_t (by kernel_rfl) (TS263_4 c) rfl) (by funext s h; kernel_rfl)
noncomputable def S263_6 (c : CF) (t0 t3 t4 t8 : AV) (h : Heap) : Res := opt (fastBin .lss t8 (iL 0)) fun t63 => test t63 (opt (lenStr t0) fun t65 => opt (fastBin .sub t65 t3) fun t67 => S263_5 c t0 t3 t4 t67 h) (S263_5 c t0 t3 t4 t8 h)
theorem TS263_6 (c : CF) : (rk d263 P0 c 107 c263.snd.bd.s4.fst.snd).1 (L2 (S263_2 c) 3 4) [] k263 (fun l s h => S263_0g c rounds l (s.rd 3) (s.rd 4) h) = L4 (S263_6 c) 0 3 4 8 := Eq.trans (seq_t (by kernel_rfl) (TS263_5 c) rfl) (by funext s h; kernel_rfl)
noncomputable def S263_7 (c : CF) (t0 t3 t4 : AV) (h : Heap) : Res := opt (fastCut t0 (some t3) none none) fun t60 => opt2 (c 315 [t60,(sL [91,93,40,41,44])] h) fun t61 h1 => S263_6 c t0 t3 t4 t61 h1
theorem TS263_7 (c : CF) : (rk d263 P0 c 107 c263.snd.bd.s4).1 k263 [] k263 (fun l s h => S263_0g c rounds l (s.rd 3) (s.rd 4) h) = L3 (S263_7 c) 0 3 4 := Eq.trans (seq_t (by kernel_rfl) (TS263_2 c) (seq_t (by kernel_rfl) (TS263_6 c) rfl)) (by funext s h; kernel_rfl)
noncomputable def S263_8 (c : CF) (t0 t3 t4 t35 : AV) (h : Heap) : Res := test t35 (opt (fastCut t0 (some t3) none none) fun t39 => opt2 (c 304 [t39] h) fun t40 h1 => opt (extractX t40 0) fun t41 => opt (extractX t40 1) fun t42 => opt (fastBin .eql t42 (iL 0)) fun t44 => test t44 (none) (opt (fastBin .add t3 t42) fun t48 => opt (fastCut t0 (some t48) none none) fun t49 => opt2 (c 263 [t49] h1) fun t50 h2 => opt (fastBin .eql t50 (iL 0)) fun t52 => test t52 (none) (opt (fastBin .add t42 t50) fun t56 => opt (fastBin .add t3 t56) fun t57 => S263_0g c rounds 0 t57 t4 h2))) (S263_7 c t0 t3 t4 h)
theorem TS263_8 (c : CF) : (rk d263 P0 c 107 c263.snd.bd.s3.fst.snd).1 (L3 (S263_7 c) 0 3 4) [] k263 (fun l s h => S263_0g c rounds l (s.rd 3) (s.rd 4) h) = L4 (S263_8 c) 0 3 4 35 := by funext s h; kernel_rfl
noncomputable def S263_9 (c : CF) (t0 t3 t4 : AV) (h : Heap) : Res := opt (lenStr t0) fun t28 => opt (fastBin .lss t3 t28) fun t29 => test t29 (opt (fastIndex t0 t3) fun t33 => opt (fastBin .eql t33 (uL 40)) fun t34 => S263_8 c t0 t3 t4 t34 h) (S263_8 c t0 t3 t4 fL h)
theorem TS263_9 (c : CF) : (rk d263 P0 c 107 c263.snd.bd.s3).1 k263 [] k263 (fun l s h => S263_0g c rounds l (s.rd 3) (s.rd 4) h) = L3 (S263_9 c) 0 3 4 := Eq.trans (seq_t (by kernel_rfl) (TS263_7 c) (seq_t (by kernel_rfl) (TS263_8 c) rfl)) (by funext s h; kernel_rfl)
noncomputable def S263_10 (c : CF) (t0 t3 : AV) (h : Heap) : Res := S263_9 c t0 t3 t3 h
theorem TS263_10 (c : CF) : (rk d263 P0 c 107 c263.snd.bd.s2).1 k263 [] k263 (fun l s h => S263_0g c rounds l (s.rd 3) (s.rd 4) h) = L2 (S263_10 c) 0 3 := Eq.trans (seq_t (by kernel_rfl) (TS263_9 c) rfl) (by funext s h; kernel_rfl)
noncomputable def S263_12b (c : CF) (r11 : A2) (t0 t3 : AV) (h : Heap) : Res := opt (lenStr t0) fun t15 => opt (fastBin .lss t3 t15) fun t16 => test t16 (opt (fastIndex t0 t3) fun t20 => opt (fastBin .eql t20 (uL 91)) fun t21 => test t21 (none) (S263_10 c t0 t3 h)) (S263_10 c t0 t3 h)
theorem TS263_12b (c : CF) (r11 : A2) : (rk d263 P0 c 107 c263.snd.bd.snd.fst.bd.bd).1 (L2 r11 0 3) [(0,(L2 (S263_10 c) 0 3))] k263 (fun l s h => S263_0g c rounds l (s.rd 3) (s.rd 4) h) = L2 (S263_12b c r11) 0 3 := by funext s h; kernel_rfl
noncomputable def S263_11l (c : CF) : Nat → A2
  | 0 => fun _ _ _ => none
  | k + 1 => S263_12b c (S263_11l c k)
theorem TS263_11l (c : CF) : (rk d263 P0 c 107 c263.snd.bd.snd.fst.bd).1 (L2 (S263_10 c) 0 3) [(0,(L2 (S263_10 c) 0 3))] k263 (fun l s h => S263_0g c rounds l (s.rd 3) (s.rd 4) h) = L2 (S263_11l c rounds) 0 3 := loop_t (by kernel_rfl) (loop_ind (A := fun m => L2 (S263_11l c m) 0 3) rfl (fun m => TS263_12b c (S263_11l c m)) rounds)
noncomputable def S263_13 (c : CF) (t0 t3 : AV) (h : Heap) : Res := S263_11l c rounds t0 t3 h
theorem TS263_13 (c : CF) : (rk d263 P0 c 107 c263.snd.bd.snd).1 k263 [] k263 (fun l s h => S263_0g c rounds l (s.rd 3) (s.rd 4) h) = L2 (S263_13 c) 0 3 := Eq.trans (seq_t (by kernel_rfl) (TS263_10 c) (block_t (id := 0) (by kernel_rfl) (TS263_11l c))) (by funext s h; kernel_rfl)
noncomputable def S263_14 (c : CF) (t0 : AV) (h : Heap) : Res := S263_13 c t0 (iL 0) h
theorem TS263_14 (c : CF) : (rk d263 P0 c 107 c263.snd).1 k263 [] k263 gK = L1 (S263_14 c) 0 := Eq.trans (scope_t (by kernel_rfl) (TS263_0g c) (seq_t (by kernel_rfl) (TS263_13 c) rfl)) (by funext s h; kernel_rfl)
noncomputable def F263 (c : CF) (a0 : AV) (h : Heap) : Res := S263_14 c a0 h
theorem TF263 (c : CF) (a0 : AV) (h : Heap) : (rk d263 P0 c 107 c263).1 k263 [] k263 gK (argsTr gl 0 [a0]) h = F263 c a0 h := Eq.trans (congrFun (congrFun (seq_t (by kernel_rfl) (TS263_14 c) rfl) _) _) (by kernel_rfl)
noncomputable def N263 : FnF := n1 F263
theorem N263_ok : FnOk P0 gl 263 N263 := n1_ok namesOk mixedOrders lowOk Tryz.func263 (by kernel_rfl) (by kernel_rfl) (by kernel_rfl) TF263
noncomputable def c264 : Code := codeOf Tryz.f264
noncomputable def k264 : Kt := finK P0 Tryz.f264.results.toList
def d264 : List Nat := [8,9]
noncomputable def S264_0 (c : CF) (t9 : AV) (h : Heap) : Res := some (t9,h)
theorem TS264_0 (c : CF) : (rk d264 P0 c 65 c264.s7).1 k264 [] k264 gK = L1 (S264_0 c) 9 := by funext s h; kernel_rfl
noncomputable def S264_2b (c : CF) (r1 : A5) (t0 t9 t47 t48 t49 : AV) (h : Heap) : Res := opt (fastBin .lss t49 t48) fun t50 => test t50 (opt (indexAddrS 2 t47 t49 h) fun t52 => opt (loadX (some 2) t52 h) fun t53 => opt2 (box (.agg [(iL 0),(iL 0)]) h) fun t11 h1 => optH (storeX 2 t11 t53 h1) fun h2 => opt (fieldAddrX 0 t11) fun t57 => opt (loadX none t57 h2) fun t58 => opt (fieldAddrX 1 t11) fun t59 => opt (loadX none t59 h2) fun t60 => opt (fastCut t0 (some t58) (some t60) none) fun t61 => opt (indexAddrS 1 t9 t49 h2) fun t62 => optH (storeX 1 t62 t61 h2) fun h3 => opt (fastBin .add t49 (iL 1)) fun t63 => r1 t0 t9 t47 t48 t63 h3) (S264_0 c t9 h)
theorem TS264_2b (c : CF) (r1 : A5) : (rk d264 P0 c 65 c264.s6.fst.snd.bd.bd).1 (L5 r1 0 9 47 48 49) [(2,(L1 (S264_0 c) 9))] k264 gK = L5 (S264_2b c r1) 0 9 47 48 49 := by funext s h; kernel_rfl
noncomputable def S264_1l (c : CF) : Nat → A5
  | 0 => fun _ _ _ _ _ _ => none
  | k + 1 => S264_2b c (S264_1l c k)
theorem TS264_1l (c : CF) : (rk d264 P0 c 65 c264.s6.fst.snd.bd).1 (L1 (S264_0 c) 9) [(2,(L1 (S264_0 c) 9))] k264 gK = L5 (S264_1l c rounds) 0 9 47 48 49 := loop_t (by kernel_rfl) (loop_ind (A := fun m => L5 (S264_1l c m) 0 9 47 48 49) rfl (fun m => TS264_2b c (S264_1l c m)) rounds)
noncomputable def S264_3 (c : CF) (t0 t9 t47 t48 t49 : AV) (h : Heap) : Res := S264_1l c rounds t0 t9 t47 t48 t49 h
theorem TS264_3 (c : CF) : (rk d264 P0 c 65 c264.s6.fst.snd).1 (L1 (S264_0 c) 9) [] k264 gK = L5 (S264_3 c) 0 9 47 48 49 := Eq.trans (block_t (id := 2) (by kernel_rfl) (TS264_1l c)) (by funext s h; kernel_rfl)
noncomputable def S264_4 (c : CF) (t0 t5 t9 : AV) (h : Heap) : Res := opt (lenS t5) fun t48 => S264_3 c t0 t9 t5 t48 (iL 0) h
theorem TS264_4 (c : CF) : (rk d264 P0 c 65 c264.s6).1 k264 [] k264 gK = L3 (S264_4 c) 0 5 9 := Eq.trans (seq_t (by kernel_rfl) (TS264_0 c) (seq_t (by kernel_rfl) (TS264_3 c) rfl)) (by funext s h; kernel_rfl)
noncomputable def S264_5 (c : CF) (t0 t5 : AV) (h : Heap) : Res := opt (lenS t5) fun t45 => opt2 (mksliceX 1 eL 16 t45 t45 h) fun t46 h1 => S264_4 c t0 t5 t46 h1
theorem TS264_5 (c : CF) : (rk d264 P0 c 65 c264.s5).1 k264 [] k264 gK = L2 (S264_5 c) 0 5 := Eq.trans (seq_t (by kernel_rfl) (TS264_4 c) rfl) (by funext s h; kernel_rfl)
noncomputable def S264_6 (c : CF) (t0 t5 t6 : AV) (h : Heap) : Res := opt (fastBin .geq t6 (iL 0)) fun t36 => test t36 (opt (lenStr t0) fun t40 => opt (buildX [(iL 0),(iL 0)] [(0,1),(1,1)] [(0,t6),(1,t40)]) fun t41 => opt2 (bsliceX 2 (.agg [(iL 0),(iL 0)]) 1 [(0,t41)] h) fun t42 h1 => opt2 (appendX 2 16 t5 t42 h1) fun t43 h2 => S264_5 c t0 t43 h2) (S264_5 c t0 t5 h)
theorem TS264_6 (c : CF) : (rk d264 P0 c 65 c264.s4).1 k264 [] k264 gK = L3 (S264_6 c) 0 5 6 := Eq.trans (seq_t (by kernel_rfl) (TS264_5 c) rfl) (by funext s h; kernel_rfl)
noncomputable def S264_8b (c : CF) (r7 : A5) (t0 t1 t5 t6 t14 : AV) (h : Heap) : Res := opt2 (nextS t14 h) fun t15 h1 => opt (extractX t15 0) fun t16 => test t16 (opt (extractX t15 1) fun t17 => opt (extractX t15 2) fun t18 => opt2 (callV P0 c t1 [t18] h1) fun t21 h2 => test t21 (opt (fastBin .geq t6 (iL 0)) fun t23 => test t23 (none) (r7 t0 t1 t5 t6 t14 h2)) (opt (fastBin .lss t6 (iL 0)) fun t33 => test t33 (r7 t0 t1 t5 t17 t14 h2) (r7 t0 t1 t5 t6 t14 h2))) (S264_6 c t0 t5 t6 h1)
theorem TS264_8b (c : CF) (r7 : A5) : (rk d264 P0 c 65 c264.s3.fst.snd.bd.bd).1 (L5 r7 0 1 5 6 14) [(0,(L3 (S264_6 c) 0 5 6))] k264 gK = L5 (S264_8b c r7) 0 1 5 6 14 := by funext s h; kernel_rfl
noncomputable def S264_7l (c : CF) : Nat → A5
  | 0 => fun _ _ _ _ _ _ => none
  | k + 1 => S264_8b c (S264_7l c k)
theorem TS264_7l (c : CF) : (rk d264 P0 c 65 c264.s3.fst.snd.bd).1 (L3 (S264_6 c) 0 5 6) [(0,(L3 (S264_6 c) 0 5 6))] k264 gK = L5 (S264_7l c rounds) 0 1 5 6 14 := loop_t (by kernel_rfl) (loop_ind (A := fun m => L5 (S264_7l c m) 0 1 5 6 14) rfl (fun m => TS264_8b c (S264_7l c m)) rounds)
noncomputable def S264_9 (c : CF) (t0 t1 t5 t6 t14 : AV) (h : Heap) : Res := S264_7l c rounds t0 t1 t5 t6 t14 h
theorem TS264_9 (c : CF) : (rk d264 P0 c 65 c264.s3.fst.snd).1 (L3 (S264_6 c) 0 5 6) [] k264 gK = L5 (S264_9 c) 0 1 5 6 14 := Eq.trans (block_t (id := 0) (by kernel_rfl) (TS264_7l c)) (by funext s h; kernel_rfl)
noncomputable def S264_10 (c : CF) (t0 t1 t5 t6 : AV) (h : Heap) : Res := opt2 (rangeX t0 h) fun t14 h1 => S264_9 c t0 t1 t5 t6 t14 h1
theorem TS264_10 (c : CF) : (rk d264 P0 c 65 c264.s3).1 k264 [] k264 gK = L4 (S264_10 c) 0 1 5 6 := Eq.trans (seq_t (by kernel_rfl) (TS264_6 c) (seq_t (by kernel_rfl) (TS264_9 c) rfl)) (by funext s h; kernel_rfl)
noncomputable def S264_11 (c : CF) (t0 t1 t5 : AV) (h : Heap) : Res := S264_10 c t0 t1 t5 (iL (-1)) h
theorem TS264_11 (c : CF) : (rk d264 P0 c 65 c264.s2).1 k264 [] k264 gK = L3 (S264_11 c) 0 1 5 := Eq.trans (seq_t (by kernel_rfl) (TS264_10 c) rfl) (by funext s h; kernel_rfl)
noncomputable def S264_12 (c : CF) (t0 t1 : AV) (h : Heap) : Res := opt2 (mksliceX 2 (.agg [(iL 0),(iL 0)]) 16 (iL 0) (iL 32) h) fun t12 h1 => S264_11 c t0 t1 t12 h1
theorem TS264_12 (c : CF) : (rk d264 P0 c 65 c264.snd).1 k264 [] k264 gK = L2 (S264_12 c) 0 1 := Eq.trans (seq_t (by kernel_rfl) (TS264_11 c) rfl) (by funext s h; kernel_rfl)
noncomputable def F264 (c : CF) (a0 a1 : AV) (h : Heap) : Res := S264_12 c a0 a1 h
theorem TF264 (c : CF) (a0 a1 : AV) (h : Heap) : (rk d264 P0 c 65 c264).1 k264 [] k264 gK (argsTr gl 0 [a0,a1]) h = F264 c a0 a1 h := Eq.trans (congrFun (congrFun (seq_t (by kernel_rfl) (TS264_12 c) rfl) _) _) (by kernel_rfl)
noncomputable def N264 : FnF := n2 F264
theorem N264_ok : FnOk P0 gl 264 N264 := n2_ok namesOk mixedOrders lowOk Tryz.func264 (by kernel_rfl) (by kernel_rfl) (by kernel_rfl) TF264
noncomputable def c265 : Code := codeOf Tryz.f265
noncomputable def k265 : Kt := finK P0 Tryz.f265.results.toList
def d265 : List Nat := []
noncomputable def F265 (c : CF) (a0 : AV) (h : Heap) : Res := opt2 (c 266 [(sL [91,93,40,41,44]),a0] h) fun t4 h1 => some (t4,h1)
theorem TF265 (c : CF) (a0 : AV) (h : Heap) : (rk d265 P0 c 5 c265).1 k265 [] k265 gK (argsTr gl 0 [a0]) h = F265 c a0 h := by kernel_rfl
noncomputable def N265 : FnF := n1 F265
theorem N265_ok : FnOk P0 gl 265 N265 := n1_ok namesOk mixedOrders lowOk Tryz.func265 (by kernel_rfl) (by kernel_rfl) (by kernel_rfl) TF265
noncomputable def c267 : Code := codeOf Tryz.f267
noncomputable def k267 : Kt := finK P0 Tryz.f267.results.toList
def d267 : List Nat := []
noncomputable def F267 (c : CF) (a0 a1 : AV) (h : Heap) : Res := opt2 (c 318 [a0,a1] h) fun t7 h1 => opt (fastBin .geq t7 (iL 0)) fun t8 => some (t8,h1)
theorem TF267 (c : CF) (a0 a1 : AV) (h : Heap) : (rk d267 P0 c 9 c267).1 k267 [] k267 gK (argsTr gl 0 [a0,a1]) h = F267 c a0 a1 h := by kernel_rfl
noncomputable def N267 : FnF := n2 F267
theorem N267_ok : FnOk P0 gl 267 N267 := n2_ok namesOk mixedOrders lowOk Tryz.func267 (by kernel_rfl) (by kernel_rfl) (by kernel_rfl) TF267
noncomputable def c268 : Code := codeOf Tryz.f268
noncomputable def k268 : Kt := finK P0 Tryz.f268.results.toList
def d268 : List Nat := [3,4,6,7,8,9,11,12,13,10,14,15,5,16]
noncomputable def F268 (c : CF) (a0 : AV) (h : Heap) : Res := opt (lenS a0) fun t7 => opt (fastBin .lss t7 (iL 2)) fun t8 => test t8 (some (a0,h)) (none)
theorem TF268 (c : CF) (a0 : AV) (h : Heap) : (rk d268 P0 c 61 c268).1 k268 [] k268 gK (argsTr gl 0 [a0]) h = F268 c a0 h := by kernel_rfl
noncomputable def N268 : FnF := n1 F268
theorem N268_ok : FnOk P0 gl 268 N268 := n1_ok namesOk mixedOrders lowOk Tryz.func268 (by kernel_rfl) (by kernel_rfl) (by kernel_rfl) TF268
noncomputable def c269 : Code := codeOf Tryz.f269
noncomputable def k269 : Kt := finK P0 Tryz.f269.results.toList
def d269 : List Nat := []
noncomputable def F269 (c : CF) (a0 a1 : AV) (h : Heap) : Res := opt (litCall P0 [a0,a1] 319) fun t7 => some (t7,h)
theorem TF269 (c : CF) (a0 a1 : AV) (h : Heap) : (rk d269 P0 c 8 c269).1 k269 [] k269 gK (argsTr gl 0 [a0,a1]) h = F269 c a0 a1 h := by kernel_rfl
noncomputable def N269 : FnF := n2 F269
theorem N269_ok : FnOk P0 gl 269 N269 := n2_ok namesOk mixedOrders lowOk Tryz.func269 (by kernel_rfl) (by kernel_rfl) (by kernel_rfl) TF269
noncomputable def c273 : Code := codeOf Tryz.f273
noncomputable def k273 : Kt := finK P0 Tryz.f273.results.toList
def d273 : List Nat := [2]
noncomputable def F273 (c : CF) (a0 : AV) (h : Heap) : Res := opt (litCall P0 [a0] 321) fun t4 => some (t4,h)
theorem TF273 (c : CF) (a0 : AV) (h : Heap) : (rk d273 P0 c 7 c273).1 k273 [] k273 gK (argsTr gl 0 [a0]) h = F273 c a0 h := by kernel_rfl
noncomputable def N273 : FnF := n1 F273
theorem N273_ok : FnOk P0 gl 273 N273 := n1_ok namesOk mixedOrders lowOk Tryz.func273 (by kernel_rfl) (by kernel_rfl) (by kernel_rfl) TF273
noncomputable def c274 : Code := codeOf Tryz.f274
noncomputable def k274 : Kt := finK P0 Tryz.f274.results.toList
def d274 : List Nat := []
noncomputable def F274 (c : CF) (a0 : AV) (h : Heap) : Res := opt (litCall P0 [a0] 324) fun t4 => opt (binX P0 .none .andNot 288 t4 (.lit (.int .u64 9223372036854775808))) fun t5 => opt (litCall P0 [t5] 323) fun t6 => some (t6,h)
theorem TF274 (c : CF) (a0 : AV) (h : Heap) : (rk d274 P0 c 7 c274).1 k274 [] k274 gK (argsTr gl 0 [a0]) h = F274 c a0 h := by kernel_rfl
noncomputable def N274 : FnF := n1 F274
theorem N274_ok : FnOk P0 gl 274 N274 := n1_ok namesOk mixedOrders lowOk Tryz.func274 (by kernel_rfl) (by kernel_rfl) (by kernel_rfl) TF274
noncomputable def c277 : Code := codeOf Tryz.f277
noncomputable def k277 : Kt := finK P0 Tryz.f277.results.toList
def d277 : List Nat := []
noncomputable def S277_0 (c : CF) (t5 t6 : AV) (h : Heap) : Res := some ((.tup [t5,t6,tL]),h)
theorem TS277_0 (c : CF) : (rk d277 P0 c 28 c277.s3).1 k277 [] k277 gK = L2 (S277_0 c) 5 6 := by funext s h; kernel_rfl
noncomputable def S277_1 (c : CF) (t5 t6 t25 : AV) (h : Heap) : Res := test t25 (some ((.tup [eL,eL,fL]),h)) (S277_0 c t5 t6 h)
theorem TS277_1 (c : CF) : (rk d277 P0 c 28 c277.s2.fst.snd).1 (L2 (S277_0 c) 5 6) [] k277 gK = L3 (S277_1 c) 5 6 25 := by funext s h; kernel_rfl
noncomputable def S277_2 (c : CF) (t5 t6 t7 : AV) (h : Heap) : Res := opt (notX t7) fun t15 => test t15 (S277_1 c t5 t6 tL h) (opt2 (c 186 [t5] h) fun t18 h1 => opt (notX t18) fun t19 => test t19 (S277_1 c t5 t6 tL h1) (opt2 (c 187 [t6] h1) fun t23 h2 => opt (notX t23) fun t24 => S277_1 c t5 t6 t24 h2))
theorem TS277_2 (c : CF) : (rk d277 P0 c 28 c277.s2).1 k277 [] k277 gK = L3 (S277_2 c) 5 6 7 := Eq.trans (seq_t (by kernel_rfl) (TS277_0 c) (seq_t (by kernel_rfl) (TS277_1 c) rfl)) (by funext s h; kernel_rfl)
noncomputable def S277_3 (c : CF) (t0 : AV) (h : Heap) : Res := opt2 (c 58 [t0,(sL [46])] h) fun t10 h1 => opt (extractX t10 0) fun t11 => opt (extractX t10 1) fun t12 => opt (extractX t10 2) fun t13 => S277_2 c t11 t12 t13 h1
theorem TS277_3 (c : CF) : (rk d277 P0 c 28 c277.snd).1 k277 [] k277 gK = L1 (S277_3 c) 0 := Eq.trans (seq_t (by kernel_rfl) (TS277_2 c) rfl) (by funext s h; kernel_rfl)
noncomputable def F277 (c : CF) (a0 : AV) (h : Heap) : Res := S277_3 c a0 h
theorem TF277 (c : CF) (a0 : AV) (h : Heap) : (rk d277 P0 c 28 c277).1 k277 [] k277 gK (argsTr gl 0 [a0]) h = F277 c a0 h := Eq.trans (congrFun (congrFun (seq_t (by kernel_rfl) (TS277_3 c) rfl) _) _) (by kernel_rfl)
noncomputable def N277 : FnF := n1 F277
theorem N277_ok : FnOk P0 gl 277 N277 := n1_ok namesOk mixedOrders lowOk Tryz.func277 (by kernel_rfl) (by kernel_rfl) (by kernel_rfl) TF277
noncomputable def c279 : Code := codeOf Tryz.f279
noncomputable def k279 : Kt := finK P0 Tryz.f279.results.toList
def d279 : List Nat := []
noncomputable def F279 (c : CF) (h : Heap) : Res := opt2 (bsliceX 1 eL 13 [(0,(sL [97,100,100])),(1,(sL [115,117,98])),(2,(sL [109,117,108])),(3,(sL [110,101,103])),(4,(sL [99,111,110,106])),(5,(sL [114,101])),(6,(sL [105,109])),(7,(sL [101,113])),(8,(sL [108,116])),(9,(sL [99,97,116])),(10,(sL [108,101,110])),(11,(sL [97,116])),(12,(sL [99,117,116]))] h) fun t1 h1 => some (t1,h1)
theorem TF279 (c : CF) (h : Heap) : (rk d279 P0 c 2 c279).1 k279 [] k279 gK (argsTr gl 0 []) h = F279 c h := by kernel_rfl
noncomputable def N279 : FnF := n0 F279
theorem N279_ok : FnOk P0 gl 279 N279 := n0_ok namesOk mixedOrders lowOk Tryz.func279 (by kernel_rfl) (by kernel_rfl) (by kernel_rfl) TF279
noncomputable def c280 : Code := codeOf Tryz.f280
noncomputable def k280 : Kt := finK P0 Tryz.f280.results.toList
def d280 : List Nat := [7,8,9,11,13,14,15,16,18,23,24,25,26,22,29,31]
noncomputable def S280_0 (c : CF) (t1 t2 t13 : AV) (h : Heap) : Res := opt (fieldAddrX 3 t2) fun t184 => opt (loadX none t184 h) fun t185 => opt (indexAddrS 4 t185 (iL 2) h) fun t186 => opt (loadX (some 4) t186 h) fun t187 => opt2 (c 280 [t187,t1] h) fun t189 h1 => opt (extractX t189 0) fun t190 => opt (extractX t189 1) fun t191 => opt (extractX t189 2) fun t192 => opt (fastBin .neq t191 (iL 0)) fun t194 => test t194 (none) (opt (lenS t13) fun t198 => opt (fastBin .gtr t198 (iL 6)) fun t199 => test t199 (none) (opt2 (c 168 [t13,t190] h1) fun t204 h2 => eqH h2 h1 (opt (fieldAddrX 1 t2) fun t205 => opt (loadX none t205 h1) fun t206 => eqH h1 h1 (opt2 (c 325 [t204,t206] h1) fun t207 h3 => eqH h3 h1 (opt (extractX t207 0) fun t208 => opt (extractX t207 1) fun t209 => opt (extractX t207 2) fun t210 => some ((.tup [t208,t209,t210]),h1))))))
theorem TS280_0 (c : CF) : (rk d280 P0 c 211 c280.s7).1 k280 [] k280 gK = L3 (S280_0 c) 1 2 13 := by funext s h; kernel_rfl
noncomputable def S280_2b (c : CF) (r1 : A4) (t1 t2 t13 t14 : AV) (h : Heap) : Res := opt (fieldAddrX 3 t2) fun t152 => opt (loadX none t152 h) fun t153 => opt (indexAddrS 4 t153 (iL 1) h) fun t154 => opt (fieldAddrX 3 t154) fun t155 => opt (loadX none t155 h) fun t156 => opt (lenS t156) fun t157 => opt (fastBin .lss t14 t157) fun t158 => test t158 (none) (S280_0 c t1 t2 t13 h)
theorem TS280_2b (c : CF) (r1 : A4) : (rk d280 P0 c 211 c280.s6.fst.snd.bd.bd).1 (L4 r1 1 2 13 14) [(1,(L3 (S280_0 c) 1 2 13))] k280 gK = L4 (S280_2b c r1) 1 2 13 14 := by funext s h; kernel_rfl
noncomputable def S280_1l (c : CF) : Nat → A4
  | 0 => fun _ _ _ _ _ => none
  | k + 1 => S280_2b c (S280_1l c k)
theorem TS280_1l (c : CF) : (rk d280 P0 c 211 c280.s6.fst.snd.bd).1 (L3 (S280_0 c) 1 2 13) [(1,(L3 (S280_0 c) 1 2 13))] k280 gK = L4 (S280_1l c rounds) 1 2 13 14 := loop_t (by kernel_rfl) (loop_ind (A := fun m => L4 (S280_1l c m) 1 2 13 14) rfl (fun m => TS280_2b c (S280_1l c m)) rounds)
noncomputable def S280_3 (c : CF) (t1 t2 t13 t14 : AV) (h : Heap) : Res := S280_1l c rounds t1 t2 t13 t14 h
theorem TS280_3 (c : CF) : (rk d280 P0 c 211 c280.s6.fst.snd).1 (L3 (S280_0 c) 1 2 13) [] k280 gK = L4 (S280_3 c) 1 2 13 14 := Eq.trans (block_t (id := 1) (by kernel_rfl) (TS280_1l c)) (by funext s h; kernel_rfl)
noncomputable def S280_4 (c : CF) (t1 t2 t13 : AV) (h : Heap) : Res := S280_3 c t1 t2 t13 (iL 0) h
theorem TS280_4 (c : CF) : (rk d280 P0 c 211 c280.s6).1 k280 [] k280 gK = L3 (S280_4 c) 1 2 13 := Eq.trans (seq_t (by kernel_rfl) (TS280_0 c) (seq_t (by kernel_rfl) (TS280_3 c) rfl)) (by funext s h; kernel_rfl)
noncomputable def S280_5 (c : CF) (t1 t2 : AV) (h : Heap) : Res := S280_4 c t1 t2 nL h
theorem TS280_5 (c : CF) : (rk d280 P0 c 211 c280.s5).1 k280 [] k280 gK = L2 (S280_5 c) 1 2 := Eq.trans (seq_t (by kernel_rfl) (TS280_4 c) rfl) (by funext s h; kernel_rfl)
noncomputable def S280_6 (c : CF) (t1 t2 : AV) (h : Heap) : Res := opt (fieldAddrX 3 t2) fun t129 => opt (loadX none t129 h) fun t130 => opt (indexAddrS 4 t130 (iL 0) h) fun t131 => opt (fieldAddrX 2 t131) fun t132 => opt (loadX none t132 h) fun t133 => opt (fastBin .neq t133 (sL [102,110])) fun t134 => test t134 (none) (opt (fieldAddrX 3 t2) fun t136 => opt (loadX none t136 h) fun t137 => opt (lenS t137) fun t138 => opt (fastBin .neq t138 (iL 3)) fun t139 => test t139 (none) (opt (fieldAddrX 3 t2) fun t142 => opt (loadX none t142 h) fun t143 => opt (indexAddrS 4 t143 (iL 1) h) fun t144 => opt (fieldAddrX 0 t144) fun t145 => opt (loadX none t145 h) fun t146 => opt (fastBin .neq t146 (iL 1)) fun t147 => test t147 (none) (S280_5 c t1 t2 h)))
theorem TS280_6 (c : CF) : (rk d280 P0 c 211 c280.s4).1 k280 [] k280 gK = L2 (S280_6 c) 1 2 := Eq.trans (seq_t (by kernel_rfl) (TS280_5 c) rfl) (by funext s h; kernel_rfl)
noncomputable def S280_7 (c : CF) (t1 t2 : AV) (h : Heap) : Res := opt (fieldAddrX 3 t2) fun t94 => opt (loadX none t94 h) fun t95 => opt (indexAddrS 4 t95 (iL 0) h) fun t96 => opt (fieldAddrX 2 t96) fun t97 => opt (loadX none t97 h) fun t98 => opt (fastBin .eql t98 (sL [97,114,114,97,121])) fun t99 => test t99 (opt (fieldAddrX 3 t2) fun t101 => opt (loadX none t101 h) fun t102 => opt (lenS t102) fun t103 => opt (fastBin .eql t103 (iL 2)) fun t104 => test t104 (none) (S280_6 c t1 t2 h)) (S280_6 c t1 t2 h)
theorem TS280_7 (c : CF) : (rk d280 P0 c 211 c280.s3).1 k280 [] k280 gK = L2 (S280_7 c) 1 2 := Eq.trans (seq_t (by kernel_rfl) (TS280_6 c) rfl) (by funext s h; kernel_rfl)
noncomputable def S280_8 (c : CF) (t1 t2 : AV) (h : Heap) : Res := opt (fieldAddrX 0 t2) fun t75 => opt (loadX none t75 h) fun t76 => opt (fastBin .neq t76 (iL 1)) fun t77 => test t77 (none) (opt (fieldAddrX 3 t2) fun t79 => opt (loadX none t79 h) fun t80 => opt (lenS t80) fun t81 => opt (fastBin .eql t81 (iL 0)) fun t82 => test t82 (none) (opt (fieldAddrX 3 t2) fun t85 => opt (loadX none t85 h) fun t86 => opt (indexAddrS 4 t86 (iL 0) h) fun t87 => opt (fieldAddrX 0 t87) fun t88 => opt (loadX none t88 h) fun t89 => opt (fastBin .neq t89 (iL 3)) fun t90 => test t90 (none) (S280_7 c t1 t2 h)))
theorem TS280_8 (c : CF) : (rk d280 P0 c 211 c280.s2).1 k280 [] k280 gK = L2 (S280_8 c) 1 2 := Eq.trans (seq_t (by kernel_rfl) (TS280_7 c) rfl) (by funext s h; kernel_rfl)
noncomputable def S280_9 (c : CF) (t1 t2 t42 : AV) (h : Heap) : Res := test t42 (opt (fastBin .add t1 (sL [46])) fun t51 => opt (fieldAddrX 2 t2) fun t52 => opt (loadX none t52 h) fun t53 => opt (fastBin .add t51 t53) fun t54 => opt (fieldAddrX 1 t2) fun t55 => opt (loadX none t55 h) fun t56 => opt2 (c 325 [t54,t56] h) fun t57 h1 => opt (extractX t57 0) fun t58 => opt (extractX t57 1) fun t59 => opt (extractX t57 2) fun t60 => some ((.tup [t58,t59,t60]),h1)) (none)
theorem TS280_9 (c : CF) : (rk d280 P0 c 211 c280.snd.fst.snd.thn.snd.fst.bd.snd.els.snd).1 ((rk d280 P0 c 211 c280.snd.fst.snd.thn.s2).1 (L2 (S280_8 c) 1 2) [] k280 gK) [(0,((rk d280 P0 c 211 c280.snd.fst.snd.thn.s2).1 (L2 (S280_8 c) 1 2) [] k280 gK))] k280 gK = L3 (S280_9 c) 1 2 42 := by funext s h; kernel_rfl
noncomputable def S280_10 (c : CF) (t1 t2 t9 : AV) (h : Heap) : Res := opt (notX t9) fun t44 => test t44 (opt (fieldAddrX 2 t2) fun t46 => opt (loadX none t46 h) fun t47 => opt2 (c 138 [t47] h) fun t48 h1 => S280_9 c t1 t2 t48 h1) (S280_9 c t1 t2 fL h)
theorem TS280_10 (c : CF) : (rk d280 P0 c 211 c280.snd.fst.snd.thn.snd.fst.bd.snd.els).1 ((rk d280 P0 c 211 c280.snd.fst.snd.thn.s2).1 (L2 (S280_8 c) 1 2) [] k280 gK) [(0,((rk d280 P0 c 211 c280.snd.fst.snd.thn.s2).1 (L2 (S280_8 c) 1 2) [] k280 gK))] k280 gK = L3 (S280_10 c) 1 2 9 := Eq.trans (seq_t (by kernel_rfl) (TS280_9 c) rfl) (by funext s h; kernel_rfl)
noncomputable def S280_11 (c : CF) (t1 t2 t9 t31 : AV) (h : Heap) : Res := test t31 (opt (fieldAddrX 2 t2) fun t40 => opt (loadX none t40 h) fun t41 => some ((.tup [t41,(iL 0),(iL 0)]),h)) (S280_10 c t1 t2 t9 h)
theorem TS280_11 (c : CF) : (rk d280 P0 c 211 c280.snd.fst.snd.thn.snd.fst.bd.snd).1 ((rk d280 P0 c 211 c280.snd.fst.snd.thn.s2).1 (L2 (S280_8 c) 1 2) [] k280 gK) [(0,((rk d280 P0 c 211 c280.snd.fst.snd.thn.s2).1 (L2 (S280_8 c) 1 2) [] k280 gK))] k280 gK = L4 (S280_11 c) 1 2 9 31 := Eq.trans (cond_t (by kernel_rfl) rfl (TS280_10 c)) (by funext s h; kernel_rfl)
noncomputable def S280_12 (c : CF) (t1 t2 t9 : AV) (h : Heap) : Res := opt (fieldAddrX 2 t2) fun t32 => opt (loadX none t32 h) fun t33 => opt (fastBin .eql t33 (sL [110,117,109])) fun t34 => test t34 (S280_11 c t1 t2 t9 tL h) (opt (fieldAddrX 2 t2) fun t36 => opt (loadX none t36 h) fun t37 => opt (fastBin .eql t37 (sL [98,121,116,101,115])) fun t38 => S280_11 c t1 t2 t9 t38 h)
theorem TS280_12 (c : CF) : (rk d280 P0 c 211 c280.snd.fst.snd.thn.snd).1 (L2 (S280_8 c) 1 2) [] k280 gK = L3 (S280_12 c) 1 2 9 := Eq.trans (seq_t (by kernel_rfl) rfl (block_t (id := 0) (by kernel_rfl) (seq_t (by kernel_rfl) (TS280_11 c) rfl))) (by funext s h; kernel_rfl)
noncomputable def S280_13 (c : CF) (t1 t2 : AV) (h : Heap) : Res := opt (fieldAddrX 2 t2) fun t25 => opt (loadX none t25 h) fun t26 => opt2 (c 43 [t26] h) fun t27 h1 => opt (extractX t27 0) fun t28 => opt (extractX t27 1) fun t29 => opt (extractX t27 2) fun t30 => S280_12 c t1 t2 t30 h1
theorem TS280_13 (c : CF) : (rk d280 P0 c 211 c280.snd.fst.snd.thn).1 (L2 (S280_8 c) 1 2) [] k280 gK = L2 (S280_13 c) 1 2 := Eq.trans (seq_t (by kernel_rfl) (TS280_12 c) rfl) (by funext s h; kernel_rfl)
noncomputable def S280_14 (c : CF) (t1 t2 t23 : AV) (h : Heap) : Res := test t23 (S280_13 c t1 t2 h) (S280_8 c t1 t2 h)
theorem TS280_14 (c : CF) : (rk d280 P0 c 211 c280.snd.fst.snd).1 (L2 (S280_8 c) 1 2) [] k280 gK = L3 (S280_14 c) 1 2 23 := Eq.trans (cond_t (by kernel_rfl) (TS280_13 c) rfl) (by funext s h; kernel_rfl)
noncomputable def S280_15 (c : CF) (t1 t2 : AV) (h : Heap) : Res := opt (fieldAddrX 0 t2) fun t21 => opt (loadX none t21 h) fun t22 => opt (fastBin .eql t22 (iL 3)) fun t23 => S280_14 c t1 t2 t23 h
theorem TS280_15 (c : CF) : (rk d280 P0 c 211 c280.snd).1 k280 [] k280 gK = L2 (S280_15 c) 1 2 := Eq.trans (seq_t (by kernel_rfl) (TS280_8 c) (seq_t (by kernel_rfl) (TS280_14 c) rfl)) (by funext s h; kernel_rfl)
noncomputable def F280 (c : CF) (a0 a1 : AV) (h : Heap) : Res := opt2 (box a0 h) fun t2 h1 => S280_15 c a1 t2 h1
theorem TF280 (c : CF) (a0 a1 : AV) (h : Heap) : (rk d280 P0 c 211 c280).1 k280 [] k280 gK (argsTr gl 0 [a0,a1]) h = F280 c a0 a1 h := Eq.trans (congrFun (congrFun (seq_t (by kernel_rfl) (TS280_15 c) rfl) _) _) (by kernel_rfl)
noncomputable def N280 : FnF := n2 F280
theorem N280_ok : FnOk P0 gl 280 N280 := n2_ok namesOk mixedOrders lowOk Tryz.func280 (by kernel_rfl) (by kernel_rfl) (by kernel_rfl) TF280
noncomputable def c281 : Code := codeOf Tryz.f281
noncomputable def k281 : Kt := finK P0 Tryz.f281.results.toList
def d281 : List Nat := []
noncomputable def S281_0 (c : CF) (t0 t5 t6 : AV) (h : Heap) : Res := opt (fastCut t0 (some t6) none none) fun t38 => eqH h h (opt (fastBin .gtr t6 (iL 0)) fun t40 => some ((.tup [t5,t38,t40]),h))
theorem TS281_0 (c : CF) : (rk d281 P0 c 41 c281.s4).1 k281 [] k281 gK = L3 (S281_0 c) 0 5 6 := by funext s h; kernel_rfl
noncomputable def S281_2 (c : CF) (r1 : A3) (t0 t5 t6 : AV) (h : Heap) : Res := opt (fastBin .add t6 (iL 1)) fun t34 => r1 t0 t5 t34 h
theorem TS281_2 (c : CF) (r1 : A3) : (rk d281 P0 c 41 c281.s3.fst.bd.bd.snd.bd.snd).1 (L3 r1 0 5 6) [(1,(L3 r1 0 5 6)),(0,(L3 (S281_0 c) 0 5 6))] k281 gK = L3 (S281_2 c r1) 0 5 6 := by funext s h; kernel_rfl
noncomputable def S281_3 (c : CF) (r1 : A3) (t0 t5 t6 : AV) (h : Heap) : Res := opt (fastBin .lss t5 (iL 1099511627776)) fun t24 => test t24 (opt (fastBin .mul t5 (iL 10)) fun t26 => opt (fastIndex t0 t6) fun t29 => opt (fastBin .sub t29 (uL 48)) fun t30 => opt (convI .i64 t30) fun t31 => opt (fastBin .add t26 t31) fun t32 => S281_2 c r1 t0 t32 t6 h) (S281_2 c r1 t0 t5 t6 h)
theorem TS281_3 (c : CF) (r1 : A3) : (rk d281 P0 c 41 c281.s3.fst.bd.bd.snd).1 (L3 r1 0 5 6) [(0,(L3 (S281_0 c) 0 5 6))] k281 gK = L3 (S281_3 c r1) 0 5 6 := Eq.trans (block_t (id := 1) (by kernel_rfl) (seq_t (by kernel_rfl) (TS281_2 c r1) rfl)) (by funext s h; kernel_rfl)
noncomputable def S281_4b (c : CF) (r1 : A3) (t0 t5 t6 : AV) (h : Heap) : Res := opt (lenStr t0) fun t9 => opt (fastBin .lss t6 t9) fun t10 => test t10 (opt (fastIndex t0 t6) fun t14 => opt (fastBin .geq t14 (uL 48)) fun t15 => test t15 (opt (fastIndex t0 t6) fun t20 => opt (fastBin .leq t20 (uL 57)) fun t21 => test t21 (S281_3 c r1 t0 t5 t6 h) (S281_0 c t0 t5 t6 h)) (S281_0 c t0 t5 t6 h)) (S281_0 c t0 t5 t6 h)
theorem TS281_4b (c : CF) (r1 : A3) : (rk d281 P0 c 41 c281.s3.fst.bd.bd).1 (L3 r1 0 5 6) [(0,(L3 (S281_0 c) 0 5 6))] k281 gK = L3 (S281_4b c r1) 0 5 6 := Eq.trans (seq_t (by kernel_rfl) (TS281_3 c r1) rfl) (by funext s h; kernel_rfl)
noncomputable def S281_1l (c : CF) : Nat → A3
  | 0 => fun _ _ _ _ => none
  | k + 1 => S281_4b c (S281_1l c k)
theorem TS281_1l (c : CF) : (rk d281 P0 c 41 c281.s3.fst.bd).1 (L3 (S281_0 c) 0 5 6) [(0,(L3 (S281_0 c) 0 5 6))] k281 gK = L3 (S281_1l c rounds) 0 5 6 := loop_t (by kernel_rfl) (loop_ind (A := fun m => L3 (S281_1l c m) 0 5 6) rfl (fun m => TS281_4b c (S281_1l c m)) rounds)
noncomputable def S281_5 (c : CF) (t0 t5 t6 : AV) (h : Heap) : Res := S281_1l c rounds t0 t5 t6 h
theorem TS281_5 (c : CF) : (rk d281 P0 c 41 c281.s3).1 k281 [] k281 gK = L3 (S281_5 c) 0 5 6 := Eq.trans (seq_t (by kernel_rfl) (TS281_0 c) (block_t (id := 0) (by kernel_rfl) (TS281_1l c))) (by funext s h; kernel_rfl)
noncomputable def S281_6 (c : CF) (t0 t5 : AV) (h : Heap) : Res := S281_5 c t0 t5 (iL 0) h
theorem TS281_6 (c : CF) : (rk d281 P0 c 41 c281.s2).1 k281 [] k281 gK = L2 (S281_6 c) 0 5 := Eq.trans (seq_t (by kernel_rfl) (TS281_5 c) rfl) (by funext s h; kernel_rfl)
noncomputable def S281_7 (c : CF) (t0 : AV) (h : Heap) : Res := S281_6 c t0 (iL 0) h
theorem TS281_7 (c : CF) : (rk d281 P0 c 41 c281.snd).1 k281 [] k281 gK = L1 (S281_7 c) 0 := Eq.trans (seq_t (by kernel_rfl) (TS281_6 c) rfl) (by funext s h; kernel_rfl)
noncomputable def F281 (c : CF) (a0 : AV) (h : Heap) : Res := S281_7 c a0 h
theorem TF281 (c : CF) (a0 : AV) (h : Heap) : (rk d281 P0 c 41 c281).1 k281 [] k281 gK (argsTr gl 0 [a0]) h = F281 c a0 h := Eq.trans (congrFun (congrFun (seq_t (by kernel_rfl) (TS281_7 c) rfl) _) _) (by kernel_rfl)
noncomputable def N281 : FnF := n1 F281
theorem N281_ok : FnOk P0 gl 281 N281 := n1_ok namesOk mixedOrders lowOk Tryz.func281 (by kernel_rfl) (by kernel_rfl) (by kernel_rfl) TF281
noncomputable def c282 : Code := codeOf Tryz.f282
noncomputable def k282 : Kt := finK P0 Tryz.f282.results.toList
def d282 : List Nat := []
noncomputable def F282 (c : CF) (a0 a1 : AV) (h : Heap) : Res := opt2 (c 296 [a0,a1] h) fun t11 h1 => opt (extractX t11 0) fun t12 => opt (extractX t11 1) fun t13 => opt (fastBin .eql t13 (iL 0)) fun t16 => some ((.tup [t12,t16]),h1)
theorem TF282 (c : CF) (a0 a1 : AV) (h : Heap) : (rk d282 P0 c 17 c282).1 k282 [] k282 gK (argsTr gl 0 [a0,a1]) h = F282 c a0 a1 h := by kernel_rfl
noncomputable def N282 : FnF := n2 F282
theorem N282_ok : FnOk P0 gl 282 N282 := n2_ok namesOk mixedOrders lowOk Tryz.func282 (by kernel_rfl) (by kernel_rfl) (by kernel_rfl) TF282
noncomputable def c283 : Code := codeOf Tryz.f283
noncomputable def k283 : Kt := finK P0 Tryz.f283.results.toList
def d283 : List Nat := []
noncomputable def S283_0 (c : CF) (t5 : AV) (h : Heap) : Res := some (t5,h)
theorem TS283_0 (c : CF) : (rk d283 P0 c 30 c283.s3).1 k283 [] k283 gK = L1 (S283_0 c) 5 := by funext s h; kernel_rfl
noncomputable def S283_2 (c : CF) (r1 : A4) (t0 t1 t5 t6 : AV) (h : Heap) : Res := opt (indexAddrS 4 t1 t6 h) fun t24 => opt (loadX (some 4) t24 h) fun t25 => opt2 (c 144 [t0,t25] h) fun t26 h1 => opt2 (bsliceX 9 (.agg [(iL 0),(iL 0),eL,cL,eL,eL,nL,nL,nL]) 1 [(0,t26)] h1) fun t27 h2 => opt2 (appendX 9 152 t5 t27 h2) fun t28 h3 => opt (fastBin .add t6 (iL 1)) fun t19 => r1 t0 t1 t28 t19 h3
theorem TS283_2 (c : CF) (r1 : A4) : (rk d283 P0 c 30 c283.s2.fst.snd.bd.bd.snd).1 (L4 r1 0 1 5 6) [(0,(L1 (S283_0 c) 5))] k283 gK = L4 (S283_2 c r1) 0 1 5 6 := by funext s h; kernel_rfl
noncomputable def S283_3b (c : CF) (r1 : A4) (t0 t1 t5 t6 : AV) (h : Heap) : Res := opt (lenS t1) fun t9 => opt (fastBin .lss t6 t9) fun t10 => test t10 (opt (nilCheckX t0) fun t13 => opt (fieldAddrX 1 t13) fun t14 => opt (loadX none t14 h) fun t15 => opt (fastBin .eql t15 (iL 0)) fun t16 => test t16 (S283_2 c r1 t0 t1 t5 t6 h) (S283_0 c t5 h)) (S283_0 c t5 h)
theorem TS283_3b (c : CF) (r1 : A4) : (rk d283 P0 c 30 c283.s2.fst.snd.bd.bd).1 (L4 r1 0 1 5 6) [(0,(L1 (S283_0 c) 5))] k283 gK = L4 (S283_3b c r1) 0 1 5 6 := Eq.trans (seq_t (by kernel_rfl) (TS283_2 c r1) rfl) (by funext s h; kernel_rfl)
noncomputable def S283_1l (c : CF) : Nat → A4
  | 0 => fun _ _ _ _ _ => none
  | k + 1 => S283_3b c (S283_1l c k)
theorem TS283_1l (c : CF) : (rk d283 P0 c 30 c283.s2.fst.snd.bd).1 (L1 (S283_0 c) 5) [(0,(L1 (S283_0 c) 5))] k283 gK = L4 (S283_1l c rounds) 0 1 5 6 := loop_t (by kernel_rfl) (loop_ind (A := fun m => L4 (S283_1l c m) 0 1 5 6) rfl (fun m => TS283_3b c (S283_1l c m)) rounds)
noncomputable def S283_4 (c : CF) (t0 t1 t5 t6 : AV) (h : Heap) : Res := S283_1l c rounds t0 t1 t5 t6 h
theorem TS283_4 (c : CF) : (rk d283 P0 c 30 c283.s2.fst.snd).1 (L1 (S283_0 c) 5) [] k283 gK = L4 (S283_4 c) 0 1 5 6 := Eq.trans (block_t (id := 0) (by kernel_rfl) (TS283_1l c)) (by funext s h; kernel_rfl)
noncomputable def S283_5 (c : CF) (t0 t1 t5 : AV) (h : Heap) : Res := S283_4 c t0 t1 t5 (iL 0) h
theorem TS283_5 (c : CF) : (rk d283 P0 c 30 c283.s2).1 k283 [] k283 gK = L3 (S283_5 c) 0 1 5 := Eq.trans (seq_t (by kernel_rfl) (TS283_0 c) (seq_t (by kernel_rfl) (TS283_4 c) rfl)) (by funext s h; kernel_rfl)
noncomputable def S283_6 (c : CF) (t0 t1 : AV) (h : Heap) : Res := S283_5 c t0 t1 nL h
theorem TS283_6 (c : CF) : (rk d283 P0 c 30 c283.snd).1 k283 [] k283 gK = L2 (S283_6 c) 0 1 := Eq.trans (seq_t (by kernel_rfl) (TS283_5 c) rfl) (by funext s h; kernel_rfl)
noncomputable def F283 (c : CF) (a0 a1 : AV) (h : Heap) : Res := S283_6 c a0 a1 h
theorem TF283 (c : CF) (a0 a1 : AV) (h : Heap) : (rk d283 P0 c 30 c283).1 k283 [] k283 gK (argsTr gl 0 [a0,a1]) h = F283 c a0 a1 h := Eq.trans (congrFun (congrFun (seq_t (by kernel_rfl) (TS283_6 c) rfl) _) _) (by kernel_rfl)
noncomputable def N283 : FnF := n2 F283
theorem N283_ok : FnOk P0 gl 283 N283 := n2_ok namesOk mixedOrders lowOk Tryz.func283 (by kernel_rfl) (by kernel_rfl) (by kernel_rfl) TF283
noncomputable def c285 : Code := codeOf Tryz.f285
noncomputable def k285 : Kt := finK P0 Tryz.f285.results.toList
def d285 : List Nat := []
noncomputable def S285_0 (c : CF) (h : Heap) : Res := some ((iL (-1)),h)
theorem TS285_0 (c : CF) : (rk d285 P0 c 19 c285.s3).1 k285 [] k285 gK = L0 (S285_0 c) := by funext s h; kernel_rfl
noncomputable def S285_2b (c : CF) (r1 : A3) (t0 t3 t4 : AV) (h : Heap) : Res := opt (lenS t3) fun t8 => opt (fastBin .lss t4 t8) fun t9 => test t9 (opt (indexAddrS 1 t3 t4 h) fun t14 => opt (loadX none t14 h) fun t15 => opt (fastBin .eql t15 t0) fun t17 => test t17 (some (t4,h)) (opt (fastBin .add t4 (iL 1)) fun t11 => r1 t0 t3 t11 h)) (S285_0 c h)
theorem TS285_2b (c : CF) (r1 : A3) : (rk d285 P0 c 19 c285.s2.fst.snd.bd.bd).1 (L3 r1 0 3 4) [(0,(L0 (S285_0 c)))] k285 gK = L3 (S285_2b c r1) 0 3 4 := by funext s h; kernel_rfl
noncomputable def S285_1l (c : CF) : Nat → A3
  | 0 => fun _ _ _ _ => none
  | k + 1 => S285_2b c (S285_1l c k)
theorem TS285_1l (c : CF) : (rk d285 P0 c 19 c285.s2.fst.snd.bd).1 (L0 (S285_0 c)) [(0,(L0 (S285_0 c)))] k285 gK = L3 (S285_1l c rounds) 0 3 4 := loop_t (by kernel_rfl) (loop_ind (A := fun m => L3 (S285_1l c m) 0 3 4) rfl (fun m => TS285_2b c (S285_1l c m)) rounds)
noncomputable def S285_3 (c : CF) (t0 t3 t4 : AV) (h : Heap) : Res := S285_1l c rounds t0 t3 t4 h
theorem TS285_3 (c : CF) : (rk d285 P0 c 19 c285.s2.fst.snd).1 (L0 (S285_0 c)) [] k285 gK = L3 (S285_3 c) 0 3 4 := Eq.trans (block_t (id := 0) (by kernel_rfl) (TS285_1l c)) (by funext s h; kernel_rfl)
noncomputable def S285_4 (c : CF) (t0 t3 : AV) (h : Heap) : Res := S285_3 c t0 t3 (iL 0) h
theorem TS285_4 (c : CF) : (rk d285 P0 c 19 c285.s2).1 k285 [] k285 gK = L2 (S285_4 c) 0 3 := Eq.trans (seq_t (by kernel_rfl) (TS285_0 c) (seq_t (by kernel_rfl) (TS285_3 c) rfl)) (by funext s h; kernel_rfl)
noncomputable def S285_5 (c : CF) (t0 : AV) (h : Heap) : Res := opt2 (c 279 [] h) fun t5 h1 => S285_4 c t0 t5 h1
theorem TS285_5 (c : CF) : (rk d285 P0 c 19 c285.snd).1 k285 [] k285 gK = L1 (S285_5 c) 0 := Eq.trans (seq_t (by kernel_rfl) (TS285_4 c) rfl) (by funext s h; kernel_rfl)
noncomputable def F285 (c : CF) (a0 : AV) (h : Heap) : Res := S285_5 c a0 h
theorem TF285 (c : CF) (a0 : AV) (h : Heap) : (rk d285 P0 c 19 c285).1 k285 [] k285 gK (argsTr gl 0 [a0]) h = F285 c a0 h := Eq.trans (congrFun (congrFun (seq_t (by kernel_rfl) (TS285_5 c) rfl) _) _) (by kernel_rfl)
noncomputable def N285 : FnF := n1 F285
theorem N285_ok : FnOk P0 gl 285 N285 := n1_ok namesOk mixedOrders lowOk Tryz.func285 (by kernel_rfl) (by kernel_rfl) (by kernel_rfl) TF285
noncomputable def c296 : Code := codeOf Tryz.f296
noncomputable def k296 : Kt := finK P0 Tryz.f296.results.toList
def d296 : List Nat := [3]
noncomputable def F296 (c : CF) (a0 a1 : AV) (h : Heap) : Res := opt2 (c 331 [a0,a1] h) fun t9 h1 => opt2 (c 173 [t9] h1) fun t11 h2 => opt (notX t11) fun t12 => test t12 (none) (some ((.tup [t9,(iL 0)]),h2))
theorem TF296 (c : CF) (a0 a1 : AV) (h : Heap) : (rk d296 P0 c 14 c296).1 k296 [] k296 gK (argsTr gl 0 [a0,a1]) h = F296 c a0 a1 h := by kernel_rfl
noncomputable def N296 : FnF := n2 F296
theorem N296_ok : FnOk P0 gl 296 N296 := n2_ok namesOk mixedOrders lowOk Tryz.func296 (by kernel_rfl) (by kernel_rfl) (by kernel_rfl) TF296
noncomputable def c303 : Code := codeOf Tryz.f303
noncomputable def k303 : Kt := finK P0 Tryz.f303.results.toList
def d303 : List Nat := []
noncomputable def F303 (c : CF) (a0 : AV) (h : Heap) : Res := opt (fastBin .geq a0 (uL 97)) fun t4 => test t4 (opt (fastBin .leq a0 (uL 122)) fun t7 => test t7 (some (tL,h)) (opt (fastBin .geq a0 (uL 65)) fun t11 => test t11 (opt (fastBin .leq a0 (uL 90)) fun t14 => some (t14,h)) (some (fL,h)))) (opt (fastBin .geq a0 (uL 65)) fun t11_1 => test t11_1 (opt (fastBin .leq a0 (uL 90)) fun t14_1 => some (t14_1,h)) (some (fL,h)))
theorem TF303 (c : CF) (a0 : AV) (h : Heap) : (rk d303 P0 c 17 c303).1 k303 [] k303 gK (argsTr gl 0 [a0]) h = F303 c a0 h := by kernel_rfl
noncomputable def N303 : FnF := n1 F303
theorem N303_ok : FnOk P0 gl 303 N303 := n1_ok namesOk mixedOrders lowOk Tryz.func303 (by kernel_rfl) (by kernel_rfl) (by kernel_rfl) TF303
noncomputable def c304 : Code := codeOf Tryz.f304
noncomputable def k304 : Kt := finK P0 Tryz.f304.results.toList
def d304 : List Nat := [9,14,17]
noncomputable def S304_1 (c : CF) (r0 : Nat → A3) (t0 t4 t5 t6 : AV) (h : Heap) : Res := opt (fastBin .add t5 t6) fun t37 => opt (fastCut t0 (some t5) (some t37) none) fun t38 => opt2 (bsliceX 1 eL 1 [(0,t38)] h) fun t39 h1 => opt2 (appendX 1 16 t4 t39 h1) fun t40 h2 => opt (fastBin .add t5 t6) fun t43 => opt (fastIndex t0 t43) fun t46 => opt (fastBin .eql t46 (uL 44)) fun t48 => test t48 (none) (opt (fastBin .eql t46 (uL 41)) fun t52 => test t52 (opt (fastBin .add t43 (iL 1)) fun t55 => some ((.tup [t40,t55]),h2)) (none))
theorem TS304_1 (c : CF) (r0 : Nat → A3) : (rk d304 P0 c 56 (c304.snd.bd.at_ 0).s4).1 k304 [] k304 (fun l s h => r0 l (s.rd 0) (s.rd 4) (s.rd 5) h) = L4 (S304_1 c r0) 0 4 5 6 := by funext s h; kernel_rfl
noncomputable def S304_2 (c : CF) (r0 : Nat → A3) (t0 t4 t5 t6 : AV) (h : Heap) : Res := opt (fastBin .eql t6 (iL 0)) fun t18 => test t18 (none) (opt (fastBin .add t5 t6) fun t22 => opt (lenStr t0) fun t24 => opt (fastBin .geq t22 t24) fun t25 => test t25 (none) (opt (lenS t4) fun t29 => opt (fastBin .eql t29 (iL 6)) fun t30 => test t30 (none) (S304_1 c r0 t0 t4 t5 t6 h)))
theorem TS304_2 (c : CF) (r0 : Nat → A3) : (rk d304 P0 c 56 (c304.snd.bd.at_ 0).s3).1 k304 [] k304 (fun l s h => r0 l (s.rd 0) (s.rd 4) (s.rd 5) h) = L4 (S304_2 c r0) 0 4 5 6 := Eq.trans (seq_t (by kernel_rfl) (TS304_1 c r0) rfl) (by funext s h; kernel_rfl)
noncomputable def S304_3 (c : CF) (r0 : Nat → A3) (t0 t4 t5 t6 : AV) (h : Heap) : Res := opt (lenStr t0) fun t11 => opt (fastBin .lss t5 t11) fun t12 => test t12 (opt (fastCut t0 (some t5) none none) fun t15 => opt2 (c 263 [t15] h) fun t16 h1 => S304_2 c r0 t0 t4 t5 t16 h1) (S304_2 c r0 t0 t4 t5 t6 h)
theorem TS304_3 (c : CF) (r0 : Nat → A3) : (rk d304 P0 c 56 (c304.snd.bd.at_ 0).s2).1 k304 [] k304 (fun l s h => r0 l (s.rd 0) (s.rd 4) (s.rd 5) h) = L4 (S304_3 c r0) 0 4 5 6 := Eq.trans (seq_t (by kernel_rfl) (TS304_2 c r0) rfl) (by funext s h; kernel_rfl)
noncomputable def S304_4 (c : CF) (r0 : Nat → A3) (t0 t4 t5 : AV) (h : Heap) : Res := S304_3 c r0 t0 t4 t5 (iL 0) h
theorem TS304_4 (c : CF) (r0 : Nat → A3) : (rk d304 P0 c 56 (c304.snd.bd.at_ 0).snd).1 k304 [] k304 (fun l s h => r0 l (s.rd 0) (s.rd 4) (s.rd 5) h) = L3 (S304_4 c r0) 0 4 5 := Eq.trans (seq_t (by kernel_rfl) (TS304_3 c r0) rfl) (by funext s h; kernel_rfl)
noncomputable def S304_5L0_ (c : CF) (r0 : Nat → A3) (t0 t4 t5 : AV) (h : Heap) : Res := S304_4 c r0 t0 t4 t5 h
theorem TS304_5L0_ (c : CF) (r0 : Nat → A3) : (rk d304 P0 c 56 (c304.snd.bd.at_ 0)).1 k304 [] k304 (fun l s h => r0 l (s.rd 0) (s.rd 4) (s.rd 5) h) = L3 (S304_5L0_ c r0) 0 4 5 := Eq.trans (seq_t (by kernel_rfl) (TS304_4 c r0) rfl) (by funext s h; kernel_rfl)
noncomputable def S304_0g (c : CF) : Nat → Nat → A3
  | 0 => fun _ _ _ _ _ => none
  | k + 1 => fun l => match l with
    | 0 => S304_5L0_ c (S304_0g c k)
    | _ => fun _ _ _ _ => none
theorem TS304_0g (c : CF) : jumpK (fun l kg' => match (rk d304 P0 c 56 c304.snd.bd).2 l with | some f => some (f k304 [] k304 kg') | none => none) gK rounds = fun l s h => S304_0g c rounds l (s.rd 0) (s.rd 4) (s.rd 5) h := jump_ind (J := fun m => fun l s h => S304_0g c m l (s.rd 0) (s.rd 4) (s.rd 5) h) rfl (fun m l => match l with
    | 0 => by rw [show findLabel c304.snd.bd 0 = some (c304.snd.bd.at_ 0) by kernel_rfl]; exact TS304_5L0_ c (S304_0g c m)
    | l + 1 => by rw [show findLabel c304.snd.bd (l + 1) = none by kernel_rfl]; rfl) rounds
noncomputable def S304_6 (c : CF) (t0 t4 t5 t6 : AV) (h : Heap) : Res := opt (fastBin .add t5 t6) fun t37 => opt (fastCut t0 (some t5) (some t37) none) fun t38 => opt2 (bsliceX 1 eL 1 [(0,t38)] h) fun t39 h1 => opt2 (appendX 1 16 t4 t39 h1) fun t40 h2 => opt (fastBin .add t5 t6) fun t43 => opt (fastIndex t0 t43) fun t46 => opt (fastBin .eql t46 (uL 44)) fun t48 => test t48 (none) (opt (fastBin .eql t46 (uL 41)) fun t52 => test t52 (opt (fastBin .add t43 (iL 1)) fun t55 => some ((.tup [t40,t55]),h2)) (none))
theorem TS304_6 (c : CF) : (rk d304 P0 c 56 c304.snd.bd.s7).1 k304 [] k304 (fun l s h => S304_0g c rounds l (s.rd 0) (s.rd 4) (s.rd 5) h) = L4 (S304_6 c) 0 4 5 6 := by funext s h; kernel_rfl
noncomputable def S304_7 (c : CF) (t0 t4 t5 t6 : AV) (h : Heap) : Res := opt (fastBin .eql t6 (iL 0)) fun t18 => test t18 (none) (opt (fastBin .add t5 t6) fun t22 => opt (lenStr t0) fun t24 => opt (fastBin .geq t22 t24) fun t25 => test t25 (none) (opt (lenS t4) fun t29 => opt (fastBin .eql t29 (iL 6)) fun t30 => test t30 (none) (S304_6 c t0 t4 t5 t6 h)))
theorem TS304_7 (c : CF) : (rk d304 P0 c 56 c304.snd.bd.s6).1 k304 [] k304 (fun l s h => S304_0g c rounds l (s.rd 0) (s.rd 4) (s.rd 5) h) = L4 (S304_7 c) 0 4 5 6 := Eq.trans (seq_t (by kernel_rfl) (TS304_6 c) rfl) (by funext s h; kernel_rfl)
noncomputable def S304_8 (c : CF) (t0 t4 t5 t6 : AV) (h : Heap) : Res := opt (lenStr t0) fun t11 => opt (fastBin .lss t5 t11) fun t12 => test t12 (opt (fastCut t0 (some t5) none none) fun t15 => opt2 (c 263 [t15] h) fun t16 h1 => S304_7 c t0 t4 t5 t16 h1) (S304_7 c t0 t4 t5 t6 h)
theorem TS304_8 (c : CF) : (rk d304 P0 c 56 c304.snd.bd.s5).1 k304 [] k304 (fun l s h => S304_0g c rounds l (s.rd 0) (s.rd 4) (s.rd 5) h) = L4 (S304_8 c) 0 4 5 6 := Eq.trans (seq_t (by kernel_rfl) (TS304_7 c) rfl) (by funext s h; kernel_rfl)
noncomputable def S304_9 (c : CF) (t0 t4 t5 : AV) (h : Heap) : Res := S304_8 c t0 t4 t5 (iL 0) h
theorem TS304_9 (c : CF) : (rk d304 P0 c 56 c304.snd.bd.s4).1 k304 [] k304 (fun l s h => S304_0g c rounds l (s.rd 0) (s.rd 4) (s.rd 5) h) = L3 (S304_9 c) 0 4 5 := Eq.trans (seq_t (by kernel_rfl) (TS304_8 c) rfl) (by funext s h; kernel_rfl)
noncomputable def S304_10 (c : CF) (t0 t4 t5 : AV) (h : Heap) : Res := S304_9 c t0 t4 t5 h
theorem TS304_10 (c : CF) : (rk d304 P0 c 56 c304.snd.bd.s3).1 k304 [] k304 (fun l s h => S304_0g c rounds l (s.rd 0) (s.rd 4) (s.rd 5) h) = L3 (S304_10 c) 0 4 5 := Eq.trans (seq_t (by kernel_rfl) (TS304_9 c) rfl) (by funext s h; kernel_rfl)
noncomputable def S304_11 (c : CF) (t0 t4 t5 : AV) (h : Heap) : Res := opt2 (c 335 [t0,(sL [40,41])] h) fun t8 h1 => test t8 (some ((.tup [nL,(iL 2)]),h1)) (S304_10 c t0 t4 t5 h1)
theorem TS304_11 (c : CF) : (rk d304 P0 c 56 c304.snd.bd.s2).1 k304 [] k304 (fun l s h => S304_0g c rounds l (s.rd 0) (s.rd 4) (s.rd 5) h) = L3 (S304_11 c) 0 4 5 := Eq.trans (seq_t (by kernel_rfl) (TS304_10 c) rfl) (by funext s h; kernel_rfl)
noncomputable def S304_12 (c : CF) (t0 t4 : AV) (h : Heap) : Res := S304_11 c t0 t4 (iL 1) h
theorem TS304_12 (c : CF) : (rk d304 P0 c 56 c304.snd.bd.snd).1 k304 [] k304 (fun l s h => S304_0g c rounds l (s.rd 0) (s.rd 4) (s.rd 5) h) = L2 (S304_12 c) 0 4 := Eq.trans (seq_t (by kernel_rfl) (TS304_11 c) rfl) (by funext s h; kernel_rfl)
noncomputable def S304_13 (c : CF) (t0 : AV) (h : Heap) : Res := S304_12 c t0 nL h
theorem TS304_13 (c : CF) : (rk d304 P0 c 56 c304.snd).1 k304 [] k304 gK = L1 (S304_13 c) 0 := Eq.trans (scope_t (by kernel_rfl) (TS304_0g c) (seq_t (by kernel_rfl) (TS304_12 c) rfl)) (by funext s h; kernel_rfl)
noncomputable def F304 (c : CF) (a0 : AV) (h : Heap) : Res := S304_13 c a0 h
theorem TF304 (c : CF) (a0 : AV) (h : Heap) : (rk d304 P0 c 56 c304).1 k304 [] k304 gK (argsTr gl 0 [a0]) h = F304 c a0 h := Eq.trans (congrFun (congrFun (seq_t (by kernel_rfl) (TS304_13 c) rfl) _) _) (by kernel_rfl)
noncomputable def N304 : FnF := n1 F304
theorem N304_ok : FnOk P0 gl 304 N304 := n1_ok namesOk mixedOrders lowOk Tryz.func304 (by kernel_rfl) (by kernel_rfl) (by kernel_rfl) TF304
noncomputable def c306 : Code := codeOf Tryz.f306
noncomputable def k306 : Kt := finK P0 Tryz.f306.results.toList
def d306 : List Nat := []
noncomputable def F306 (c : CF) (a0 a1 : AV) (h : Heap) : Res := opt2 (box (.agg [(iL 0),eL,eL,nL]) h) fun t4 h1 => opt (nilCheckX a0) fun t10 => opt (fieldAddrX 0 t10) fun t11 => opt (loadX none t11 h1) fun t12 => opt2 (c 311 [t12,a1] h1) fun t14 h2 => opt (extractX t14 0) fun t15 => opt (extractX t14 1) fun t16 => opt2 (box (.agg [(iL 0),eL,eL,nL]) h2) fun t6 h3 => optH (storeX 4 t6 t15 h3) fun h4 => opt (loadX (some 4) t6 h4) fun t17 => eqH h4 h4 (test t16 (opt (nilCheckX a0) fun t21 => opt (fieldAddrX 1 t21) fun t22 => opt (loadX none t22 h4) fun t23 => eqH h4 h4 (opt2 (c 37 [t23,a1] h4) fun t25 h5 => eqH h5 h4 (opt (notX t25) fun t26 => optH (storeX 4 t4 t17 h4) fun h6 => opt (loadX (some 4) t4 h6) fun res => some ((.tup [res,t26]),h6)))) (optH (storeX 4 t4 t17 h4) fun h7 => opt (loadX (some 4) t4 h7) fun res_1 => some ((.tup [res_1,fL]),h7)))
theorem TF306 (c : CF) (a0 a1 : AV) (h : Heap) : (rk d306 P0 c 28 c306).1 k306 [] k306 gK (argsTr gl 0 [a0,a1]) h = F306 c a0 a1 h := by kernel_rfl
noncomputable def N306 : FnF := n2 F306
theorem N306_ok : FnOk P0 gl 306 N306 := n2_ok namesOk mixedOrders lowOk Tryz.func306 (by kernel_rfl) (by kernel_rfl) (by kernel_rfl) TF306
noncomputable def c307 : Code := codeOf Tryz.f307
noncomputable def k307 : Kt := finK P0 Tryz.f307.results.toList
def d307 : List Nat := [7,18]
noncomputable def S307_0 (c : CF) (t3 t4 : AV) (h : Heap) : Res := test t4 (none) (opt (fastBin .eql t3 (sL [99,117,116])) fun t11 => test t11 (some ((iL 3),h)) (opt (fastBin .eql t3 (sL [97,100,100])) fun t13 => test t13 (test t13 (some ((iL 2),h)) (none)) (opt (fastBin .eql t3 (sL [115,117,98])) fun t14 => test t14 (test t14 (some ((iL 2),h)) (none)) (opt (fastBin .eql t3 (sL [109,117,108])) fun t15 => test t15 (test t15 (some ((iL 2),h)) (none)) (opt (fastBin .eql t3 (sL [101,113])) fun t16 => test t16 (test t16 (some ((iL 2),h)) (none)) (opt (fastBin .eql t3 (sL [108,116])) fun t17 => test t17 (test t17 (some ((iL 2),h)) (none)) (opt (fastBin .eql t3 (sL [99,97,116])) fun t18 => test t18 (test t18 (some ((iL 2),h)) (none)) (opt (fastBin .eql t3 (sL [97,116])) fun t19 => test t19 (some ((iL 2),h)) (none)))))))))
theorem TS307_0 (c : CF) : (rk d307 P0 c 20 c307.snd.fst.snd.bd.snd).1 ((rk d307 P0 c 20 c307.s2).1 k307 [] k307 gK) [(0,((rk d307 P0 c 20 c307.s2).1 k307 [] k307 gK))] k307 gK = L2 (S307_0 c) 3 4 := by funext s h; kernel_rfl
noncomputable def S307_1 (c : CF) (t3 : AV) (h : Heap) : Res := opt (fastBin .eql t3 (sL [110,101,103])) fun t5 => test t5 (S307_0 c t3 t5 h) (opt (fastBin .eql t3 (sL [99,111,110,106])) fun t6 => test t6 (S307_0 c t3 t6 h) (opt (fastBin .eql t3 (sL [114,101])) fun t7 => test t7 (S307_0 c t3 t7 h) (opt (fastBin .eql t3 (sL [105,109])) fun t8 => test t8 (S307_0 c t3 t8 h) (opt (fastBin .eql t3 (sL [108,101,110])) fun t9 => S307_0 c t3 t9 h))))
theorem TS307_1 (c : CF) : (rk d307 P0 c 20 c307.snd.fst.snd).1 ((rk d307 P0 c 20 c307.s2).1 k307 [] k307 gK) [] k307 gK = L1 (S307_1 c) 3 := Eq.trans (block_t (id := 0) (by kernel_rfl) (seq_t (by kernel_rfl) (TS307_0 c) rfl)) (by funext s h; kernel_rfl)
noncomputable def S307_2 (c : CF) (t0 : AV) (h : Heap) : Res := S307_1 c t0 h
theorem TS307_2 (c : CF) : (rk d307 P0 c 20 c307.snd).1 k307 [] k307 gK = L1 (S307_2 c) 0 := Eq.trans (seq_t (by kernel_rfl) rfl (seq_t (by kernel_rfl) (TS307_1 c) rfl)) (by funext s h; kernel_rfl)
noncomputable def F307 (c : CF) (a0 : AV) (h : Heap) : Res := S307_2 c a0 h
theorem TF307 (c : CF) (a0 : AV) (h : Heap) : (rk d307 P0 c 20 c307).1 k307 [] k307 gK (argsTr gl 0 [a0]) h = F307 c a0 h := Eq.trans (congrFun (congrFun (seq_t (by kernel_rfl) (TS307_2 c) rfl) _) _) (by kernel_rfl)
noncomputable def N307 : FnF := n1 F307
theorem N307_ok : FnOk P0 gl 307 N307 := n1_ok namesOk mixedOrders lowOk Tryz.func307 (by kernel_rfl) (by kernel_rfl) (by kernel_rfl) TF307
noncomputable def c308 : Code := codeOf Tryz.f308
noncomputable def k308 : Kt := finK P0 Tryz.f308.results.toList
def d308 : List Nat := []
noncomputable def S308_0 (c : CF) (t5 : AV) (h : Heap) : Res := some (t5,h)
theorem TS308_0 (c : CF) : (rk d308 P0 c 26 c308.s3).1 k308 [] k308 gK = L1 (S308_0 c) 5 := by funext s h; kernel_rfl
noncomputable def S308_2b (c : CF) (r1 : A5) (t0 t5 t11 t12 t13 : AV) (h : Heap) : Res := opt (fastBin .lss t13 t12) fun t14 => test t14 (opt (indexAddrS 9 t11 t13 h) fun t16 => opt (loadX (some 9) t16 h) fun t17 => opt2 (box (.agg [(iL 0),(iL 0),eL,cL,eL,eL,nL,nL,nL]) h) fun t7 h1 => optH (storeX 9 t7 t17 h1) fun h2 => opt (loadX (some 9) t7 h2) fun t21 => opt2 (c 191 [t0,t21] h2) fun t22 h3 => opt (indexAddrS 1 t5 t13 h3) fun t23 => optH (storeX 1 t23 t22 h3) fun h4 => opt (fastBin .add t13 (iL 1)) fun t24 => r1 t0 t5 t11 t12 t24 h4) (S308_0 c t5 h)
theorem TS308_2b (c : CF) (r1 : A5) : (rk d308 P0 c 26 c308.s2.fst.snd.bd.bd).1 (L5 r1 0 5 11 12 13) [(0,(L1 (S308_0 c) 5))] k308 gK = L5 (S308_2b c r1) 0 5 11 12 13 := by funext s h; kernel_rfl
noncomputable def S308_1l (c : CF) : Nat → A5
  | 0 => fun _ _ _ _ _ _ => none
  | k + 1 => S308_2b c (S308_1l c k)
theorem TS308_1l (c : CF) : (rk d308 P0 c 26 c308.s2.fst.snd.bd).1 (L1 (S308_0 c) 5) [(0,(L1 (S308_0 c) 5))] k308 gK = L5 (S308_1l c rounds) 0 5 11 12 13 := loop_t (by kernel_rfl) (loop_ind (A := fun m => L5 (S308_1l c m) 0 5 11 12 13) rfl (fun m => TS308_2b c (S308_1l c m)) rounds)
noncomputable def S308_3 (c : CF) (t0 t5 t11 t12 t13 : AV) (h : Heap) : Res := S308_1l c rounds t0 t5 t11 t12 t13 h
theorem TS308_3 (c : CF) : (rk d308 P0 c 26 c308.s2.fst.snd).1 (L1 (S308_0 c) 5) [] k308 gK = L5 (S308_3 c) 0 5 11 12 13 := Eq.trans (block_t (id := 0) (by kernel_rfl) (TS308_1l c)) (by funext s h; kernel_rfl)
noncomputable def S308_4 (c : CF) (t0 t1 t5 : AV) (h : Heap) : Res := opt (lenS t1) fun t12 => S308_3 c t0 t5 t1 t12 (iL 0) h
theorem TS308_4 (c : CF) : (rk d308 P0 c 26 c308.s2).1 k308 [] k308 gK = L3 (S308_4 c) 0 1 5 := Eq.trans (seq_t (by kernel_rfl) (TS308_0 c) (seq_t (by kernel_rfl) (TS308_3 c) rfl)) (by funext s h; kernel_rfl)
noncomputable def S308_5 (c : CF) (t0 t1 : AV) (h : Heap) : Res := opt (lenS t1) fun t9 => opt2 (mksliceX 1 eL 16 t9 t9 h) fun t10 h1 => S308_4 c t0 t1 t10 h1
theorem TS308_5 (c : CF) : (rk d308 P0 c 26 c308.snd).1 k308 [] k308 gK = L2 (S308_5 c) 0 1 := Eq.trans (seq_t (by kernel_rfl) (TS308_4 c) rfl) (by funext s h; kernel_rfl)
noncomputable def F308 (c : CF) (a0 a1 : AV) (h : Heap) : Res := S308_5 c a0 a1 h
theorem TF308 (c : CF) (a0 a1 : AV) (h : Heap) : (rk d308 P0 c 26 c308).1 k308 [] k308 gK (argsTr gl 0 [a0,a1]) h = F308 c a0 a1 h := Eq.trans (congrFun (congrFun (seq_t (by kernel_rfl) (TS308_5 c) rfl) _) _) (by kernel_rfl)
noncomputable def N308 : FnF := n2 F308
theorem N308_ok : FnOk P0 gl 308 N308 := n2_ok namesOk mixedOrders lowOk Tryz.func308 (by kernel_rfl) (by kernel_rfl) (by kernel_rfl) TF308
noncomputable def c309 : Code := codeOf Tryz.f309
noncomputable def k309 : Kt := finK P0 Tryz.f309.results.toList
def d309 : List Nat := [12,13,14,16,17,18,20,21,22,25,28,35]
noncomputable def S309_0 (c : CF) (t11 : AV) (h : Heap) : Res := some ((.tup [t11,(iL (-1))]),h)
theorem TS309_0 (c : CF) : (rk d309 P0 c 120 c309.s8).1 k309 [] k309 gK = L1 (S309_0 c) 11 := by funext s h; kernel_rfl
noncomputable def S309_2b (c : CF) (r1 : A5) (t1 t6 t11 t104 t105 : AV) (h : Heap) : Res := opt (fastBin .lss t105 t104) fun t106 => test t106 (opt (indexAddrS 1 t1 t105 h) fun t110 => eqH h h (opt (loadX none t110 h) fun t111 => eqH h h (opt (indexAddrS 1 t6 t105 h) fun t114 => eqH h h (opt (loadX none t114 h) fun t115 => eqH h h (opt (fastBin .neq t111 t115) fun t116 => test t116 (none) (opt (fastBin .add t105 (iL 1)) fun t118 => r1 t1 t6 t11 t104 t118 h)))))) (S309_0 c t11 h)
theorem TS309_2b (c : CF) (r1 : A5) : (rk d309 P0 c 120 c309.s7.fst.snd.bd.bd).1 (L5 r1 1 6 11 104 105) [(3,(L1 (S309_0 c) 11))] k309 gK = L5 (S309_2b c r1) 1 6 11 104 105 := by funext s h; kernel_rfl
noncomputable def S309_1l (c : CF) : Nat → A5
  | 0 => fun _ _ _ _ _ _ => none
  | k + 1 => S309_2b c (S309_1l c k)
theorem TS309_1l (c : CF) : (rk d309 P0 c 120 c309.s7.fst.snd.bd).1 (L1 (S309_0 c) 11) [(3,(L1 (S309_0 c) 11))] k309 gK = L5 (S309_1l c rounds) 1 6 11 104 105 := loop_t (by kernel_rfl) (loop_ind (A := fun m => L5 (S309_1l c m) 1 6 11 104 105) rfl (fun m => TS309_2b c (S309_1l c m)) rounds)
noncomputable def S309_3 (c : CF) (t1 t6 t11 t104 t105 : AV) (h : Heap) : Res := S309_1l c rounds t1 t6 t11 t104 t105 h
theorem TS309_3 (c : CF) : (rk d309 P0 c 120 c309.s7.fst.snd).1 (L1 (S309_0 c) 11) [] k309 gK = L5 (S309_3 c) 1 6 11 104 105 := Eq.trans (block_t (id := 3) (by kernel_rfl) (TS309_1l c)) (by funext s h; kernel_rfl)
noncomputable def S309_4 (c : CF) (t1 t6 t11 : AV) (h : Heap) : Res := opt (lenS t1) fun t104 => S309_3 c t1 t6 t11 t104 (iL 0) h
theorem TS309_4 (c : CF) : (rk d309 P0 c 120 c309.s7).1 k309 [] k309 gK = L3 (S309_4 c) 1 6 11 := Eq.trans (seq_t (by kernel_rfl) (TS309_0 c) (seq_t (by kernel_rfl) (TS309_3 c) rfl)) (by funext s h; kernel_rfl)
noncomputable def S309_5 (c : CF) (t0 t1 t6 t9 t10 t11 : AV) (h : Heap) : Res := opt (fastBin .eql t0 (sL [101,113])) fun t41 => test t41 (none) (opt (fastBin .eql t0 (sL [99,97,116])) fun t63 => test t63 (none) (opt (fastBin .eql t0 (sL [108,101,110])) fun t80 => test t80 (none) (opt (fastBin .eql t0 (sL [97,116])) fun t89 => test t89 (opt (notX t10) fun t91 => test t91 (none) (opt (indexAddrS 1 t1 (iL 0) h) fun t94 => opt (loadX none t94 h) fun t95 => opt (indexAddrS 1 t6 (iL 0) h) fun t96 => optH (storeX 1 t96 t95 h) fun h1 => test t9 (none) (S309_4 c t1 t6 t11 h1))) (opt (fastBin .eql t0 (sL [99,117,116])) fun t100 => test t100 (opt (indexAddrS 1 t6 (iL 0) h) fun t102 => optH (storeX 1 t102 (sL [98,121,116,101,115]) h) fun h2 => S309_4 c t1 t6 (sL [98,121,116,101,115]) h2) (S309_4 c t1 t6 t11 h)))))
theorem TS309_5 (c : CF) : (rk d309 P0 c 120 c309.s6).1 k309 [] k309 gK = L6 (S309_5 c) 0 1 6 9 10 11 := Eq.trans (seq_t (by kernel_rfl) (TS309_4 c) rfl) (by funext s h; kernel_rfl)
noncomputable def S309_6 (c : CF) (t0 t1 t6 t9 t10 : AV) (h : Heap) : Res := S309_5 c t0 t1 t6 t9 t10 (sL [110,117,109]) h
theorem TS309_6 (c : CF) : (rk d309 P0 c 120 c309.s5).1 k309 [] k309 gK = L5 (S309_6 c) 0 1 6 9 10 := Eq.trans (seq_t (by kernel_rfl) (TS309_5 c) rfl) (by funext s h; kernel_rfl)
noncomputable def S309_7 (c : CF) (t0 t1 t6 t9 : AV) (h : Heap) : Res := test t9 (S309_6 c t0 t1 t6 t9 tL h) (opt (indexAddrS 1 t1 (iL 0) h) fun t35 => opt (loadX none t35 h) fun t36 => opt (fastBin .eql t36 (sL [98,121,116,101,115])) fun t37 => S309_6 c t0 t1 t6 t9 t37 h)
theorem TS309_7 (c : CF) : (rk d309 P0 c 120 c309.s4).1 k309 [] k309 gK = L4 (S309_7 c) 0 1 6 9 := Eq.trans (seq_t (by kernel_rfl) (TS309_6 c) rfl) (by funext s h; kernel_rfl)
noncomputable def S309_8 (c : CF) (t0 t1 t6 : AV) (h : Heap) : Res := opt (indexAddrS 1 t1 (iL 0) h) fun t27 => opt (loadX none t27 h) fun t28 => opt2 (c 119 [t28] h) fun t29 h1 => opt (extractX t29 0) fun t30 => opt (extractX t29 1) fun t31 => S309_7 c t0 t1 t6 t31 h1
theorem TS309_8 (c : CF) : (rk d309 P0 c 120 c309.s3).1 k309 [] k309 gK = L3 (S309_8 c) 0 1 6 := Eq.trans (seq_t (by kernel_rfl) (TS309_7 c) rfl) (by funext s h; kernel_rfl)
noncomputable def S309_10b (c : CF) (r9 : A5) (t0 t1 t6 t17 t18 : AV) (h : Heap) : Res := opt (fastBin .lss t18 t17) fun t19 => test t19 (opt (indexAddrS 1 t6 t18 h) fun t23 => optH (storeX 1 t23 (sL [110,117,109]) h) fun h1 => opt (fastBin .add t18 (iL 1)) fun t24 => r9 t0 t1 t6 t17 t24 h1) (S309_8 c t0 t1 t6 h)
theorem TS309_10b (c : CF) (r9 : A5) : (rk d309 P0 c 120 c309.s2.fst.snd.bd.bd).1 (L5 r9 0 1 6 17 18) [(0,(L3 (S309_8 c) 0 1 6))] k309 gK = L5 (S309_10b c r9) 0 1 6 17 18 := by funext s h; kernel_rfl
noncomputable def S309_9l (c : CF) : Nat → A5
  | 0 => fun _ _ _ _ _ _ => none
  | k + 1 => S309_10b c (S309_9l c k)
theorem TS309_9l (c : CF) : (rk d309 P0 c 120 c309.s2.fst.snd.bd).1 (L3 (S309_8 c) 0 1 6) [(0,(L3 (S309_8 c) 0 1 6))] k309 gK = L5 (S309_9l c rounds) 0 1 6 17 18 := loop_t (by kernel_rfl) (loop_ind (A := fun m => L5 (S309_9l c m) 0 1 6 17 18) rfl (fun m => TS309_10b c (S309_9l c m)) rounds)
noncomputable def S309_11 (c : CF) (t0 t1 t6 t17 t18 : AV) (h : Heap) : Res := S309_9l c rounds t0 t1 t6 t17 t18 h
theorem TS309_11 (c : CF) : (rk d309 P0 c 120 c309.s2.fst.snd).1 (L3 (S309_8 c) 0 1 6) [] k309 gK = L5 (S309_11 c) 0 1 6 17 18 := Eq.trans (block_t (id := 0) (by kernel_rfl) (TS309_9l c)) (by funext s h; kernel_rfl)
noncomputable def S309_12 (c : CF) (t0 t1 t6 : AV) (h : Heap) : Res := opt (lenS t6) fun t17 => S309_11 c t0 t1 t6 t17 (iL 0) h
theorem TS309_12 (c : CF) : (rk d309 P0 c 120 c309.s2).1 k309 [] k309 gK = L3 (S309_12 c) 0 1 6 := Eq.trans (seq_t (by kernel_rfl) (TS309_8 c) (seq_t (by kernel_rfl) (TS309_11 c) rfl)) (by funext s h; kernel_rfl)
noncomputable def S309_13 (c : CF) (t0 t1 : AV) (h : Heap) : Res := opt (lenS t1) fun t14 => opt2 (mksliceX 1 eL 16 t14 t14 h) fun t15 h1 => S309_12 c t0 t1 t15 h1
theorem TS309_13 (c : CF) : (rk d309 P0 c 120 c309.snd).1 k309 [] k309 gK = L2 (S309_13 c) 0 1 := Eq.trans (seq_t (by kernel_rfl) (TS309_12 c) rfl) (by funext s h; kernel_rfl)
noncomputable def F309 (c : CF) (a0 a1 : AV) (h : Heap) : Res := S309_13 c a0 a1 h
theorem TF309 (c : CF) (a0 a1 : AV) (h : Heap) : (rk d309 P0 c 120 c309).1 k309 [] k309 gK (argsTr gl 0 [a0,a1]) h = F309 c a0 a1 h := Eq.trans (congrFun (congrFun (seq_t (by kernel_rfl) (TS309_13 c) rfl) _) _) (by kernel_rfl)
noncomputable def N309 : FnF := n2 F309
theorem N309_ok : FnOk P0 gl 309 N309 := n2_ok namesOk mixedOrders lowOk Tryz.func309 (by kernel_rfl) (by kernel_rfl) (by kernel_rfl) TF309
noncomputable def c310 : Code := codeOf Tryz.f310
noncomputable def k310 : Kt := finK P0 Tryz.f310.results.toList
def d310 : List Nat := []
noncomputable def S310_1b (c : CF) (r0 : A6) (t0 t2 t3 t10 t11 t12 : AV) (h : Heap) : Res := opt (fastBin .lss t12 t11) fun t13 => test t13 (opt (indexAddrS 9 t10 t12 h) fun t15 => opt (loadX (some 9) t15 h) fun t16 => opt2 (box (.agg [(iL 0),(iL 0),eL,cL,eL,eL,nL,nL,nL]) h) fun t9 h1 => optH (storeX 9 t9 t16 h1) fun h2 => opt (indexAddrS 1 t2 t12 h2) fun t20 => eqH h2 h2 (opt (loadX none t20 h2) fun t21 => eqH h2 h2 (opt (indexAddrS 1 t3 t12 h2) fun t24 => eqH h2 h2 (opt (loadX none t24 h2) fun t25 => eqH h2 h2 (opt (fastBin .eql t21 t25) fun t26 => opt (loadX (some 9) t9 h2) fun t27 => eqH h2 h2 (opt2 (c 257 [t0,t26,(iL 17),t27] h2) fun t28 h3 => opt (fastBin .add t12 (iL 1)) fun t29 => r0 t0 t2 t3 t10 t11 t29 h3)))))) (some ((.lit (.tuple #[])),h))
theorem TS310_1b (c : CF) (r0 : A6) : (rk d310 P0 c 30 c310.snd.bd.bd).1 (L6 r0 0 2 3 10 11 12) [(0,k310)] k310 gK = L6 (S310_1b c r0) 0 2 3 10 11 12 := by funext s h; kernel_rfl
noncomputable def S310_0l (c : CF) : Nat → A6
  | 0 => fun _ _ _ _ _ _ _ => none
  | k + 1 => S310_1b c (S310_0l c k)
theorem TS310_0l (c : CF) : (rk d310 P0 c 30 c310.snd.bd).1 k310 [(0,k310)] k310 gK = L6 (S310_0l c rounds) 0 2 3 10 11 12 := loop_t (by kernel_rfl) (loop_ind (A := fun m => L6 (S310_0l c m) 0 2 3 10 11 12) rfl (fun m => TS310_1b c (S310_0l c m)) rounds)
noncomputable def S310_2 (c : CF) (t0 t2 t3 t10 t11 t12 : AV) (h : Heap) : Res := S310_0l c rounds t0 t2 t3 t10 t11 t12 h
theorem TS310_2 (c : CF) : (rk d310 P0 c 30 c310.snd).1 k310 [] k310 gK = L6 (S310_2 c) 0 2 3 10 11 12 := Eq.trans (block_t (id := 0) (by kernel_rfl) (TS310_0l c)) (by funext s h; kernel_rfl)
noncomputable def F310 (c : CF) (a0 a1 a2 a3 : AV) (h : Heap) : Res := opt (lenS a1) fun t11 => S310_2 c a0 a2 a3 a1 t11 (iL 0) h
theorem TF310 (c : CF) (a0 a1 a2 a3 : AV) (h : Heap) : (rk d310 P0 c 30 c310).1 k310 [] k310 gK (argsTr gl 0 [a0,a1,a2,a3]) h = F310 c a0 a1 a2 a3 h := Eq.trans (congrFun (congrFun (seq_t (by kernel_rfl) (TS310_2 c) rfl) _) _) (by kernel_rfl)
noncomputable def N310 : FnF := n4 F310
theorem N310_ok : FnOk P0 gl 310 N310 := n4_ok namesOk mixedOrders lowOk Tryz.func310 (by kernel_rfl) (by kernel_rfl) (by kernel_rfl) TF310
noncomputable def c311 : Code := codeOf Tryz.f311
noncomputable def k311 : Kt := finK P0 Tryz.f311.results.toList
def d311 : List Nat := []
noncomputable def F311 (c : CF) (a0 a1 : AV) (h : Heap) : Res := opt2 (box (.agg [(iL 0),eL,eL,nL]) h) fun t4 h1 => opt (nilCheckX a0) fun t10 => opt (fieldAddrX 0 t10) fun t11 => opt (loadX none t11 h1) fun t12 => opt (lookupX .str (.agg [(iL 0),eL,eL,nL]) t12 a1 true h1) fun t14 => opt (extractX t14 0) fun t15 => opt (extractX t14 1) fun t16 => opt2 (box (.agg [(iL 0),eL,eL,nL]) h1) fun t6 h2 => optH (storeX 4 t6 t15 h2) fun h3 => opt (loadX (some 4) t6 h3) fun t17 => optH (storeX 4 t4 t17 h3) fun h4 => opt (loadX (some 4) t4 h4) fun res => some ((.tup [res,t16]),h4)
theorem TF311 (c : CF) (a0 a1 : AV) (h : Heap) : (rk d311 P0 c 19 c311).1 k311 [] k311 gK (argsTr gl 0 [a0,a1]) h = F311 c a0 a1 h := by kernel_rfl
noncomputable def N311 : FnF := n2 F311
theorem N311_ok : FnOk P0 gl 311 N311 := n2_ok namesOk mixedOrders lowOk Tryz.func311 (by kernel_rfl) (by kernel_rfl) (by kernel_rfl) TF311
noncomputable def c316 : Code := codeOf Tryz.f316
noncomputable def k316 : Kt := finK P0 Tryz.f316.results.toList
def d316 : List Nat := []
noncomputable def F316 (c : CF) (a0 : AV) (h : Heap) : Res := opt (fastBin .eql a0 (sL [110,117,109])) fun t4 => test t4 (some (tL,h)) (opt (fastBin .eql a0 (sL [98,121,116,101,115])) fun t7 => some (t7,h))
theorem TF316 (c : CF) (a0 : AV) (h : Heap) : (rk d316 P0 c 9 c316).1 k316 [] k316 gK (argsTr gl 0 [a0]) h = F316 c a0 h := by kernel_rfl
noncomputable def N316 : FnF := n1 F316
theorem N316_ok : FnOk P0 gl 316 N316 := n1_ok namesOk mixedOrders lowOk Tryz.func316 (by kernel_rfl) (by kernel_rfl) (by kernel_rfl) TF316
noncomputable def c318 : Code := codeOf Tryz.f318
noncomputable def k318 : Kt := finK P0 Tryz.f318.results.toList
def d318 : List Nat := []
noncomputable def F318 (c : CF) (a0 a1 : AV) (h : Heap) : Res := opt2 (c 199 [a0,a1] h) fun t7 h1 => some (t7,h1)
theorem TF318 (c : CF) (a0 a1 : AV) (h : Heap) : (rk d318 P0 c 8 c318).1 k318 [] k318 gK (argsTr gl 0 [a0,a1]) h = F318 c a0 a1 h := by kernel_rfl
noncomputable def N318 : FnF := n2 F318
theorem N318_ok : FnOk P0 gl 318 N318 := n2_ok namesOk mixedOrders lowOk Tryz.func318 (by kernel_rfl) (by kernel_rfl) (by kernel_rfl) TF318
noncomputable def c325 : Code := codeOf Tryz.f325
noncomputable def k325 : Kt := finK P0 Tryz.f325.results.toList
def d325 : List Nat := [2]
noncomputable def F325 (c : CF) (a0 a1 : AV) (h : Heap) : Res := opt (lenStr a0) fun t8 => opt (fastBin .gtr t8 (iL 200)) fun t9 => test t9 (none) (some ((.tup [a0,(iL 0),(iL 0)]),h))
theorem TF325 (c : CF) (a0 a1 : AV) (h : Heap) : (rk d325 P0 c 12 c325).1 k325 [] k325 gK (argsTr gl 0 [a0,a1]) h = F325 c a0 a1 h := by kernel_rfl
noncomputable def N325 : FnF := n2 F325
theorem N325_ok : FnOk P0 gl 325 N325 := n2_ok namesOk mixedOrders lowOk Tryz.func325 (by kernel_rfl) (by kernel_rfl) (by kernel_rfl) TF325
noncomputable def c331 : Code := codeOf Tryz.f331
noncomputable def k331 : Kt := finK P0 Tryz.f331.results.toList
def d331 : List Nat := []
noncomputable def F331 (c : CF) (a0 a1 : AV) (h : Heap) : Res := opt (convX P0 2 99 a0 h) fun t6 => opt (convX P0 2 99 a1 h) fun t8 => opt (litBi P0 .complex [99,99] 23 [false,false] [t6,t8]) fun t9 => some (t9,h)
theorem TF331 (c : CF) (a0 a1 : AV) (h : Heap) : (rk d331 P0 c 10 c331).1 k331 [] k331 gK (argsTr gl 0 [a0,a1]) h = F331 c a0 a1 h := by kernel_rfl
noncomputable def N331 : FnF := n2 F331
theorem N331_ok : FnOk P0 gl 331 N331 := n2_ok namesOk mixedOrders lowOk Tryz.func331 (by kernel_rfl) (by kernel_rfl) (by kernel_rfl) TF331
noncomputable def c335 : Code := codeOf Tryz.f335
noncomputable def k335 : Kt := finK P0 Tryz.f335.results.toList
def d335 : List Nat := []
noncomputable def F335 (c : CF) (a0 a1 : AV) (h : Heap) : Res := opt2 (c 346 [a0,a1] h) fun t7 h1 => some (t7,h1)
theorem TF335 (c : CF) (a0 a1 : AV) (h : Heap) : (rk d335 P0 c 8 c335).1 k335 [] k335 gK (argsTr gl 0 [a0,a1]) h = F335 c a0 a1 h := by kernel_rfl
noncomputable def N335 : FnF := n2 F335
theorem N335_ok : FnOk P0 gl 335 N335 := n2_ok namesOk mixedOrders lowOk Tryz.func335 (by kernel_rfl) (by kernel_rfl) (by kernel_rfl) TF335
noncomputable def c346 : Code := codeOf Tryz.f346
noncomputable def k346 : Kt := finK P0 Tryz.f346.results.toList
def d346 : List Nat := []
noncomputable def F346 (c : CF) (a0 a1 : AV) (h : Heap) : Res := opt (lenStr a0) fun t6 => opt (lenStr a1) fun t8 => opt (fastBin .geq t6 t8) fun t9 => test t9 (opt (lenStr a1) fun t13 => opt (fastCut a0 none (some t13) none) fun t14 => opt (fastBin .eql t14 a1) fun t16 => some (t16,h)) (some (fL,h))
theorem TF346 (c : CF) (a0 a1 : AV) (h : Heap) : (rk d346 P0 c 18 c346).1 k346 [] k346 gK (argsTr gl 0 [a0,a1]) h = F346 c a0 a1 h := by kernel_rfl
noncomputable def N346 : FnF := n2 F346
theorem N346_ok : FnOk P0 gl 346 N346 := n2_ok namesOk mixedOrders lowOk Tryz.func346 (by kernel_rfl) (by kernel_rfl) (by kernel_rfl) TF346
end Go.Proofs.YtomjidlkaocmkaaGreat
