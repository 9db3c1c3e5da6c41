import Derived.Test.YtkkjoomlfmofbaaGreatDoorG111
set_option linter.unusedSectionVars false
namespace Go.Proofs.YtkkjoomlfmofbaaGreatDoor
open Go.Am
set_option maxRecDepth 100000
set_option linter.unusedSimpArgs false
set_option linter.unusedVariables false
noncomputable def c329 : Code := codeOf Tryz.f329
noncomputable def k329 : Kt := finK P0 Tryz.f329.results.toList
def d329 : List Nat := [6]
noncomputable def S329_0 (c : CF) (h : Heap) : Res := some ((.tup [(iL 0),(iL 0)]),h)
theorem TS329_0 (c : CF) : (rk d329 P0 c 25 c329.s2).1 k329 [] k329 gK = L0 (S329_0 c) := by funext s h; kernel_rfl
noncomputable def S329_2b (c : CF) (r1 : A4) (t1 t9 t10 t11 : AV) (h : Heap) : Res := opt (fastBin .lss t11 t10) fun t12 => test t12 (opt (indexAddrS 5 t9 t11 h) fun t14 => opt (loadX (some 5) t14 h) fun t15 => opt2 (box (.agg [eL,(iL 0),eL,eL,nL]) h) fun t7 h1 => optH (storeX 5 t7 t15 h1) fun h2 => opt (loadX (some 5) t7 h2) fun t18 => opt2 (callV P0 c t1 [t11,t18] h2) fun t19 h3 => opt (fastBin .neq t19 (iL 0)) fun t21 => test t21 (none) (opt (fastBin .add t11 (iL 1)) fun t24 => r1 t1 t9 t10 t24 h3)) (S329_0 c h)
theorem TS329_2b (c : CF) (r1 : A4) : (rk d329 P0 c 25 c329.snd.fst.snd.bd.bd).1 (L4 r1 1 9 10 11) [(0,(L0 (S329_0 c)))] k329 gK = L4 (S329_2b c r1) 1 9 10 11 := by funext s h; kernel_rfl
noncomputable def S329_1l (c : CF) : Nat → A4
  | 0 => fun _ _ _ _ _ => none
  | k + 1 => S329_2b c (S329_1l c k)
theorem TS329_1l (c : CF) : (rk d329 P0 c 25 c329.snd.fst.snd.bd).1 (L0 (S329_0 c)) [(0,(L0 (S329_0 c)))] k329 gK = L4 (S329_1l c rounds) 1 9 10 11 := loop_t (by kernel_rfl) (loop_ind (A := fun m => L4 (S329_1l c m) 1 9 10 11) rfl (fun m => TS329_2b c (S329_1l c m)) rounds)
noncomputable def S329_3 (c : CF) (t1 t9 t10 t11 : AV) (h : Heap) : Res := S329_1l c rounds t1 t9 t10 t11 h
theorem TS329_3 (c : CF) : (rk d329 P0 c 25 c329.snd.fst.snd).1 (L0 (S329_0 c)) [] k329 gK = L4 (S329_3 c) 1 9 10 11 := Eq.trans (block_t (id := 0) (by kernel_rfl) (TS329_1l c)) (by funext s h; kernel_rfl)
noncomputable def S329_4 (c : CF) (t0 t1 : AV) (h : Heap) : Res := opt (lenS t0) fun t10 => S329_3 c t1 t0 t10 (iL 0) h
theorem TS329_4 (c : CF) : (rk d329 P0 c 25 c329.snd).1 k329 [] k329 gK = L2 (S329_4 c) 0 1 := Eq.trans (seq_t (by kernel_rfl) (TS329_0 c) (seq_t (by kernel_rfl) (TS329_3 c) rfl)) (by funext s h; kernel_rfl)
noncomputable def F329 (c : CF) (a0 a1 : AV) (h : Heap) : Res := S329_4 c a0 a1 h
theorem TF329 (c : CF) (a0 a1 : AV) (h : Heap) : (rk d329 P0 c 25 c329).1 k329 [] k329 gK (argsTr gl 0 [a0,a1]) h = F329 c a0 a1 h := Eq.trans (congrFun (congrFun (seq_t (by kernel_rfl) (TS329_4 c) rfl) _) _) (by kernel_rfl)
noncomputable def N329 : FnF := n2 F329
theorem N329_ok [Nu] : FnOk P0 gl 329 N329 := n2_ok namesOk mixedOrders lowOk Tryz.func329 (by kernel_rfl) (by kernel_rfl) (by kernel_rfl) TF329
noncomputable def c331 : Code := codeOf Tryz.f331
noncomputable def k331 : Kt := finK P0 Tryz.f331.results.toList
def d331 : List Nat := []
noncomputable def F331 (c : CF) (a0 a1 : AV) (h : Heap) : Res := opt (fieldAddrX 7 a0) fun t4 => opt (loadX none t4 h) fun t5 => opt (loadX none a1 h) fun t6 => opt2 (c 332 [t5,(.fn (.func 333) [t6] [])] h) fun t8 h1 => opt (extractX t8 0) fun t9 => opt (extractX t8 1) fun t10 => some ((.tup [t9,t10]),h1)
theorem TF331 (c : CF) (a0 a1 : AV) (h : Heap) : (rk d331 P0 c 11 c331).1 k331 [] k331 gK (argsTr gl 0 [a0,a1]) h = F331 c a0 a1 h := by kernel_rfl
noncomputable def N331 : FnF := n2 F331
theorem N331_ok [Nu] : FnOk P0 gl 331 N331 := n2_ok namesOk mixedOrders lowOk Tryz.func331 (by kernel_rfl) (by kernel_rfl) (by kernel_rfl) TF331
noncomputable def c332 : Code := codeOf Tryz.f332
noncomputable def k332 : Kt := finK P0 Tryz.f332.results.toList
def d332 : List Nat := [6]
noncomputable def S332_0 (c : CF) (h : Heap) : Res := some ((.tup [(iL 0),(iL 0)]),h)
theorem TS332_0 (c : CF) : (rk d332 P0 c 25 c332.s2).1 k332 [] k332 gK = L0 (S332_0 c) := by funext s h; kernel_rfl
noncomputable def S332_2b (c : CF) (r1 : A4) (t1 t9 t10 t11 : AV) (h : Heap) : Res := opt (fastBin .lss t11 t10) fun t12 => test t12 (opt (indexAddrS 3 t9 t11 h) fun t14 => opt (loadX (some 3) t14 h) fun t15 => opt2 (box (.agg [(iL 0),(iL 0),(iL 0)]) h) fun t7 h1 => optH (storeX 3 t7 t15 h1) fun h2 => opt (loadX (some 3) t7 h2) fun t18 => opt2 (callV P0 c t1 [t11,t18] h2) fun t19 h3 => opt (fastBin .neq t19 (iL 0)) fun t21 => test t21 (none) (opt (fastBin .add t11 (iL 1)) fun t24 => r1 t1 t9 t10 t24 h3)) (S332_0 c h)
theorem TS332_2b (c : CF) (r1 : A4) : (rk d332 P0 c 25 c332.snd.fst.snd.bd.bd).1 (L4 r1 1 9 10 11) [(0,(L0 (S332_0 c)))] k332 gK = L4 (S332_2b c r1) 1 9 10 11 := by funext s h; kernel_rfl
noncomputable def S332_1l (c : CF) : Nat → A4
  | 0 => fun _ _ _ _ _ => none
  | k + 1 => S332_2b c (S332_1l c k)
theorem TS332_1l (c : CF) : (rk d332 P0 c 25 c332.snd.fst.snd.bd).1 (L0 (S332_0 c)) [(0,(L0 (S332_0 c)))] k332 gK = L4 (S332_1l c rounds) 1 9 10 11 := loop_t (by kernel_rfl) (loop_ind (A := fun m => L4 (S332_1l c m) 1 9 10 11) rfl (fun m => TS332_2b c (S332_1l c m)) rounds)
noncomputable def S332_3 (c : CF) (t1 t9 t10 t11 : AV) (h : Heap) : Res := S332_1l c rounds t1 t9 t10 t11 h
theorem TS332_3 (c : CF) : (rk d332 P0 c 25 c332.snd.fst.snd).1 (L0 (S332_0 c)) [] k332 gK = L4 (S332_3 c) 1 9 10 11 := Eq.trans (block_t (id := 0) (by kernel_rfl) (TS332_1l c)) (by funext s h; kernel_rfl)
noncomputable def S332_4 (c : CF) (t0 t1 : AV) (h : Heap) : Res := opt (lenS t0) fun t10 => S332_3 c t1 t0 t10 (iL 0) h
theorem TS332_4 (c : CF) : (rk d332 P0 c 25 c332.snd).1 k332 [] k332 gK = L2 (S332_4 c) 0 1 := Eq.trans (seq_t (by kernel_rfl) (TS332_0 c) (seq_t (by kernel_rfl) (TS332_3 c) rfl)) (by funext s h; kernel_rfl)
noncomputable def F332 (c : CF) (a0 a1 : AV) (h : Heap) : Res := S332_4 c a0 a1 h
theorem TF332 (c : CF) (a0 a1 : AV) (h : Heap) : (rk d332 P0 c 25 c332).1 k332 [] k332 gK (argsTr gl 0 [a0,a1]) h = F332 c a0 a1 h := Eq.trans (congrFun (congrFun (seq_t (by kernel_rfl) (TS332_4 c) rfl) _) _) (by kernel_rfl)
noncomputable def N332 : FnF := n2 F332
theorem N332_ok [Nu] : FnOk P0 gl 332 N332 := n2_ok namesOk mixedOrders lowOk Tryz.func332 (by kernel_rfl) (by kernel_rfl) (by kernel_rfl) TF332
noncomputable def c334 : Code := codeOf Tryz.f334
noncomputable def k334 : Kt := finK P0 Tryz.f334.results.toList
def d334 : List Nat := []
noncomputable def F334 (c : CF) (a0 a1 : AV) (h : Heap) : Res := opt2 (box a0 h) fun t2 h1 => opt (fieldAddrX 0 t2) fun t4 => opt (loadX none t4 h1) fun t5 => opt (convI .u64 a1) fun t7 => opt2 (c 219 [t5,t7] h1) fun t8 h2 => some ((.lit (.tuple #[])),h2)
theorem TF334 (c : CF) (a0 a1 : AV) (h : Heap) : (rk d334 P0 c 9 c334).1 k334 [] k334 gK (argsTr gl 0 [a0,a1]) h = F334 c a0 a1 h := by kernel_rfl
noncomputable def N334 : FnF := n2 F334
theorem N334_ok [Nu] : FnOk P0 gl 334 N334 := n2_ok namesOk mixedOrders lowOk Tryz.func334 (by kernel_rfl) (by kernel_rfl) (by kernel_rfl) TF334
noncomputable def c335 : Code := codeOf Tryz.f335
noncomputable def k335 : Kt := finK P0 Tryz.f335.results.toList
def d335 : List Nat := []
noncomputable def F335 (c : CF) (a0 a1 : AV) (h : Heap) : Res := opt (nilCheckX a0) fun t6 => opt (fieldAddrX 0 t6) fun t7 => opt (loadX none t7 h) fun t8 => opt2 (appendX 1 1 t8 a1 h) fun t10 h1 => opt (nilCheckX a0) fun t11 => opt (fieldAddrX 0 t11) fun t12 => optH (storeX 1 t12 t10 h1) fun h2 => some ((.lit (.tuple #[])),h2)
theorem TF335 (c : CF) (a0 a1 : AV) (h : Heap) : (rk d335 P0 c 13 c335).1 k335 [] k335 gK (argsTr gl 0 [a0,a1]) h = F335 c a0 a1 h := by kernel_rfl
noncomputable def N335 : FnF := n2 F335
theorem N335_ok [Nu] : FnOk P0 gl 335 N335 := n2_ok namesOk mixedOrders lowOk Tryz.func335 (by kernel_rfl) (by kernel_rfl) (by kernel_rfl) TF335
noncomputable def c336 : Code := codeOf Tryz.f336
noncomputable def k336 : Kt := finK P0 Tryz.f336.results.toList
def d336 : List Nat := [5,6,7,8,9,10,11,12,13,14,15,16,17,18,19,20,21,22,23,24,25,26,27,28,29,30]
noncomputable def S336_1b (c : CF) (r0 : A4) (t0 t1 t2 t4 : AV) (h : Heap) : Res := opt (fastBin .sub t2 t1) fun t23 => opt (fastBin .leq t23 (iL 12)) fun t25 => test t25 (opt2 (c 357 [t0,t1,t2,t4] h) fun t30 h1 => some ((.lit (.tuple #[])),h1)) (none)
theorem TS336_1b (c : CF) (r0 : A4) : (rk d336 P0 c 148 c336.s2.bd.bd).1 (L4 r0 0 1 2 4) [(0,k336)] k336 gK = L4 (S336_1b c r0) 0 1 2 4 := by funext s h; kernel_rfl
noncomputable def S336_0l (c : CF) : Nat → A4
  | 0 => fun _ _ _ _ _ => none
  | k + 1 => S336_1b c (S336_0l c k)
theorem TS336_0l (c : CF) : (rk d336 P0 c 148 c336.s2.bd).1 k336 [(0,k336)] k336 gK = L4 (S336_0l c rounds) 0 1 2 4 := loop_t (by kernel_rfl) (loop_ind (A := fun m => L4 (S336_0l c m) 0 1 2 4) rfl (fun m => TS336_1b c (S336_0l c m)) rounds)
noncomputable def S336_2 (c : CF) (t0 t1 t2 t4 : AV) (h : Heap) : Res := S336_0l c rounds t0 t1 t2 t4 h
theorem TS336_2 (c : CF) : (rk d336 P0 c 148 c336.s2).1 k336 [] k336 gK = L4 (S336_2 c) 0 1 2 4 := Eq.trans (block_t (id := 0) (by kernel_rfl) (TS336_0l c)) (by funext s h; kernel_rfl)
noncomputable def S336_3 (c : CF) (t0 t1 t2 t4 : AV) (h : Heap) : Res := S336_2 c t0 t1 t2 t4 h
theorem TS336_3 (c : CF) : (rk d336 P0 c 148 c336.snd).1 k336 [] k336 gK = L4 (S336_3 c) 0 1 2 4 := Eq.trans (seq_t (by kernel_rfl) (TS336_2 c) rfl) (by funext s h; kernel_rfl)
noncomputable def F336 (c : CF) (a0 a1 a2 a3 a4 : AV) (h : Heap) : Res := S336_3 c a0 a1 a2 a4 h
theorem TF336 (c : CF) (a0 a1 a2 a3 a4 : AV) (h : Heap) : (rk d336 P0 c 148 c336).1 k336 [] k336 gK (argsTr gl 0 [a0,a1,a2,a3,a4]) h = F336 c a0 a1 a2 a3 a4 h := Eq.trans (congrFun (congrFun (seq_t (by kernel_rfl) (TS336_3 c) rfl) _) _) (by kernel_rfl)
noncomputable def N336 : FnF := n5 F336
theorem N336_ok [Nu] : FnOk P0 gl 336 N336 := n5_ok namesOk mixedOrders lowOk Tryz.func336 (by kernel_rfl) (by kernel_rfl) (by kernel_rfl) TF336
noncomputable def c337 : Code := codeOf Tryz.f337
noncomputable def k337 : Kt := finK P0 Tryz.f337.results.toList
def d337 : List Nat := [4,6,9,14,16,18]
noncomputable def S337_0 (c : CF) (h : Heap) : Res := some ((iL 0),h)
theorem TS337_0 (c : CF) : (rk d337 P0 c 83 c337.s4).1 k337 [] k337 gK = L0 (S337_0 c) := by funext s h; kernel_rfl
noncomputable def S337_2 (c : CF) (r1 : A4) (t1 t7 t53 t54 t55 t60 : AV) (h : Heap) : Res := test t60 (none) (opt (fieldAddrX 1 t7) fun t74 => opt (loadX none t74 h) fun t75 => opt (lenS t75) fun t76 => opt (fastBin .gtr t76 (iL 4)) fun t77 => test t77 (none) (opt (fieldAddrX 1 t7) fun t79 => opt (loadX none t79 h) fun t80 => opt2 (c 379 [t80,(.fn (.func 422) [] [])] h) fun t81 h1 => test t81 (none) (opt (fastBin .add t55 (iL 1)) fun t82 => r1 t1 t53 t54 t82 h1)))
theorem TS337_2 (c : CF) (r1 : A4) : (rk d337 P0 c 83 c337.s3.fst.snd.bd.bd.s2.fst.bd.snd.bd.snd).1 ((rk d337 P0 c 83 c337.s3.fst.snd.bd.bd.s3).1 (L4 r1 1 53 54 55) [(1,(L0 (S337_0 c)))] k337 gK) [(3,((rk d337 P0 c 83 c337.s3.fst.snd.bd.bd.s3).1 (L4 r1 1 53 54 55) [(1,(L0 (S337_0 c)))] k337 gK)),(2,((rk d337 P0 c 83 c337.s3.fst.snd.bd.bd.s3).1 (L4 r1 1 53 54 55) [(1,(L0 (S337_0 c)))] k337 gK)),(1,(L0 (S337_0 c)))] k337 gK = L6 (S337_2 c r1) 1 7 53 54 55 60 := by funext s h; kernel_rfl
noncomputable def S337_3 (c : CF) (r1 : A4) (t1 t6 t7 t53 t54 t55 : AV) (h : Heap) : Res := opt (fieldAddrX 0 t7) fun t61 => opt (loadX none t61 h) fun t62 => opt2 (c 276 [t62] h) fun t63 h1 => opt (notX t63) fun t64 => test t64 (S337_2 c r1 t1 t7 t53 t54 t55 tL h1) (opt (fieldAddrX 3 t1) fun t66 => opt (loadX none t66 h1) fun t67 => opt (cutZ 2 t67 none (some t6) none h1) fun t69 => opt2 (c 420 [t69,(.fn (.func 421) [] [t7])] h1) fun t71 h2 => S337_2 c r1 t1 t7 t53 t54 t55 t71 h2)
theorem TS337_3 (c : CF) (r1 : A4) : (rk d337 P0 c 83 c337.s3.fst.snd.bd.bd.s2.fst.bd.snd).1 ((rk d337 P0 c 83 c337.s3.fst.snd.bd.bd.s3).1 (L4 r1 1 53 54 55) [(1,(L0 (S337_0 c)))] k337 gK) [(2,((rk d337 P0 c 83 c337.s3.fst.snd.bd.bd.s3).1 (L4 r1 1 53 54 55) [(1,(L0 (S337_0 c)))] k337 gK)),(1,(L0 (S337_0 c)))] k337 gK = L6 (S337_3 c r1) 1 6 7 53 54 55 := Eq.trans (block_t (id := 3) (by kernel_rfl) (seq_t (by kernel_rfl) (TS337_2 c r1) rfl)) (by funext s h; kernel_rfl)
noncomputable def S337_4 (c : CF) (r1 : A4) (t1 t53 t54 t55 : AV) (h : Heap) : Res := opt (indexAddrS 2 t53 t55 h) fun t58 => opt (loadX (some 2) t58 h) fun t59 => opt2 (box (.agg [eL,nL]) h) fun t7 h1 => optH (storeX 2 t7 t59 h1) fun h2 => S337_3 c r1 t1 t55 t7 t53 t54 t55 h2
theorem TS337_4 (c : CF) (r1 : A4) : (rk d337 P0 c 83 c337.s3.fst.snd.bd.bd.s2).1 (L4 r1 1 53 54 55) [(1,(L0 (S337_0 c)))] k337 gK = L4 (S337_4 c r1) 1 53 54 55 := Eq.trans (seq_t (by kernel_rfl) rfl (block_t (id := 2) (by kernel_rfl) (seq_t (by kernel_rfl) (TS337_3 c r1) rfl))) (by funext s h; kernel_rfl)
noncomputable def S337_5 (c : CF) (r1 : A4) (t1 t53 t54 t55 t56 : AV) (h : Heap) : Res := test t56 (S337_4 c r1 t1 t53 t54 t55 h) (S337_0 c h)
theorem TS337_5 (c : CF) (r1 : A4) : (rk d337 P0 c 83 c337.s3.fst.snd.bd.bd.snd).1 (L4 r1 1 53 54 55) [(1,(L0 (S337_0 c)))] k337 gK = L5 (S337_5 c r1) 1 53 54 55 56 := Eq.trans (seq_t (by kernel_rfl) (TS337_4 c r1) rfl) (by funext s h; kernel_rfl)
noncomputable def S337_6b (c : CF) (r1 : A4) (t1 t53 t54 t55 : AV) (h : Heap) : Res := opt (fastBin .lss t55 t54) fun t56 => S337_5 c r1 t1 t53 t54 t55 t56 h
theorem TS337_6b (c : CF) (r1 : A4) : (rk d337 P0 c 83 c337.s3.fst.snd.bd.bd).1 (L4 r1 1 53 54 55) [(1,(L0 (S337_0 c)))] k337 gK = L4 (S337_6b c r1) 1 53 54 55 := Eq.trans (seq_t (by kernel_rfl) (TS337_5 c r1) rfl) (by funext s h; kernel_rfl)
noncomputable def S337_1l (c : CF) : Nat → A4
  | 0 => fun _ _ _ _ _ => none
  | k + 1 => S337_6b c (S337_1l c k)
theorem TS337_1l (c : CF) : (rk d337 P0 c 83 c337.s3.fst.snd.bd).1 (L0 (S337_0 c)) [(1,(L0 (S337_0 c)))] k337 gK = L4 (S337_1l c rounds) 1 53 54 55 := loop_t (by kernel_rfl) (loop_ind (A := fun m => L4 (S337_1l c m) 1 53 54 55) rfl (fun m => TS337_6b c (S337_1l c m)) rounds)
noncomputable def S337_7 (c : CF) (t1 t53 t54 t55 : AV) (h : Heap) : Res := S337_1l c rounds t1 t53 t54 t55 h
theorem TS337_7 (c : CF) : (rk d337 P0 c 83 c337.s3.fst.snd).1 (L0 (S337_0 c)) [] k337 gK = L4 (S337_7 c) 1 53 54 55 := Eq.trans (block_t (id := 1) (by kernel_rfl) (TS337_1l c)) (by funext s h; kernel_rfl)
noncomputable def S337_8 (c : CF) (t1 : AV) (h : Heap) : Res := opt (fieldAddrX 3 t1) fun t52 => opt (loadX none t52 h) fun t53 => opt (lenS t53) fun t54 => S337_7 c t1 t53 t54 (iL 0) h
theorem TS337_8 (c : CF) : (rk d337 P0 c 83 c337.s3).1 k337 [] k337 gK = L1 (S337_8 c) 1 := Eq.trans (seq_t (by kernel_rfl) (TS337_0 c) (seq_t (by kernel_rfl) (TS337_7 c) rfl)) (by funext s h; kernel_rfl)
noncomputable def S337_9 (c : CF) (t1 : AV) (h : Heap) : Res := opt (fieldAddrX 2 t1) fun t37 => opt (loadX none t37 h) fun t38 => opt (fastBin .neq t38 eL) fun t39 => test t39 (none) (opt (fieldAddrX 3 t1) fun t41 => opt (loadX none t41 h) fun t42 => opt (lenS t42) fun t43 => opt (fastBin .eql t43 (iL 0)) fun t44 => test t44 (none) (opt (fieldAddrX 3 t1) fun t47 => opt (loadX none t47 h) fun t48 => opt (lenS t48) fun t49 => opt (fastBin .gtr t49 (iL 6)) fun t50 => test t50 (none) (S337_8 c t1 h)))
theorem TS337_9 (c : CF) : (rk d337 P0 c 83 c337.s2).1 k337 [] k337 gK = L1 (S337_9 c) 1 := Eq.trans (seq_t (by kernel_rfl) (TS337_8 c) rfl) (by funext s h; kernel_rfl)
noncomputable def S337_10 (c : CF) (t1 : AV) (h : Heap) : Res := opt (fieldAddrX 0 t1) fun t8 => opt (loadX none t8 h) fun t9 => opt (fastBin .neq t9 (iL 1)) fun t10 => test t10 (opt (fieldAddrX 2 t1) fun t12 => opt (loadX none t12 h) fun t13 => opt2 (c 80 [t13] h) fun t14 h1 => opt (extractX t14 0) fun t15 => opt (extractX t14 1) fun t16 => opt (extractX t14 2) fun t17 => opt (fieldAddrX 3 t1) fun t19 => opt (loadX none t19 h1) fun t20 => opt (lenS t20) fun t21 => opt (fastBin .gtr t21 (iL 0)) fun t22 => test t22 (none) (opt (fieldAddrX 2 t1) fun t24 => opt (loadX none t24 h1) fun t25 => opt2 (c 147 [t25] h1) fun t26 h2 => opt (notX t26) fun t27 => test t27 (none) (opt (fieldAddrX 0 t1) fun t29 => opt (loadX none t29 h2) fun t30 => opt (fastBin .eql t30 (iL 3)) fun t31 => test t31 (opt (notX t17) fun t34 => test t34 (none) (some ((iL 0),h2))) (some ((iL 0),h2))))) (S337_9 c t1 h)
theorem TS337_10 (c : CF) : (rk d337 P0 c 83 c337.snd).1 k337 [] k337 gK = L1 (S337_10 c) 1 := Eq.trans (seq_t (by kernel_rfl) (TS337_9 c) rfl) (by funext s h; kernel_rfl)
noncomputable def F337 (c : CF) (a0 : AV) (h : Heap) : Res := opt2 (box a0 h) fun t1 h1 => S337_10 c t1 h1
theorem TF337 (c : CF) (a0 : AV) (h : Heap) : (rk d337 P0 c 83 c337).1 k337 [] k337 gK (argsTr gl 0 [a0]) h = F337 c a0 h := Eq.trans (congrFun (congrFun (seq_t (by kernel_rfl) (TS337_10 c) rfl) _) _) (by kernel_rfl)
noncomputable def N337 : FnF := n1 F337
theorem N337_ok [Nu] : FnOk P0 gl 337 N337 := n1_ok namesOk mixedOrders lowOk Tryz.func337 (by kernel_rfl) (by kernel_rfl) (by kernel_rfl) TF337
noncomputable def c341 : Code := codeOf Tryz.f341
noncomputable def k341 : Kt := finK P0 Tryz.f341.results.toList
def d341 : List Nat := [2,4]
noncomputable def F341 (c : CF) (a0 : AV) (h : Heap) : Res := opt2 (box a0 h) fun t1 h1 => opt (fieldAddrX 2 t1) fun t3 => opt (loadX none t3 h1) fun t4 => opt (fastBin .lss t4 (iL 0)) fun t5 => test t5 (none) (opt (fieldAddrX 2 t1) fun t11 => opt (loadX none t11 h1) fun t12 => opt (fieldAddrX 1 t1) fun t13 => opt (loadX none t13 h1) fun t14 => opt (lenS t14) fun t15 => opt (fastBin .gtr t12 t15) fun t16 => test t16 (none) (opt (fieldAddrX 1 t1) fun t20 => opt (loadX none t20 h1) fun t21 => eqH h1 h1 (opt (fieldAddrX 2 t1) fun t22 => opt (loadX none t22 h1) fun t23 => eqH h1 h1 (opt (cutZ 1 t21 (some t23) none none h1) fun t24 => eqH h1 h1 (opt (fieldAddrX 3 t1) fun t25 => opt (loadX none t25 h1) fun t26 => eqH h1 h1 (opt2 (c 427 [t24,t26] h1) fun t27 h2 => eqH h2 h1 (some (t27,h1))))))))
theorem TF341 (c : CF) (a0 : AV) (h : Heap) : (rk d341 P0 c 28 c341).1 k341 [] k341 gK (argsTr gl 0 [a0]) h = F341 c a0 h := by kernel_rfl
noncomputable def N341 : FnF := n1 F341
theorem N341_ok [Nu] : FnOk P0 gl 341 N341 := n1_ok namesOk mixedOrders lowOk Tryz.func341 (by kernel_rfl) (by kernel_rfl) (by kernel_rfl) TF341
noncomputable def c353 : Code := codeOf Tryz.f353
noncomputable def k353 : Kt := finK P0 Tryz.f353.results.toList
def d353 : List Nat := []
noncomputable def S353_0 (c : CF) (t5 t6 : AV) (h : Heap) : Res := some ((.tup [t5,t6,tL]),h)
theorem TS353_0 (c : CF) : (rk d353 P0 c 28 c353.s3).1 k353 [] k353 gK = L2 (S353_0 c) 5 6 := by funext s h; kernel_rfl
noncomputable def S353_1 (c : CF) (t5 t6 t25 : AV) (h : Heap) : Res := test t25 (some ((.tup [eL,eL,fL]),h)) (S353_0 c t5 t6 h)
theorem TS353_1 (c : CF) : (rk d353 P0 c 28 c353.s2.fst.snd).1 (L2 (S353_0 c) 5 6) [] k353 gK = L3 (S353_1 c) 5 6 25 := by funext s h; kernel_rfl
noncomputable def S353_2 (c : CF) (t5 t6 t7 : AV) (h : Heap) : Res := opt (notX t7) fun t15 => test t15 (S353_1 c t5 t6 tL h) (opt2 (c 184 [t5] h) fun t18 h1 => opt (notX t18) fun t19 => test t19 (S353_1 c t5 t6 tL h1) (opt2 (c 276 [t6] h1) fun t23 h2 => opt (notX t23) fun t24 => S353_1 c t5 t6 t24 h2))
theorem TS353_2 (c : CF) : (rk d353 P0 c 28 c353.s2).1 k353 [] k353 gK = L3 (S353_2 c) 5 6 7 := Eq.trans (seq_t (by kernel_rfl) (TS353_0 c) (seq_t (by kernel_rfl) (TS353_1 c) rfl)) (by funext s h; kernel_rfl)
noncomputable def S353_3 (c : CF) (t0 : AV) (h : Heap) : Res := opt2 (c 149 [t0,(sL [46])] h) fun t10 h1 => opt (extractX t10 0) fun t11 => opt (extractX t10 1) fun t12 => opt (extractX t10 2) fun t13 => S353_2 c t11 t12 t13 h1
theorem TS353_3 (c : CF) : (rk d353 P0 c 28 c353.snd).1 k353 [] k353 gK = L1 (S353_3 c) 0 := Eq.trans (seq_t (by kernel_rfl) (TS353_2 c) rfl) (by funext s h; kernel_rfl)
noncomputable def F353 (c : CF) (a0 : AV) (h : Heap) : Res := S353_3 c a0 h
theorem TF353 (c : CF) (a0 : AV) (h : Heap) : (rk d353 P0 c 28 c353).1 k353 [] k353 gK (argsTr gl 0 [a0]) h = F353 c a0 h := Eq.trans (congrFun (congrFun (seq_t (by kernel_rfl) (TS353_3 c) rfl) _) _) (by kernel_rfl)
noncomputable def N353 : FnF := n1 F353
theorem N353_ok [Nu] : FnOk P0 gl 353 N353 := n1_ok namesOk mixedOrders lowOk Tryz.func353 (by kernel_rfl) (by kernel_rfl) (by kernel_rfl) TF353
noncomputable def c354 : Code := codeOf Tryz.f354
noncomputable def k354 : Kt := finK P0 Tryz.f354.results.toList
def d354 : List Nat := []
noncomputable def F354 (c : CF) (a0 : AV) (h : Heap) : Res := opt (fastBin .eql a0 (sL [110,117,109])) fun t4 => test t4 (some (tL,h)) (opt (fastBin .eql a0 (sL [98,121,116,101,115])) fun t7 => some (t7,h))
theorem TF354 (c : CF) (a0 : AV) (h : Heap) : (rk d354 P0 c 9 c354).1 k354 [] k354 gK (argsTr gl 0 [a0]) h = F354 c a0 h := by kernel_rfl
noncomputable def N354 : FnF := n1 F354
theorem N354_ok [Nu] : FnOk P0 gl 354 N354 := n1_ok namesOk mixedOrders lowOk Tryz.func354 (by kernel_rfl) (by kernel_rfl) (by kernel_rfl) TF354
noncomputable def c355 : Code := codeOf Tryz.f355
noncomputable def k355 : Kt := finK P0 Tryz.f355.results.toList
def d355 : List Nat := []
noncomputable def F355 (c : CF) (a0 a1 : AV) (h : Heap) : Res := opt (lenStr a0) fun t6 => opt (lenStr a1) fun t8 => opt (fastBin .geq t6 t8) fun t9 => test t9 (opt (lenStr a1) fun t13 => opt (fastCut a0 none (some t13) none) fun t14 => opt (fastBin .eql t14 a1) fun t16 => some (t16,h)) (some (fL,h))
theorem TF355 (c : CF) (a0 a1 : AV) (h : Heap) : (rk d355 P0 c 18 c355).1 k355 [] k355 gK (argsTr gl 0 [a0,a1]) h = F355 c a0 a1 h := by kernel_rfl
noncomputable def N355 : FnF := n2 F355
theorem N355_ok [Nu] : FnOk P0 gl 355 N355 := n2_ok namesOk mixedOrders lowOk Tryz.func355 (by kernel_rfl) (by kernel_rfl) (by kernel_rfl) TF355
noncomputable def c356 : Code := codeOf Tryz.f356
noncomputable def k356 : Kt := finK P0 Tryz.f356.results.toList
def d356 : List Nat := [3,6,7,8,9,10,11,12,13,14,15,16,17,18,19,20,21,22,23,24,25,26,27,28,29,30,31,32,33,34,35]
noncomputable def S356_0 (c : CF) (t0 t1 t5 t16 : AV) (h : Heap) : Res := test t16 (none) (opt (fastBin .eql t5 (iL 1)) fun t26 => test t26 (opt (fastIndex t1 (iL 0)) fun t29 => opt2 (c 438 [t0,t29] h) fun t30 h1 => some (t30,h1)) (none))
theorem TS356_0 (c : CF) : (rk d356 P0 c 143 c356.s2.fst.bd.snd).1 ((rk d356 P0 c 143 c356.s3).1 k356 [] k356 gK) [(0,((rk d356 P0 c 143 c356.s3).1 k356 [] k356 gK))] k356 gK = L4 (S356_0 c) 0 1 5 16 := by funext s h; kernel_rfl
noncomputable def S356_1 (c : CF) (t0 t1 t5 : AV) (h : Heap) : Res := opt (fastBin .eql t5 (iL 0)) fun t18 => test t18 (S356_0 c t0 t1 t5 tL h) (opt (fastBin .eql t1 t0) fun t22 => S356_0 c t0 t1 t5 t22 h)
theorem TS356_1 (c : CF) : (rk d356 P0 c 143 c356.s2).1 k356 [] k356 gK = L3 (S356_1 c) 0 1 5 := Eq.trans (seq_t (by kernel_rfl) rfl (block_t (id := 0) (by kernel_rfl) (seq_t (by kernel_rfl) (TS356_0 c) rfl))) (by funext s h; kernel_rfl)
noncomputable def S356_2 (c : CF) (t0 t1 : AV) (h : Heap) : Res := opt (lenStr t1) fun t15 => S356_1 c t0 t1 t15 h
theorem TS356_2 (c : CF) : (rk d356 P0 c 143 c356.snd).1 k356 [] k356 gK = L2 (S356_2 c) 0 1 := Eq.trans (seq_t (by kernel_rfl) (TS356_1 c) rfl) (by funext s h; kernel_rfl)
noncomputable def F356 (c : CF) (a0 a1 : AV) (h : Heap) : Res := S356_2 c a0 a1 h
theorem TF356 (c : CF) (a0 a1 : AV) (h : Heap) : (rk d356 P0 c 143 c356).1 k356 [] k356 gK (argsTr gl 0 [a0,a1]) h = F356 c a0 a1 h := Eq.trans (congrFun (congrFun (seq_t (by kernel_rfl) (TS356_2 c) rfl) _) _) (by kernel_rfl)
noncomputable def N356 : FnF := n2 F356
theorem N356_ok [Nu] : FnOk P0 gl 356 N356 := n2_ok namesOk mixedOrders lowOk Tryz.func356 (by kernel_rfl) (by kernel_rfl) (by kernel_rfl) TF356
noncomputable def c363 : Code := codeOf Tryz.f363
noncomputable def k363 : Kt := finK P0 Tryz.f363.results.toList
def d363 : List Nat := [3,5,11]
noncomputable def S363_1 (c : CF) (r0 : Nat → A3) (t5 t6 : AV) (h : Heap) : Res := some ((.tup [t5,t6,(iL 0)]),h)
theorem TS363_1 (c : CF) (r0 : Nat → A3) : (rk d363 P0 c 48 (c363.snd.bd.at_ 0).s7).1 k363 [] k363 (fun l s h => r0 l (s.rd 0) (s.rd 5) (s.rd 6) h) = L2 (S363_1 c r0) 5 6 := by funext s h; kernel_rfl
noncomputable def S363_2 (c : CF) (r0 : Nat → A3) (t5 t6 t7 : AV) (h : Heap) : Res := opt (fastBin .eql t6 (iL 10)) fun t33 => test t33 (opt (fastBin .gtr t7 (uL 1)) fun t36 => test t36 (none) (opt (fastBin .gtr t6 (iL 1)) fun t40 => test t40 (opt (fastBin .eql t7 (uL 0)) fun t43 => test t43 (none) (S363_1 c r0 t5 t6 h)) (S363_1 c r0 t5 t6 h))) (opt (fastBin .gtr t6 (iL 1)) fun t40_1 => test t40_1 (opt (fastBin .eql t7 (uL 0)) fun t43_1 => test t43_1 (none) (S363_1 c r0 t5 t6 h)) (S363_1 c r0 t5 t6 h))
theorem TS363_2 (c : CF) (r0 : Nat → A3) : (rk d363 P0 c 48 (c363.snd.bd.at_ 0).s6).1 k363 [] k363 (fun l s h => r0 l (s.rd 0) (s.rd 5) (s.rd 6) h) = L3 (S363_2 c r0) 5 6 7 := Eq.trans (seq_t (by kernel_rfl) (TS363_1 c r0) rfl) (by funext s h; kernel_rfl)
noncomputable def S363_3 (c : CF) (r0 : Nat → A3) (t0 t5 t6 t7 : AV) (h : Heap) : Res := opt (fastBin .geq t7 (uL 128)) fun t31 => test t31 (r0 0 t0 t5 t6 h) (S363_2 c r0 t5 t6 t7 h)
theorem TS363_3 (c : CF) (r0 : Nat → A3) : (rk d363 P0 c 48 (c363.snd.bd.at_ 0).s5).1 k363 [] k363 (fun l s h => r0 l (s.rd 0) (s.rd 5) (s.rd 6) h) = L4 (S363_3 c r0) 0 5 6 7 := Eq.trans (seq_t (by kernel_rfl) (TS363_2 c r0) rfl) (by funext s h; kernel_rfl)
noncomputable def S363_4 (c : CF) (r0 : Nat → A3) (t0 t5 t6 t7 : AV) (h : Heap) : Res := opt (fastBin .add t6 (iL 1)) fun t29 => S363_3 c r0 t0 t5 t29 t7 h
theorem TS363_4 (c : CF) (r0 : Nat → A3) : (rk d363 P0 c 48 (c363.snd.bd.at_ 0).s4).1 k363 [] k363 (fun l s h => r0 l (s.rd 0) (s.rd 5) (s.rd 6) h) = L4 (S363_4 c r0) 0 5 6 7 := Eq.trans (seq_t (by kernel_rfl) (TS363_3 c r0) rfl) (by funext s h; kernel_rfl)
noncomputable def S363_5 (c : CF) (r0 : Nat → A3) (t0 t5 t6 t7 : AV) (h : Heap) : Res := opt (binX P0 .none .and 5 t7 (uL 127)) fun t22 => opt (convI .u64 t22) fun t23 => opt (fastBin .mul (iL 7) t6) fun t25 => opt (binX P0 .none .shl 237 t23 t25) fun t26 => opt (binX P0 .none .or 237 t5 t26) fun t27 => S363_4 c r0 t0 t27 t6 t7 h
theorem TS363_5 (c : CF) (r0 : Nat → A3) : (rk d363 P0 c 48 (c363.snd.bd.at_ 0).s3).1 k363 [] k363 (fun l s h => r0 l (s.rd 0) (s.rd 5) (s.rd 6) h) = L4 (S363_5 c r0) 0 5 6 7 := Eq.trans (seq_t (by kernel_rfl) (TS363_4 c r0) rfl) (by funext s h; kernel_rfl)
noncomputable def S363_6 (c : CF) (r0 : Nat → A3) (t0 t5 t6 : AV) (h : Heap) : Res := opt (indexAddrS 1 t0 t6 h) fun t18 => opt (loadX none t18 h) fun t19 => S363_5 c r0 t0 t5 t6 t19 h
theorem TS363_6 (c : CF) (r0 : Nat → A3) : (rk d363 P0 c 48 (c363.snd.bd.at_ 0).s2).1 k363 [] k363 (fun l s h => r0 l (s.rd 0) (s.rd 5) (s.rd 6) h) = L3 (S363_6 c r0) 0 5 6 := Eq.trans (seq_t (by kernel_rfl) (TS363_5 c r0) rfl) (by funext s h; kernel_rfl)
noncomputable def S363_7 (c : CF) (r0 : Nat → A3) (t0 t5 t6 : AV) (h : Heap) : Res := opt (fastBin .eql t6 (iL 10)) fun t10 => test t10 (none) (opt (lenS t0) fun t14 => opt (fastBin .eql t6 t14) fun t15 => test t15 (none) (S363_6 c r0 t0 t5 t6 h))
theorem TS363_7 (c : CF) (r0 : Nat → A3) : (rk d363 P0 c 48 (c363.snd.bd.at_ 0).snd).1 k363 [] k363 (fun l s h => r0 l (s.rd 0) (s.rd 5) (s.rd 6) h) = L3 (S363_7 c r0) 0 5 6 := Eq.trans (seq_t (by kernel_rfl) (TS363_6 c r0) rfl) (by funext s h; kernel_rfl)
noncomputable def S363_8L0_ (c : CF) (r0 : Nat → A3) (t0 t5 t6 : AV) (h : Heap) : Res := S363_7 c r0 t0 t5 t6 h
theorem TS363_8L0_ (c : CF) (r0 : Nat → A3) : (rk d363 P0 c 48 (c363.snd.bd.at_ 0)).1 k363 [] k363 (fun l s h => r0 l (s.rd 0) (s.rd 5) (s.rd 6) h) = L3 (S363_8L0_ c r0) 0 5 6 := Eq.trans (seq_t (by kernel_rfl) (TS363_7 c r0) rfl) (by funext s h; kernel_rfl)
noncomputable def S363_0g (c : CF) : Nat → Nat → A3
  | 0 => fun _ _ _ _ _ => none
  | k + 1 => fun l => match l with
    | 0 => S363_8L0_ c (S363_0g c k)
    | _ => fun _ _ _ _ => none
theorem TS363_0g (c : CF) : jumpK (fun l kg' => match (rk d363 P0 c 48 c363.snd.bd).2 l with | some f => some (f k363 [] k363 kg') | none => none) gK rounds = fun l s h => S363_0g c rounds l (s.rd 0) (s.rd 5) (s.rd 6) h := jump_ind (J := fun m => fun l s h => S363_0g c m l (s.rd 0) (s.rd 5) (s.rd 6) h) rfl (fun m l => match l with
    | 0 => by rw [show findLabel c363.snd.bd 0 = some (c363.snd.bd.at_ 0) by kernel_rfl]; exact TS363_8L0_ c (S363_0g c m)
    | l + 1 => by rw [show findLabel c363.snd.bd (l + 1) = none by kernel_rfl]; rfl) rounds
noncomputable def S363_9 (c : CF) (t5 t6 : AV) (h : Heap) : Res := some ((.tup [t5,t6,(iL 0)]),h)
theorem TS363_9 (c : CF) : (rk d363 P0 c 48 c363.snd.bd.s8).1 k363 [] k363 (fun l s h => S363_0g c rounds l (s.rd 0) (s.rd 5) (s.rd 6) h) = L2 (S363_9 c) 5 6 := by funext s h; kernel_rfl
noncomputable def S363_10 (c : CF) (t5 t6 t7 : AV) (h : Heap) : Res := opt (fastBin .eql t6 (iL 10)) fun t33 => test t33 (opt (fastBin .gtr t7 (uL 1)) fun t36 => test t36 (none) (opt (fastBin .gtr t6 (iL 1)) fun t40 => test t40 (opt (fastBin .eql t7 (uL 0)) fun t43 => test t43 (none) (S363_9 c t5 t6 h)) (S363_9 c t5 t6 h))) (opt (fastBin .gtr t6 (iL 1)) fun t40_1 => test t40_1 (opt (fastBin .eql t7 (uL 0)) fun t43_1 => test t43_1 (none) (S363_9 c t5 t6 h)) (S363_9 c t5 t6 h))
theorem TS363_10 (c : CF) : (rk d363 P0 c 48 c363.snd.bd.s7).1 k363 [] k363 (fun l s h => S363_0g c rounds l (s.rd 0) (s.rd 5) (s.rd 6) h) = L3 (S363_10 c) 5 6 7 := Eq.trans (seq_t (by kernel_rfl) (TS363_9 c) rfl) (by funext s h; kernel_rfl)
noncomputable def S363_11 (c : CF) (t0 t5 t6 t7 : AV) (h : Heap) : Res := opt (fastBin .geq t7 (uL 128)) fun t31 => test t31 (S363_0g c rounds 0 t0 t5 t6 h) (S363_10 c t5 t6 t7 h)
theorem TS363_11 (c : CF) : (rk d363 P0 c 48 c363.snd.bd.s6).1 k363 [] k363 (fun l s h => S363_0g c rounds l (s.rd 0) (s.rd 5) (s.rd 6) h) = L4 (S363_11 c) 0 5 6 7 := Eq.trans (seq_t (by kernel_rfl) (TS363_10 c) rfl) (by funext s h; kernel_rfl)
noncomputable def S363_12 (c : CF) (t0 t5 t6 t7 : AV) (h : Heap) : Res := opt (fastBin .add t6 (iL 1)) fun t29 => S363_11 c t0 t5 t29 t7 h
theorem TS363_12 (c : CF) : (rk d363 P0 c 48 c363.snd.bd.s5).1 k363 [] k363 (fun l s h => S363_0g c rounds l (s.rd 0) (s.rd 5) (s.rd 6) h) = L4 (S363_12 c) 0 5 6 7 := Eq.trans (seq_t (by kernel_rfl) (TS363_11 c) rfl) (by funext s h; kernel_rfl)
noncomputable def S363_13 (c : CF) (t0 t5 t6 t7 : AV) (h : Heap) : Res := opt (binX P0 .none .and 5 t7 (uL 127)) fun t22 => opt (convI .u64 t22) fun t23 => opt (fastBin .mul (iL 7) t6) fun t25 => opt (binX P0 .none .shl 237 t23 t25) fun t26 => opt (binX P0 .none .or 237 t5 t26) fun t27 => S363_12 c t0 t27 t6 t7 h
theorem TS363_13 (c : CF) : (rk d363 P0 c 48 c363.snd.bd.s4).1 k363 [] k363 (fun l s h => S363_0g c rounds l (s.rd 0) (s.rd 5) (s.rd 6) h) = L4 (S363_13 c) 0 5 6 7 := Eq.trans (seq_t (by kernel_rfl) (TS363_12 c) rfl) (by funext s h; kernel_rfl)
noncomputable def S363_14 (c : CF) (t0 t5 t6 : AV) (h : Heap) : Res := opt (indexAddrS 1 t0 t6 h) fun t18 => opt (loadX none t18 h) fun t19 => S363_13 c t0 t5 t6 t19 h
theorem TS363_14 (c : CF) : (rk d363 P0 c 48 c363.snd.bd.s3).1 k363 [] k363 (fun l s h => S363_0g c rounds l (s.rd 0) (s.rd 5) (s.rd 6) h) = L3 (S363_14 c) 0 5 6 := Eq.trans (seq_t (by kernel_rfl) (TS363_13 c) rfl) (by funext s h; kernel_rfl)
noncomputable def S363_15 (c : CF) (t0 t5 t6 : AV) (h : Heap) : Res := opt (fastBin .eql t6 (iL 10)) fun t10 => test t10 (none) (opt (lenS t0) fun t14 => opt (fastBin .eql t6 t14) fun t15 => test t15 (none) (S363_14 c t0 t5 t6 h))
theorem TS363_15 (c : CF) : (rk d363 P0 c 48 c363.snd.bd.s2).1 k363 [] k363 (fun l s h => S363_0g c rounds l (s.rd 0) (s.rd 5) (s.rd 6) h) = L3 (S363_15 c) 0 5 6 := Eq.trans (seq_t (by kernel_rfl) (TS363_14 c) rfl) (by funext s h; kernel_rfl)
noncomputable def S363_16 (c : CF) (t0 t5 t6 : AV) (h : Heap) : Res := S363_15 c t0 t5 t6 h
theorem TS363_16 (c : CF) : (rk d363 P0 c 48 c363.snd.bd.snd).1 k363 [] k363 (fun l s h => S363_0g c rounds l (s.rd 0) (s.rd 5) (s.rd 6) h) = L3 (S363_16 c) 0 5 6 := Eq.trans (seq_t (by kernel_rfl) (TS363_15 c) rfl) (by funext s h; kernel_rfl)
noncomputable def S363_17 (c : CF) (t0 : AV) (h : Heap) : Res := S363_16 c t0 (.lit (.int .u64 0)) (iL 0) h
theorem TS363_17 (c : CF) : (rk d363 P0 c 48 c363.snd).1 k363 [] k363 gK = L1 (S363_17 c) 0 := Eq.trans (scope_t (by kernel_rfl) (TS363_0g c) (seq_t (by kernel_rfl) (TS363_16 c) rfl)) (by funext s h; kernel_rfl)
noncomputable def F363 (c : CF) (a0 : AV) (h : Heap) : Res := S363_17 c a0 h
theorem TF363 (c : CF) (a0 : AV) (h : Heap) : (rk d363 P0 c 48 c363).1 k363 [] k363 gK (argsTr gl 0 [a0]) h = F363 c a0 h := Eq.trans (congrFun (congrFun (seq_t (by kernel_rfl) (TS363_17 c) rfl) _) _) (by kernel_rfl)
noncomputable def N363 : FnF := n1 F363
theorem N363_ok [Nu] : FnOk P0 gl 363 N363 := n1_ok namesOk mixedOrders lowOk Tryz.func363 (by kernel_rfl) (by kernel_rfl) (by kernel_rfl) TF363
noncomputable def c364 : Code := codeOf Tryz.f364
noncomputable def k364 : Kt := finK P0 Tryz.f364.results.toList
def d364 : List Nat := []
noncomputable def S364_0 (c : CF) (t9 : AV) (h : Heap) : Res := some (t9,h)
theorem TS364_0 (c : CF) : (rk d364 P0 c 65 c364.s7).1 k364 [] k364 gK = L1 (S364_0 c) 9 := by funext s h; kernel_rfl
noncomputable def S364_2b (c : CF) (r1 : A5) (t0 t9 t47 t48 t49 : AV) (h : Heap) : Res := opt (fastBin .lss t49 t48) fun t50 => test t50 (opt (indexAddrS 2 t47 t49 h) fun t52 => opt (loadX (some 2) t52 h) fun t53 => opt2 (box (.agg [(iL 0),(iL 0)]) h) fun t11 h1 => optH (storeX 2 t11 t53 h1) fun h2 => opt (fieldAddrX 0 t11) fun t57 => opt (loadX none t57 h2) fun t58 => opt (fieldAddrX 1 t11) fun t59 => opt (loadX none t59 h2) fun t60 => opt (fastCut t0 (some t58) (some t60) none) fun t61 => opt (indexAddrS 1 t9 t49 h2) fun t62 => optH (storeX 1 t62 t61 h2) fun h3 => opt (fastBin .add t49 (iL 1)) fun t63 => r1 t0 t9 t47 t48 t63 h3) (S364_0 c t9 h)
theorem TS364_2b (c : CF) (r1 : A5) : (rk d364 P0 c 65 c364.s6.fst.snd.bd.bd).1 (L5 r1 0 9 47 48 49) [(2,(L1 (S364_0 c) 9))] k364 gK = L5 (S364_2b c r1) 0 9 47 48 49 := by funext s h; kernel_rfl
noncomputable def S364_1l (c : CF) : Nat → A5
  | 0 => fun _ _ _ _ _ _ => none
  | k + 1 => S364_2b c (S364_1l c k)
theorem TS364_1l (c : CF) : (rk d364 P0 c 65 c364.s6.fst.snd.bd).1 (L1 (S364_0 c) 9) [(2,(L1 (S364_0 c) 9))] k364 gK = L5 (S364_1l c rounds) 0 9 47 48 49 := loop_t (by kernel_rfl) (loop_ind (A := fun m => L5 (S364_1l c m) 0 9 47 48 49) rfl (fun m => TS364_2b c (S364_1l c m)) rounds)
noncomputable def S364_3 (c : CF) (t0 t9 t47 t48 t49 : AV) (h : Heap) : Res := S364_1l c rounds t0 t9 t47 t48 t49 h
theorem TS364_3 (c : CF) : (rk d364 P0 c 65 c364.s6.fst.snd).1 (L1 (S364_0 c) 9) [] k364 gK = L5 (S364_3 c) 0 9 47 48 49 := Eq.trans (block_t (id := 2) (by kernel_rfl) (TS364_1l c)) (by funext s h; kernel_rfl)
noncomputable def S364_4 (c : CF) (t0 t5 t9 : AV) (h : Heap) : Res := opt (lenS t5) fun t48 => S364_3 c t0 t9 t5 t48 (iL 0) h
theorem TS364_4 (c : CF) : (rk d364 P0 c 65 c364.s6).1 k364 [] k364 gK = L3 (S364_4 c) 0 5 9 := Eq.trans (seq_t (by kernel_rfl) (TS364_0 c) (seq_t (by kernel_rfl) (TS364_3 c) rfl)) (by funext s h; kernel_rfl)
noncomputable def S364_5 (c : CF) (t0 t5 : AV) (h : Heap) : Res := opt (lenS t5) fun t45 => opt2 (mksliceX 1 eL 16 t45 t45 h) fun t46 h1 => S364_4 c t0 t5 t46 h1
theorem TS364_5 (c : CF) : (rk d364 P0 c 65 c364.s5).1 k364 [] k364 gK = L2 (S364_5 c) 0 5 := Eq.trans (seq_t (by kernel_rfl) (TS364_4 c) rfl) (by funext s h; kernel_rfl)
noncomputable def S364_6 (c : CF) (t0 t5 t6 : AV) (h : Heap) : Res := opt (fastBin .geq t6 (iL 0)) fun t36 => test t36 (opt (lenStr t0) fun t40 => opt (buildX [(iL 0),(iL 0)] [(0,1),(1,1)] [(0,t6),(1,t40)]) fun t41 => opt2 (bsliceX 2 (.agg [(iL 0),(iL 0)]) 1 [(0,t41)] h) fun t42 h1 => opt2 (appendX 2 16 t5 t42 h1) fun t43 h2 => S364_5 c t0 t43 h2) (S364_5 c t0 t5 h)
theorem TS364_6 (c : CF) : (rk d364 P0 c 65 c364.s4).1 k364 [] k364 gK = L3 (S364_6 c) 0 5 6 := Eq.trans (seq_t (by kernel_rfl) (TS364_5 c) rfl) (by funext s h; kernel_rfl)
noncomputable def S364_8b (c : CF) (r7 : A5) (t0 t1 t5 t6 t14 : AV) (h : Heap) : Res := opt2 (nextS t14 h) fun t15 h1 => opt (extractX t15 0) fun t16 => test t16 (opt (extractX t15 1) fun t17 => opt (extractX t15 2) fun t18 => opt2 (callV P0 c t1 [t18] h1) fun t21 h2 => test t21 (opt (fastBin .geq t6 (iL 0)) fun t23 => test t23 (opt (buildX [(iL 0),(iL 0)] [(0,1),(1,1)] [(0,t6),(1,t17)]) fun t27 => opt2 (bsliceX 2 (.agg [(iL 0),(iL 0)]) 1 [(0,t27)] h2) fun t28 h3 => opt2 (appendX 2 16 t5 t28 h3) fun t29 h4 => opt (litUn P0 .xor t6) fun t31 => r7 t0 t1 t29 t31 t14 h4) (r7 t0 t1 t5 t6 t14 h2)) (opt (fastBin .lss t6 (iL 0)) fun t33 => test t33 (r7 t0 t1 t5 t17 t14 h2) (r7 t0 t1 t5 t6 t14 h2))) (S364_6 c t0 t5 t6 h1)
theorem TS364_8b (c : CF) (r7 : A5) : (rk d364 P0 c 65 c364.s3.fst.snd.bd.bd).1 (L5 r7 0 1 5 6 14) [(0,(L3 (S364_6 c) 0 5 6))] k364 gK = L5 (S364_8b c r7) 0 1 5 6 14 := by funext s h; kernel_rfl
noncomputable def S364_7l (c : CF) : Nat → A5
  | 0 => fun _ _ _ _ _ _ => none
  | k + 1 => S364_8b c (S364_7l c k)
theorem TS364_7l (c : CF) : (rk d364 P0 c 65 c364.s3.fst.snd.bd).1 (L3 (S364_6 c) 0 5 6) [(0,(L3 (S364_6 c) 0 5 6))] k364 gK = L5 (S364_7l c rounds) 0 1 5 6 14 := loop_t (by kernel_rfl) (loop_ind (A := fun m => L5 (S364_7l c m) 0 1 5 6 14) rfl (fun m => TS364_8b c (S364_7l c m)) rounds)
noncomputable def S364_9 (c : CF) (t0 t1 t5 t6 t14 : AV) (h : Heap) : Res := S364_7l c rounds t0 t1 t5 t6 t14 h
theorem TS364_9 (c : CF) : (rk d364 P0 c 65 c364.s3.fst.snd).1 (L3 (S364_6 c) 0 5 6) [] k364 gK = L5 (S364_9 c) 0 1 5 6 14 := Eq.trans (block_t (id := 0) (by kernel_rfl) (TS364_7l c)) (by funext s h; kernel_rfl)
noncomputable def S364_10 (c : CF) (t0 t1 t5 t6 : AV) (h : Heap) : Res := opt2 (rangeX t0 h) fun t14 h1 => S364_9 c t0 t1 t5 t6 t14 h1
theorem TS364_10 (c : CF) : (rk d364 P0 c 65 c364.s3).1 k364 [] k364 gK = L4 (S364_10 c) 0 1 5 6 := Eq.trans (seq_t (by kernel_rfl) (TS364_6 c) (seq_t (by kernel_rfl) (TS364_9 c) rfl)) (by funext s h; kernel_rfl)
noncomputable def S364_11 (c : CF) (t0 t1 t5 : AV) (h : Heap) : Res := S364_10 c t0 t1 t5 (iL (-1)) h
theorem TS364_11 (c : CF) : (rk d364 P0 c 65 c364.s2).1 k364 [] k364 gK = L3 (S364_11 c) 0 1 5 := Eq.trans (seq_t (by kernel_rfl) (TS364_10 c) rfl) (by funext s h; kernel_rfl)
noncomputable def S364_12 (c : CF) (t0 t1 : AV) (h : Heap) : Res := opt2 (mksliceX 2 (.agg [(iL 0),(iL 0)]) 16 (iL 0) (iL 32) h) fun t12 h1 => S364_11 c t0 t1 t12 h1
theorem TS364_12 (c : CF) : (rk d364 P0 c 65 c364.snd).1 k364 [] k364 gK = L2 (S364_12 c) 0 1 := Eq.trans (seq_t (by kernel_rfl) (TS364_11 c) rfl) (by funext s h; kernel_rfl)
noncomputable def F364 (c : CF) (a0 a1 : AV) (h : Heap) : Res := S364_12 c a0 a1 h
theorem TF364 (c : CF) (a0 a1 : AV) (h : Heap) : (rk d364 P0 c 65 c364).1 k364 [] k364 gK (argsTr gl 0 [a0,a1]) h = F364 c a0 a1 h := Eq.trans (congrFun (congrFun (seq_t (by kernel_rfl) (TS364_12 c) rfl) _) _) (by kernel_rfl)
noncomputable def N364 : FnF := n2 F364
theorem N364_ok [Nu] : FnOk P0 gl 364 N364 := n2_ok namesOk mixedOrders lowOk Tryz.func364 (by kernel_rfl) (by kernel_rfl) (by kernel_rfl) TF364
noncomputable def c368 : Code := codeOf Tryz.f368
noncomputable def k368 : Kt := finK P0 Tryz.f368.results.toList
def d368 : List Nat := []
noncomputable def F368 (c : CF) (a0 a1 : AV) (h : Heap) : Res := opt2 (c 438 [a0,a1] h) fun t7 h1 => some (t7,h1)
theorem TF368 (c : CF) (a0 a1 : AV) (h : Heap) : (rk d368 P0 c 8 c368).1 k368 [] k368 gK (argsTr gl 0 [a0,a1]) h = F368 c a0 a1 h := by kernel_rfl
noncomputable def N368 : FnF := n2 F368
theorem N368_ok [Nu] : FnOk P0 gl 368 N368 := n2_ok namesOk mixedOrders lowOk Tryz.func368 (by kernel_rfl) (by kernel_rfl) (by kernel_rfl) TF368
noncomputable def c369 : Code := codeOf Tryz.f369
noncomputable def k369 : Kt := finK P0 Tryz.f369.results.toList
def d369 : List Nat := []
noncomputable def S369_0 (c : CF) (h : Heap) : Res := some ((iL (-1)),h)
theorem TS369_0 (c : CF) : (rk d369 P0 c 19 c369.s2).1 k369 [] k369 gK = L0 (S369_0 c) := by funext s h; kernel_rfl
noncomputable def S369_2b (c : CF) (r1 : A4) (t0 t1 t7 t8 : AV) (h : Heap) : Res := opt (fastBin .lss t8 t7) fun t9 => test t9 (opt (indexAddrS 4 t0 t8 h) fun t14 => opt (loadX (some 4) t14 h) fun t15 => opt2 (callV P0 c t1 [t15] h) fun t16 h1 => test t16 (some (t8,h1)) (opt (fastBin .add t8 (iL 1)) fun t18 => r1 t0 t1 t7 t18 h1)) (S369_0 c h)
theorem TS369_2b (c : CF) (r1 : A4) : (rk d369 P0 c 19 c369.snd.fst.snd.bd.bd).1 (L4 r1 0 1 7 8) [(0,(L0 (S369_0 c)))] k369 gK = L4 (S369_2b c r1) 0 1 7 8 := by funext s h; kernel_rfl
noncomputable def S369_1l (c : CF) : Nat → A4
  | 0 => fun _ _ _ _ _ => none
  | k + 1 => S369_2b c (S369_1l c k)
theorem TS369_1l (c : CF) : (rk d369 P0 c 19 c369.snd.fst.snd.bd).1 (L0 (S369_0 c)) [(0,(L0 (S369_0 c)))] k369 gK = L4 (S369_1l c rounds) 0 1 7 8 := loop_t (by kernel_rfl) (loop_ind (A := fun m => L4 (S369_1l c m) 0 1 7 8) rfl (fun m => TS369_2b c (S369_1l c m)) rounds)
noncomputable def S369_3 (c : CF) (t0 t1 t7 t8 : AV) (h : Heap) : Res := S369_1l c rounds t0 t1 t7 t8 h
theorem TS369_3 (c : CF) : (rk d369 P0 c 19 c369.snd.fst.snd).1 (L0 (S369_0 c)) [] k369 gK = L4 (S369_3 c) 0 1 7 8 := Eq.trans (block_t (id := 0) (by kernel_rfl) (TS369_1l c)) (by funext s h; kernel_rfl)
noncomputable def S369_4 (c : CF) (t0 t1 : AV) (h : Heap) : Res := opt (lenS t0) fun t7 => S369_3 c t0 t1 t7 (iL 0) h
theorem TS369_4 (c : CF) : (rk d369 P0 c 19 c369.snd).1 k369 [] k369 gK = L2 (S369_4 c) 0 1 := Eq.trans (seq_t (by kernel_rfl) (TS369_0 c) (seq_t (by kernel_rfl) (TS369_3 c) rfl)) (by funext s h; kernel_rfl)
noncomputable def F369 (c : CF) (a0 a1 : AV) (h : Heap) : Res := S369_4 c a0 a1 h
theorem TF369 (c : CF) (a0 a1 : AV) (h : Heap) : (rk d369 P0 c 19 c369).1 k369 [] k369 gK (argsTr gl 0 [a0,a1]) h = F369 c a0 a1 h := Eq.trans (congrFun (congrFun (seq_t (by kernel_rfl) (TS369_4 c) rfl) _) _) (by kernel_rfl)
noncomputable def N369 : FnF := n2 F369
theorem N369_ok [Nu] : FnOk P0 gl 369 N369 := n2_ok namesOk mixedOrders lowOk Tryz.func369 (by kernel_rfl) (by kernel_rfl) (by kernel_rfl) TF369
noncomputable def c370 : Code := codeOf Tryz.f370
noncomputable def k370 : Kt := finK P0 Tryz.f370.results.toList
def d370 : List Nat := []
noncomputable def F370 (c : CF) (a0 : AV) (h : Heap) : Res := opt (fastBin .geq a0 (uL 97)) fun t4 => test t4 (opt (fastBin .leq a0 (uL 122)) fun t7 => test t7 (some (tL,h)) (opt (fastBin .geq a0 (uL 65)) fun t11 => test t11 (opt (fastBin .leq a0 (uL 90)) fun t14 => some (t14,h)) (some (fL,h)))) (opt (fastBin .geq a0 (uL 65)) fun t11_1 => test t11_1 (opt (fastBin .leq a0 (uL 90)) fun t14_1 => some (t14_1,h)) (some (fL,h)))
theorem TF370 (c : CF) (a0 : AV) (h : Heap) : (rk d370 P0 c 17 c370).1 k370 [] k370 gK (argsTr gl 0 [a0]) h = F370 c a0 h := by kernel_rfl
noncomputable def N370 : FnF := n1 F370
theorem N370_ok [Nu] : FnOk P0 gl 370 N370 := n1_ok namesOk mixedOrders lowOk Tryz.func370 (by kernel_rfl) (by kernel_rfl) (by kernel_rfl) TF370
noncomputable def c371 : Code := codeOf Tryz.f371
noncomputable def k371 : Kt := finK P0 Tryz.f371.results.toList
def d371 : List Nat := []
noncomputable def F371 (c : CF) (a0 a1 : AV) (h : Heap) : Res := opt2 (c 267 [a1] h) fun t6 h1 => opt2 (c 72 [t6,a0] h1) fun t8 h2 => some (t8,h2)
theorem TF371 (c : CF) (a0 a1 : AV) (h : Heap) : (rk d371 P0 c 9 c371).1 k371 [] k371 gK (argsTr gl 0 [a0,a1]) h = F371 c a0 a1 h := by kernel_rfl
noncomputable def N371 : FnF := n2 F371
theorem N371_ok [Nu] : FnOk P0 gl 371 N371 := n2_ok namesOk mixedOrders lowOk Tryz.func371 (by kernel_rfl) (by kernel_rfl) (by kernel_rfl) TF371
noncomputable def c373 : Code := codeOf Tryz.f373
noncomputable def k373 : Kt := finK P0 Tryz.f373.results.toList
def d373 : List Nat := [8,9]
noncomputable def S373_0 (c : CF) (t3 t4 t28 : AV) (h : Heap) : Res := test t28 (opt (fieldAddrX 1 t3) fun t37 => opt (loadX none t37 h) fun t38 => opt (fieldAddrX 2 t3) fun t39 => opt (loadX none t39 h) fun t40 => opt (buildX [(iL 0),(iL 0),eL,cL,eL,eL,nL,nL,nL] [(0,1),(1,1),(2,1),(3,1),(4,1),(5,1),(6,1),(7,1),(8,1)] [(0,(iL 3)),(1,t38),(2,t40)]) fun t41 => optH (storeX 9 t4 t41 h) fun h1 => opt (loadX (some 9) t4 h1) fun res => some (res,h1)) (none)
theorem TS373_0 (c : CF) : (rk d373 P0 c 46 c373.s2.fst.bd.snd.els.snd.els.snd).1 ((rk d373 P0 c 46 c373.s3).1 k373 [] k373 gK) [(0,((rk d373 P0 c 46 c373.s3).1 k373 [] k373 gK))] k373 gK = L3 (S373_0 c) 3 4 28 := by funext s h; kernel_rfl
noncomputable def S373_1 (c : CF) (t3 t4 : AV) (h : Heap) : Res := opt (fieldAddrX 2 t3) fun t29 => opt (loadX none t29 h) fun t30 => opt2 (c 184 [t30] h) fun t31 h1 => test t31 (S373_0 c t3 t4 tL h1) (opt (fieldAddrX 2 t3) fun t33 => opt (loadX none t33 h1) fun t34 => opt2 (c 449 [t34,(.fn (.func 184) [] [])] h1) fun t35 h2 => S373_0 c t3 t4 t35 h2)
theorem TS373_1 (c : CF) : (rk d373 P0 c 46 c373.s2.fst.bd.snd.els.snd.els).1 ((rk d373 P0 c 46 c373.s3).1 k373 [] k373 gK) [(0,((rk d373 P0 c 46 c373.s3).1 k373 [] k373 gK))] k373 gK = L2 (S373_1 c) 3 4 := Eq.trans (seq_t (by kernel_rfl) (TS373_0 c) rfl) (by funext s h; kernel_rfl)
noncomputable def S373_2 (c : CF) (t3 t4 t5 t22 : AV) (h : Heap) : Res := test t22 (opt (fieldAddrX 1 t3) fun t24 => opt (loadX none t24 h) fun t25 => opt (buildX [(iL 0),(iL 0),eL,cL,eL,eL,nL,nL,nL] [(0,1),(1,1),(2,1),(3,1),(4,1),(5,1),(6,1),(7,1),(8,1)] [(0,(iL 1)),(1,t25),(3,t5)]) fun t27 => optH (storeX 9 t4 t27 h) fun h1 => opt (loadX (some 9) t4 h1) fun res => some (res,h1)) (S373_1 c t3 t4 h)
theorem TS373_2 (c : CF) : (rk d373 P0 c 46 c373.s2.fst.bd.snd.els.snd).1 ((rk d373 P0 c 46 c373.s3).1 k373 [] k373 gK) [(0,((rk d373 P0 c 46 c373.s3).1 k373 [] k373 gK))] k373 gK = L4 (S373_2 c) 3 4 5 22 := Eq.trans (cond_t (by kernel_rfl) rfl (TS373_1 c)) (by funext s h; kernel_rfl)
noncomputable def S373_3 (c : CF) (t3 t4 t5 t6 : AV) (h : Heap) : Res := S373_2 c t3 t4 t5 t6 h
theorem TS373_3 (c : CF) : (rk d373 P0 c 46 c373.s2.fst.bd.snd.els).1 ((rk d373 P0 c 46 c373.s3).1 k373 [] k373 gK) [(0,((rk d373 P0 c 46 c373.s3).1 k373 [] k373 gK))] k373 gK = L4 (S373_3 c) 3 4 5 6 := Eq.trans (seq_t (by kernel_rfl) (TS373_2 c) rfl) (by funext s h; kernel_rfl)
noncomputable def S373_4 (c : CF) (t3 t4 t5 t6 t13 : AV) (h : Heap) : Res := test t13 (opt (fieldAddrX 1 t3) fun t17 => opt (loadX none t17 h) fun t18 => opt (fieldAddrX 2 t3) fun t19 => opt (loadX none t19 h) fun t20 => opt (buildX [(iL 0),(iL 0),eL,cL,eL,eL,nL,nL,nL] [(0,1),(1,1),(2,1),(3,1),(4,1),(5,1),(6,1),(7,1),(8,1)] [(0,(iL 2)),(1,t18),(4,t20)]) fun t21 => optH (storeX 9 t4 t21 h) fun h1 => opt (loadX (some 9) t4 h1) fun res => some (res,h1)) (S373_3 c t3 t4 t5 t6 h)
theorem TS373_4 (c : CF) : (rk d373 P0 c 46 c373.s2.fst.bd.snd).1 ((rk d373 P0 c 46 c373.s3).1 k373 [] k373 gK) [(0,((rk d373 P0 c 46 c373.s3).1 k373 [] k373 gK))] k373 gK = L5 (S373_4 c) 3 4 5 6 13 := Eq.trans (cond_t (by kernel_rfl) rfl (TS373_3 c)) (by funext s h; kernel_rfl)
noncomputable def S373_5 (c : CF) (t3 t4 t5 t6 : AV) (h : Heap) : Res := opt (fieldAddrX 0 t3) fun t14 => opt (loadX none t14 h) fun t15 => opt (fastBin .eql t15 (iL 4)) fun t16 => S373_4 c t3 t4 t5 t6 t16 h
theorem TS373_5 (c : CF) : (rk d373 P0 c 46 c373.s2).1 k373 [] k373 gK = L4 (S373_5 c) 3 4 5 6 := Eq.trans (seq_t (by kernel_rfl) rfl (block_t (id := 0) (by kernel_rfl) (seq_t (by kernel_rfl) (TS373_4 c) rfl))) (by funext s h; kernel_rfl)
noncomputable def S373_6 (c : CF) (t3 t4 : AV) (h : Heap) : Res := opt (fieldAddrX 2 t3) fun t8 => opt (loadX none t8 h) fun t9 => opt2 (c 448 [t9] h) fun t10 h1 => opt (extractX t10 0) fun t11 => opt (extractX t10 1) fun t12 => S373_5 c t3 t4 t11 t12 h1
theorem TS373_6 (c : CF) : (rk d373 P0 c 46 c373.snd).1 k373 [] k373 gK = L2 (S373_6 c) 3 4 := Eq.trans (seq_t (by kernel_rfl) (TS373_5 c) rfl) (by funext s h; kernel_rfl)
noncomputable def F373 (c : CF) (a0 a1 : AV) (h : Heap) : Res := opt2 (box a1 h) fun t3 h1 => opt2 (box (.agg [(iL 0),(iL 0),eL,cL,eL,eL,nL,nL,nL]) h1) fun t4 h2 => S373_6 c t3 t4 h2
theorem TF373 (c : CF) (a0 a1 : AV) (h : Heap) : (rk d373 P0 c 46 c373).1 k373 [] k373 gK (argsTr gl 0 [a0,a1]) h = F373 c a0 a1 h := Eq.trans (congrFun (congrFun (seq_t (by kernel_rfl) (TS373_6 c) rfl) _) _) (by kernel_rfl)
noncomputable def N373 : FnF := n2 F373
theorem N373_ok [Nu] : FnOk P0 gl 373 N373 := n2_ok namesOk mixedOrders lowOk Tryz.func373 (by kernel_rfl) (by kernel_rfl) (by kernel_rfl) TF373
noncomputable def c374 : Code := codeOf Tryz.f374
noncomputable def k374 : Kt := finK P0 Tryz.f374.results.toList
def d374 : List Nat := [7]
noncomputable def S374_0 (c : CF) (t5 : AV) (h : Heap) : Res := some (t5,h)
theorem TS374_0 (c : CF) : (rk d374 P0 c 27 c374.s3).1 k374 [] k374 gK = L1 (S374_0 c) 5 := by funext s h; kernel_rfl
noncomputable def S374_2b (c : CF) (r1 : A5) (t0 t5 t8 t9 t10 : AV) (h : Heap) : Res := opt (fastBin .lss t10 t9) fun t11 => test t11 (opt (indexAddrS 4 t8 t10 h) fun t12 => opt (loadX (some 4) t12 h) fun t13 => opt2 (box (.agg [(iL 0),(iL 0),eL,nL]) h) fun t7 h1 => optH (storeX 4 t7 t13 h1) fun h2 => opt (loadX (some 4) t7 h2) fun t16 => opt2 (c 282 [t0,t16] h2) fun t17 h3 => opt2 (bsliceX 9 (.agg [(iL 0),(iL 0),eL,cL,eL,eL,nL,nL,nL]) 1 [(0,t17)] h3) fun t18 h4 => opt2 (appendX 9 152 t5 t18 h4) fun t19 h5 => opt (nilCheckX t0) fun t21 => opt (fieldAddrX 1 t21) fun t22 => opt (loadX none t22 h5) fun t23 => opt (fastBin .neq t23 (iL 0)) fun t24 => test t24 (none) (opt (fastBin .add t10 (iL 1)) fun t25 => r1 t0 t19 t8 t9 t25 h5)) (S374_0 c t5 h)
theorem TS374_2b (c : CF) (r1 : A5) : (rk d374 P0 c 27 c374.s2.fst.snd.bd.bd).1 (L5 r1 0 5 8 9 10) [(0,(L1 (S374_0 c) 5))] k374 gK = L5 (S374_2b c r1) 0 5 8 9 10 := by funext s h; kernel_rfl
noncomputable def S374_1l (c : CF) : Nat → A5
  | 0 => fun _ _ _ _ _ _ => none
  | k + 1 => S374_2b c (S374_1l c k)
theorem TS374_1l (c : CF) : (rk d374 P0 c 27 c374.s2.fst.snd.bd).1 (L1 (S374_0 c) 5) [(0,(L1 (S374_0 c) 5))] k374 gK = L5 (S374_1l c rounds) 0 5 8 9 10 := loop_t (by kernel_rfl) (loop_ind (A := fun m => L5 (S374_1l c m) 0 5 8 9 10) rfl (fun m => TS374_2b c (S374_1l c m)) rounds)
noncomputable def S374_3 (c : CF) (t0 t5 t8 t9 t10 : AV) (h : Heap) : Res := S374_1l c rounds t0 t5 t8 t9 t10 h
theorem TS374_3 (c : CF) : (rk d374 P0 c 27 c374.s2.fst.snd).1 (L1 (S374_0 c) 5) [] k374 gK = L5 (S374_3 c) 0 5 8 9 10 := Eq.trans (block_t (id := 0) (by kernel_rfl) (TS374_1l c)) (by funext s h; kernel_rfl)
noncomputable def S374_4 (c : CF) (t0 t1 t5 : AV) (h : Heap) : Res := opt (lenS t1) fun t9 => S374_3 c t0 t5 t1 t9 (iL 0) h
theorem TS374_4 (c : CF) : (rk d374 P0 c 27 c374.s2).1 k374 [] k374 gK = L3 (S374_4 c) 0 1 5 := Eq.trans (seq_t (by kernel_rfl) (TS374_0 c) (seq_t (by kernel_rfl) (TS374_3 c) rfl)) (by funext s h; kernel_rfl)
noncomputable def S374_5 (c : CF) (t0 t1 : AV) (h : Heap) : Res := S374_4 c t0 t1 nL h
theorem TS374_5 (c : CF) : (rk d374 P0 c 27 c374.snd).1 k374 [] k374 gK = L2 (S374_5 c) 0 1 := Eq.trans (seq_t (by kernel_rfl) (TS374_4 c) rfl) (by funext s h; kernel_rfl)
noncomputable def F374 (c : CF) (a0 a1 : AV) (h : Heap) : Res := S374_5 c a0 a1 h
theorem TF374 (c : CF) (a0 a1 : AV) (h : Heap) : (rk d374 P0 c 27 c374).1 k374 [] k374 gK (argsTr gl 0 [a0,a1]) h = F374 c a0 a1 h := Eq.trans (congrFun (congrFun (seq_t (by kernel_rfl) (TS374_5 c) rfl) _) _) (by kernel_rfl)
noncomputable def N374 : FnF := n2 F374
theorem N374_ok [Nu] : FnOk P0 gl 374 N374 := n2_ok namesOk mixedOrders lowOk Tryz.func374 (by kernel_rfl) (by kernel_rfl) (by kernel_rfl) TF374
noncomputable def c377 : Code := codeOf Tryz.f377
noncomputable def k377 : Kt := finK P0 Tryz.f377.results.toList
def d377 : List Nat := []
noncomputable def S377_0 (c : CF) (h : Heap) : Res := some ((iL (-1)),h)
theorem TS377_0 (c : CF) : (rk d377 P0 c 19 c377.s2).1 k377 [] k377 gK = L0 (S377_0 c) := by funext s h; kernel_rfl
noncomputable def S377_2b (c : CF) (r1 : A4) (t0 t1 t7 t8 : AV) (h : Heap) : Res := opt (fastBin .lss t8 t7) fun t9 => test t9 (opt (indexAddrS 2 t0 t8 h) fun t14 => opt (loadX (some 2) t14 h) fun t15 => opt2 (callV P0 c t1 [t15] h) fun t16 h1 => test t16 (some (t8,h1)) (opt (fastBin .add t8 (iL 1)) fun t18 => r1 t0 t1 t7 t18 h1)) (S377_0 c h)
theorem TS377_2b (c : CF) (r1 : A4) : (rk d377 P0 c 19 c377.snd.fst.snd.bd.bd).1 (L4 r1 0 1 7 8) [(0,(L0 (S377_0 c)))] k377 gK = L4 (S377_2b c r1) 0 1 7 8 := by funext s h; kernel_rfl
noncomputable def S377_1l (c : CF) : Nat → A4
  | 0 => fun _ _ _ _ _ => none
  | k + 1 => S377_2b c (S377_1l c k)
theorem TS377_1l (c : CF) : (rk d377 P0 c 19 c377.snd.fst.snd.bd).1 (L0 (S377_0 c)) [(0,(L0 (S377_0 c)))] k377 gK = L4 (S377_1l c rounds) 0 1 7 8 := loop_t (by kernel_rfl) (loop_ind (A := fun m => L4 (S377_1l c m) 0 1 7 8) rfl (fun m => TS377_2b c (S377_1l c m)) rounds)
noncomputable def S377_3 (c : CF) (t0 t1 t7 t8 : AV) (h : Heap) : Res := S377_1l c rounds t0 t1 t7 t8 h
theorem TS377_3 (c : CF) : (rk d377 P0 c 19 c377.snd.fst.snd).1 (L0 (S377_0 c)) [] k377 gK = L4 (S377_3 c) 0 1 7 8 := Eq.trans (block_t (id := 0) (by kernel_rfl) (TS377_1l c)) (by funext s h; kernel_rfl)
noncomputable def S377_4 (c : CF) (t0 t1 : AV) (h : Heap) : Res := opt (lenS t0) fun t7 => S377_3 c t0 t1 t7 (iL 0) h
theorem TS377_4 (c : CF) : (rk d377 P0 c 19 c377.snd).1 k377 [] k377 gK = L2 (S377_4 c) 0 1 := Eq.trans (seq_t (by kernel_rfl) (TS377_0 c) (seq_t (by kernel_rfl) (TS377_3 c) rfl)) (by funext s h; kernel_rfl)
noncomputable def F377 (c : CF) (a0 a1 : AV) (h : Heap) : Res := S377_4 c a0 a1 h
theorem TF377 (c : CF) (a0 a1 : AV) (h : Heap) : (rk d377 P0 c 19 c377).1 k377 [] k377 gK (argsTr gl 0 [a0,a1]) h = F377 c a0 a1 h := Eq.trans (congrFun (congrFun (seq_t (by kernel_rfl) (TS377_4 c) rfl) _) _) (by kernel_rfl)
noncomputable def N377 : FnF := n2 F377
theorem N377_ok [Nu] : FnOk P0 gl 377 N377 := n2_ok namesOk mixedOrders lowOk Tryz.func377 (by kernel_rfl) (by kernel_rfl) (by kernel_rfl) TF377
noncomputable def c379 : Code := codeOf Tryz.f379
noncomputable def k379 : Kt := finK P0 Tryz.f379.results.toList
def d379 : List Nat := []
noncomputable def F379 (c : CF) (a0 a1 : AV) (h : Heap) : Res := opt2 (c 238 [a0,a1] h) fun t7 h1 => opt (fastBin .geq t7 (iL 0)) fun t8 => some (t8,h1)
theorem TF379 (c : CF) (a0 a1 : AV) (h : Heap) : (rk d379 P0 c 9 c379).1 k379 [] k379 gK (argsTr gl 0 [a0,a1]) h = F379 c a0 a1 h := by kernel_rfl
noncomputable def N379 : FnF := n2 F379
theorem N379_ok [Nu] : FnOk P0 gl 379 N379 := n2_ok namesOk mixedOrders lowOk Tryz.func379 (by kernel_rfl) (by kernel_rfl) (by kernel_rfl) TF379
noncomputable def c380 : Code := codeOf Tryz.f380
noncomputable def k380 : Kt := finK P0 Tryz.f380.results.toList
def d380 : List Nat := [2]
noncomputable def S380_0 (c : CF) (t3 : AV) (h : Heap) : Res := opt2 (c 60 [t3] h) fun t24 h1 => opt2 (c 122 [t3] h1) fun t26 h2 => some (t26,h2)
theorem TS380_0 (c : CF) : (rk d380 P0 c 27 c380.s4).1 k380 [] k380 gK = L1 (S380_0 c) 3 := by funext s h; kernel_rfl
noncomputable def S380_2b (c : CF) (r1 : A4) (t3 t10 t11 t12 : AV) (h : Heap) : Res := opt (fastBin .lss t12 t11) fun t13 => test t13 (opt (indexAddrS 1 t10 t12 h) fun t14 => opt (loadX none t14 h) fun t15 => opt2 (c 452 [t15,(sL [46])] h) fun t17 h1 => test t17 (opt2 (bsliceX 1 eL 1 [(0,t15)] h1) fun t20 h2 => opt2 (appendX 1 16 t3 t20 h2) fun t21 h3 => opt (fastBin .add t12 (iL 1)) fun t22 => r1 t21 t10 t11 t22 h3) (opt (fastBin .add t12 (iL 1)) fun t22_1 => r1 t3 t10 t11 t22_1 h1)) (S380_0 c t3 h)
theorem TS380_2b (c : CF) (r1 : A4) : (rk d380 P0 c 27 c380.s3.fst.snd.bd.bd).1 (L4 r1 3 10 11 12) [(0,(L1 (S380_0 c) 3))] k380 gK = L4 (S380_2b c r1) 3 10 11 12 := by funext s h; kernel_rfl
noncomputable def S380_1l (c : CF) : Nat → A4
  | 0 => fun _ _ _ _ _ => none
  | k + 1 => S380_2b c (S380_1l c k)
theorem TS380_1l (c : CF) : (rk d380 P0 c 27 c380.s3.fst.snd.bd).1 (L1 (S380_0 c) 3) [(0,(L1 (S380_0 c) 3))] k380 gK = L4 (S380_1l c rounds) 3 10 11 12 := loop_t (by kernel_rfl) (loop_ind (A := fun m => L4 (S380_1l c m) 3 10 11 12) rfl (fun m => TS380_2b c (S380_1l c m)) rounds)
noncomputable def S380_3 (c : CF) (t3 t10 t11 t12 : AV) (h : Heap) : Res := S380_1l c rounds t3 t10 t11 t12 h
theorem TS380_3 (c : CF) : (rk d380 P0 c 27 c380.s3.fst.snd).1 (L1 (S380_0 c) 3) [] k380 gK = L4 (S380_3 c) 3 10 11 12 := Eq.trans (block_t (id := 0) (by kernel_rfl) (TS380_1l c)) (by funext s h; kernel_rfl)
noncomputable def S380_4 (c : CF) (t0 t3 : AV) (h : Heap) : Res := opt2 (c 364 [t0,(.fn (.func 450) [] [])] h) fun t10 h1 => opt (lenS t10) fun t11 => S380_3 c t3 t10 t11 (iL 0) h1
theorem TS380_4 (c : CF) : (rk d380 P0 c 27 c380.s3).1 k380 [] k380 gK = L2 (S380_4 c) 0 3 := Eq.trans (seq_t (by kernel_rfl) (TS380_0 c) (seq_t (by kernel_rfl) (TS380_3 c) rfl)) (by funext s h; kernel_rfl)
noncomputable def S380_5 (c : CF) (t0 : AV) (h : Heap) : Res := S380_4 c t0 nL h
theorem TS380_5 (c : CF) : (rk d380 P0 c 27 c380.s2).1 k380 [] k380 gK = L1 (S380_5 c) 0 := Eq.trans (seq_t (by kernel_rfl) (TS380_4 c) rfl) (by funext s h; kernel_rfl)
noncomputable def S380_6 (c : CF) (t0 : AV) (h : Heap) : Res := opt2 (c 147 [t0] h) fun t7 h1 => opt (notX t7) fun t8 => test t8 (none) (S380_5 c t0 h1)
theorem TS380_6 (c : CF) : (rk d380 P0 c 27 c380.snd).1 k380 [] k380 gK = L1 (S380_6 c) 0 := Eq.trans (seq_t (by kernel_rfl) (TS380_5 c) rfl) (by funext s h; kernel_rfl)
noncomputable def F380 (c : CF) (a0 : AV) (h : Heap) : Res := S380_6 c a0 h
theorem TF380 (c : CF) (a0 : AV) (h : Heap) : (rk d380 P0 c 27 c380).1 k380 [] k380 gK (argsTr gl 0 [a0]) h = F380 c a0 h := Eq.trans (congrFun (congrFun (seq_t (by kernel_rfl) (TS380_6 c) rfl) _) _) (by kernel_rfl)
noncomputable def N380 : FnF := n1 F380
theorem N380_ok [Nu] : FnOk P0 gl 380 N380 := n1_ok namesOk mixedOrders lowOk Tryz.func380 (by kernel_rfl) (by kernel_rfl) (by kernel_rfl) TF380
noncomputable def c383 : Code := codeOf Tryz.f383
noncomputable def k383 : Kt := finK P0 Tryz.f383.results.toList
def d383 : List Nat := [2,5,8]
noncomputable def S383_0 (c : CF) (t0 t3 : AV) (h : Heap) : Res := opt (fieldAddrX 6 t3) fun t30 => opt (loadX none t30 h) fun t31 => opt2 (c 454 [t0,t31] h) fun t32 h1 => opt (nilCheckX t0) fun t34 => opt (fieldAddrX 3 t34) fun t35 => opt (loadX none t35 h1) fun t36 => opt (fastBin .neq t36 (iL 0)) fun t37 => test t37 (none) (opt (fieldAddrX 2 t3) fun t39 => opt (loadX none t39 h1) fun t40 => opt2 (c 455 [t40,t32] h1) fun t42 h2 => opt (extractX t42 0) fun t43 => opt (extractX t42 1) fun t44 => opt (fastBin .geq t44 (iL 0)) fun t46 => test t46 (none) (some (t43,h2)))
theorem TS383_0 (c : CF) : (rk d383 P0 c 55 c383.s2).1 k383 [] k383 gK = L2 (S383_0 c) 0 3 := by funext s h; kernel_rfl
noncomputable def S383_1 (c : CF) (t0 t3 : AV) (h : Heap) : Res := opt (fieldAddrX 2 t3) fun t9 => opt (loadX none t9 h) fun t10 => eqH h h (opt2 (c 168 [t10] h) fun t11 h1 => eqH h1 h (opt (fastBin .gtr t11 (iL 0)) fun t12 => opt (loadX (some 9) t3 h) fun t13 => eqH h h (opt2 (c 387 [t0,t12,(iL 12),t13] h) fun t14 h2 => opt (notX t14) fun t15 => test t15 (none) (opt (fieldAddrX 2 t3) fun t18 => opt (loadX none t18 h2) fun t19 => eqH h2 h2 (opt2 (c 168 [t19] h2) fun t20 h3 => eqH h3 h2 (opt (fieldAddrX 6 t3) fun t21 => opt (loadX none t21 h2) fun t22 => eqH h2 h2 (opt (lenS t22) fun t23 => opt (fastBin .eql t20 t23) fun t24 => opt (loadX (some 9) t3 h2) fun t25 => eqH h2 h2 (opt2 (c 387 [t0,t24,(iL 19),t25] h2) fun t26 h4 => opt (notX t26) fun t27 => test t27 (none) (S383_0 c t0 t3 h4)))))))))
theorem TS383_1 (c : CF) : (rk d383 P0 c 55 c383.snd).1 k383 [] k383 gK = L2 (S383_1 c) 0 3 := Eq.trans (seq_t (by kernel_rfl) (TS383_0 c) rfl) (by funext s h; kernel_rfl)
noncomputable def F383 (c : CF) (a0 a1 : AV) (h : Heap) : Res := opt2 (box a1 h) fun t3 h1 => S383_1 c a0 t3 h1
theorem TF383 (c : CF) (a0 a1 : AV) (h : Heap) : (rk d383 P0 c 55 c383).1 k383 [] k383 gK (argsTr gl 0 [a0,a1]) h = F383 c a0 a1 h := Eq.trans (congrFun (congrFun (seq_t (by kernel_rfl) (TS383_1 c) rfl) _) _) (by kernel_rfl)
noncomputable def N383 : FnF := n2 F383
theorem N383_ok [Nu] : FnOk P0 gl 383 N383 := n2_ok namesOk mixedOrders lowOk Tryz.func383 (by kernel_rfl) (by kernel_rfl) (by kernel_rfl) TF383
noncomputable def c387 : Code := codeOf Tryz.f387
noncomputable def k387 : Kt := finK P0 Tryz.f387.results.toList
def d387 : List Nat := [2]
noncomputable def S387_0 (c : CF) (t0 : AV) (h : Heap) : Res := opt (nilCheckX t0) fun t28 => opt (fieldAddrX 3 t28) fun t29 => opt (loadX none t29 h) fun t30 => opt (fastBin .eql t30 (iL 0)) fun t31 => some (t31,h)
theorem TS387_0 (c : CF) : (rk d387 P0 c 32 c387.s2).1 k387 [] k387 gK = L1 (S387_0 c) 0 := by funext s h; kernel_rfl
noncomputable def S387_1 (c : CF) (t0 t1 : AV) (h : Heap) : Res := opt (notX t1) fun t10 => test t10 (opt (nilCheckX t0) fun t13 => opt (fieldAddrX 3 t13) fun t14 => opt (loadX none t14 h) fun t15 => opt (fastBin .eql t15 (iL 0)) fun t16 => test t16 (none) (S387_0 c t0 h)) (S387_0 c t0 h)
theorem TS387_1 (c : CF) : (rk d387 P0 c 32 c387.snd).1 k387 [] k387 gK = L2 (S387_1 c) 0 1 := Eq.trans (seq_t (by kernel_rfl) (TS387_0 c) rfl) (by funext s h; kernel_rfl)
noncomputable def F387 (c : CF) (a0 a1 a2 a3 : AV) (h : Heap) : Res := opt2 (box a3 h) fun t7 h1 => S387_1 c a0 a1 h1
theorem TF387 (c : CF) (a0 a1 a2 a3 : AV) (h : Heap) : (rk d387 P0 c 32 c387).1 k387 [] k387 gK (argsTr gl 0 [a0,a1,a2,a3]) h = F387 c a0 a1 a2 a3 h := Eq.trans (congrFun (congrFun (seq_t (by kernel_rfl) (TS387_1 c) rfl) _) _) (by kernel_rfl)
noncomputable def N387 : FnF := n4 F387
theorem N387_ok [Nu] : FnOk P0 gl 387 N387 := n4_ok namesOk mixedOrders lowOk Tryz.func387 (by kernel_rfl) (by kernel_rfl) (by kernel_rfl) TF387
noncomputable def c394 : Code := codeOf Tryz.f394
noncomputable def k394 : Kt := finK P0 Tryz.f394.results.toList
def d394 : List Nat := []
noncomputable def S394_0 (c : CF) (h : Heap) : Res := some ((iL (-1)),h)
theorem TS394_0 (c : CF) : (rk d394 P0 c 19 c394.s2).1 k394 [] k394 gK = L0 (S394_0 c) := by funext s h; kernel_rfl
noncomputable def S394_2b (c : CF) (r1 : A4) (t0 t1 t7 t8 : AV) (h : Heap) : Res := opt (fastBin .lss t8 t7) fun t9 => test t9 (opt (indexAddrS 5 t0 t8 h) fun t14 => opt (loadX (some 5) t14 h) fun t15 => opt2 (callV P0 c t1 [t15] h) fun t16 h1 => test t16 (some (t8,h1)) (opt (fastBin .add t8 (iL 1)) fun t18 => r1 t0 t1 t7 t18 h1)) (S394_0 c h)
theorem TS394_2b (c : CF) (r1 : A4) : (rk d394 P0 c 19 c394.snd.fst.snd.bd.bd).1 (L4 r1 0 1 7 8) [(0,(L0 (S394_0 c)))] k394 gK = L4 (S394_2b c r1) 0 1 7 8 := by funext s h; kernel_rfl
noncomputable def S394_1l (c : CF) : Nat → A4
  | 0 => fun _ _ _ _ _ => none
  | k + 1 => S394_2b c (S394_1l c k)
theorem TS394_1l (c : CF) : (rk d394 P0 c 19 c394.snd.fst.snd.bd).1 (L0 (S394_0 c)) [(0,(L0 (S394_0 c)))] k394 gK = L4 (S394_1l c rounds) 0 1 7 8 := loop_t (by kernel_rfl) (loop_ind (A := fun m => L4 (S394_1l c m) 0 1 7 8) rfl (fun m => TS394_2b c (S394_1l c m)) rounds)
noncomputable def S394_3 (c : CF) (t0 t1 t7 t8 : AV) (h : Heap) : Res := S394_1l c rounds t0 t1 t7 t8 h
theorem TS394_3 (c : CF) : (rk d394 P0 c 19 c394.snd.fst.snd).1 (L0 (S394_0 c)) [] k394 gK = L4 (S394_3 c) 0 1 7 8 := Eq.trans (block_t (id := 0) (by kernel_rfl) (TS394_1l c)) (by funext s h; kernel_rfl)
noncomputable def S394_4 (c : CF) (t0 t1 : AV) (h : Heap) : Res := opt (lenS t0) fun t7 => S394_3 c t0 t1 t7 (iL 0) h
theorem TS394_4 (c : CF) : (rk d394 P0 c 19 c394.snd).1 k394 [] k394 gK = L2 (S394_4 c) 0 1 := Eq.trans (seq_t (by kernel_rfl) (TS394_0 c) (seq_t (by kernel_rfl) (TS394_3 c) rfl)) (by funext s h; kernel_rfl)
noncomputable def F394 (c : CF) (a0 a1 : AV) (h : Heap) : Res := S394_4 c a0 a1 h
theorem TF394 (c : CF) (a0 a1 : AV) (h : Heap) : (rk d394 P0 c 19 c394).1 k394 [] k394 gK (argsTr gl 0 [a0,a1]) h = F394 c a0 a1 h := Eq.trans (congrFun (congrFun (seq_t (by kernel_rfl) (TS394_4 c) rfl) _) _) (by kernel_rfl)
noncomputable def N394 : FnF := n2 F394
theorem N394_ok [Nu] : FnOk P0 gl 394 N394 := n2_ok namesOk mixedOrders lowOk Tryz.func394 (by kernel_rfl) (by kernel_rfl) (by kernel_rfl) TF394
noncomputable def c398 : Code := codeOf Tryz.f398
noncomputable def k398 : Kt := finK P0 Tryz.f398.results.toList
def d398 : List Nat := []
noncomputable def F398 (c : CF) (a0 : AV) (h : Heap) : Res := opt2 (box a0 h) fun t1 h1 => opt (loadX (some 7) t1 h1) fun t3 => opt2 (c 473 [t3,nL] h1) fun t4 h2 => opt (lenS t4) fun t5 => some (t5,h2)
theorem TF398 (c : CF) (a0 : AV) (h : Heap) : (rk d398 P0 c 6 c398).1 k398 [] k398 gK (argsTr gl 0 [a0]) h = F398 c a0 h := by kernel_rfl
noncomputable def N398 : FnF := n1 F398
theorem N398_ok [Nu] : FnOk P0 gl 398 N398 := n1_ok namesOk mixedOrders lowOk Tryz.func398 (by kernel_rfl) (by kernel_rfl) (by kernel_rfl) TF398
noncomputable def c399 : Code := codeOf Tryz.f399
noncomputable def k399 : Kt := finK P0 Tryz.f399.results.toList
def d399 : List Nat := [6,8,15,21]
noncomputable def S399_0 (c : CF) (t4 : AV) (h : Heap) : Res := opt (lenS t4) fun t60 => opt (fastBin .gtr t60 (iL 2048)) fun t61 => test t61 (none) (some ((.tup [t4,(iL 0)]),h))
theorem TS399_0 (c : CF) : (rk d399 P0 c 63 c399.s3).1 k399 [] k399 gK = L1 (S399_0 c) 4 := by funext s h; kernel_rfl
noncomputable def S399_2 (c : CF) (r1 : A4) (t4 t11 t12 t13 : AV) (h : Heap) : Res := opt (fastBin .add t13 (iL 1)) fun t58 => r1 t4 t11 t12 t58 h
theorem TS399_2 (c : CF) (r1 : A4) : (rk d399 P0 c 63 c399.s2.fst.snd.bd.bd.s3).1 (L4 r1 4 11 12 13) [(0,(L1 (S399_0 c) 4))] k399 gK = L4 (S399_2 c r1) 4 11 12 13 := by funext s h; kernel_rfl
noncomputable def S399_3 (c : CF) (r1 : A4) (t4 t6 t8 t11 t12 t13 : AV) (h : Heap) : Res := opt (loadX (some 7) t6 h) fun t54 => opt2 (c 473 [t54,t8] h) fun t56 h1 => opt2 (appendX 1 1 t4 t56 h1) fun t57 h2 => S399_2 c r1 t57 t11 t12 t13 h2
theorem TS399_3 (c : CF) (r1 : A4) : (rk d399 P0 c 63 c399.s2.fst.snd.bd.bd.s2.fst.bd.s6).1 (L4 (S399_2 c r1) 4 11 12 13) [(1,(L4 (S399_2 c r1) 4 11 12 13)),(0,(L1 (S399_0 c) 4))] k399 gK = L6 (S399_3 c r1) 4 6 8 11 12 13 := by funext s h; kernel_rfl
noncomputable def S399_5 (c : CF) (r1 : A4) (r4 : A10) (t4 t6 t7 t8 t10 t11 t12 t13 t31 t32 t33 : AV) (h : Heap) : Res := opt (fastBin .sub t10 t7) fun t49 => opt2 (bsliceX 1 (iL 0) 1 [(0,t49)] h) fun t50 h1 => opt2 (appendX 1 8 t8 t50 h1) fun t51 h2 => opt (fastBin .add t33 (iL 1)) fun t52 => r4 t4 t6 t7 t51 t11 t12 t13 t31 t32 t52 h2
theorem TS399_5 (c : CF) (r1 : A4) (r4 : A10) : (rk d399 P0 c 63 c399.s2.fst.snd.bd.bd.s2.fst.bd.s5.fst.snd.bd.bd.s2.fst.bd.s2).1 ((rk d399 P0 c 63 c399.s2.fst.snd.bd.bd.s2.fst.bd.s5.fst.snd.bd.bd.s3).1 (L10 r4 4 6 7 8 11 12 13 31 32 33) [(2,(L6 (S399_3 c r1) 4 6 8 11 12 13)),(1,(L4 (S399_2 c r1) 4 11 12 13)),(0,(L1 (S399_0 c) 4))] k399 gK) [(3,((rk d399 P0 c 63 c399.s2.fst.snd.bd.bd.s2.fst.bd.s5.fst.snd.bd.bd.s3).1 (L10 r4 4 6 7 8 11 12 13 31 32 33) [(2,(L6 (S399_3 c r1) 4 6 8 11 12 13)),(1,(L4 (S399_2 c r1) 4 11 12 13)),(0,(L1 (S399_0 c) 4))] k399 gK)),(2,(L6 (S399_3 c r1) 4 6 8 11 12 13)),(1,(L4 (S399_2 c r1) 4 11 12 13)),(0,(L1 (S399_0 c) 4))] k399 gK = L11 (S399_5 c r1 r4) 4 6 7 8 10 11 12 13 31 32 33 := by funext s h; kernel_rfl
noncomputable def S399_6 (c : CF) (r1 : A4) (r4 : A10) (t4 t6 t7 t8 t10 t11 t12 t13 t31 t32 t33 : AV) (h : Heap) : Res := opt (fastBin .lss t10 t7) fun t39 => test t39 (none) (opt (fastBin .add t7 (iL 65535)) fun t43 => opt (fastBin .gtr t10 t43) fun t44 => test t44 (none) (S399_5 c r1 r4 t4 t6 t7 t8 t10 t11 t12 t13 t31 t32 t33 h))
theorem TS399_6 (c : CF) (r1 : A4) (r4 : A10) : (rk d399 P0 c 63 c399.s2.fst.snd.bd.bd.s2.fst.bd.s5.fst.snd.bd.bd.s2.fst.bd.snd).1 ((rk d399 P0 c 63 c399.s2.fst.snd.bd.bd.s2.fst.bd.s5.fst.snd.bd.bd.s3).1 (L10 r4 4 6 7 8 11 12 13 31 32 33) [(2,(L6 (S399_3 c r1) 4 6 8 11 12 13)),(1,(L4 (S399_2 c r1) 4 11 12 13)),(0,(L1 (S399_0 c) 4))] k399 gK) [(3,((rk d399 P0 c 63 c399.s2.fst.snd.bd.bd.s2.fst.bd.s5.fst.snd.bd.bd.s3).1 (L10 r4 4 6 7 8 11 12 13 31 32 33) [(2,(L6 (S399_3 c r1) 4 6 8 11 12 13)),(1,(L4 (S399_2 c r1) 4 11 12 13)),(0,(L1 (S399_0 c) 4))] k399 gK)),(2,(L6 (S399_3 c r1) 4 6 8 11 12 13)),(1,(L4 (S399_2 c r1) 4 11 12 13)),(0,(L1 (S399_0 c) 4))] k399 gK = L11 (S399_6 c r1 r4) 4 6 7 8 10 11 12 13 31 32 33 := Eq.trans (seq_t (by kernel_rfl) (TS399_5 c r1 r4) rfl) (by funext s h; kernel_rfl)
noncomputable def S399_7 (c : CF) (r1 : A4) (r4 : A10) (t4 t6 t7 t8 t11 t12 t13 t31 t32 t33 : AV) (h : Heap) : Res := opt (indexAddrS 1 t31 t33 h) fun t35 => opt (loadX none t35 h) fun t36 => S399_6 c r1 r4 t4 t6 t7 t8 t36 t11 t12 t13 t31 t32 t33 h
theorem TS399_7 (c : CF) (r1 : A4) (r4 : A10) : (rk d399 P0 c 63 c399.s2.fst.snd.bd.bd.s2.fst.bd.s5.fst.snd.bd.bd.s2).1 (L10 r4 4 6 7 8 11 12 13 31 32 33) [(2,(L6 (S399_3 c r1) 4 6 8 11 12 13)),(1,(L4 (S399_2 c r1) 4 11 12 13)),(0,(L1 (S399_0 c) 4))] k399 gK = L10 (S399_7 c r1 r4) 4 6 7 8 11 12 13 31 32 33 := Eq.trans (seq_t (by kernel_rfl) rfl (block_t (id := 3) (by kernel_rfl) (seq_t (by kernel_rfl) (TS399_6 c r1 r4) rfl))) (by funext s h; kernel_rfl)
noncomputable def S399_8 (c : CF) (r1 : A4) (r4 : A10) (t4 t6 t7 t8 t11 t12 t13 t31 t32 t33 t34 : AV) (h : Heap) : Res := test t34 (S399_7 c r1 r4 t4 t6 t7 t8 t11 t12 t13 t31 t32 t33 h) (S399_3 c r1 t4 t6 t8 t11 t12 t13 h)
theorem TS399_8 (c : CF) (r1 : A4) (r4 : A10) : (rk d399 P0 c 63 c399.s2.fst.snd.bd.bd.s2.fst.bd.s5.fst.snd.bd.bd.snd).1 (L10 r4 4 6 7 8 11 12 13 31 32 33) [(2,(L6 (S399_3 c r1) 4 6 8 11 12 13)),(1,(L4 (S399_2 c r1) 4 11 12 13)),(0,(L1 (S399_0 c) 4))] k399 gK = L11 (S399_8 c r1 r4) 4 6 7 8 11 12 13 31 32 33 34 := Eq.trans (seq_t (by kernel_rfl) (TS399_7 c r1 r4) rfl) (by funext s h; kernel_rfl)
noncomputable def S399_9b (c : CF) (r1 : A4) (r4 : A10) (t4 t6 t7 t8 t11 t12 t13 t31 t32 t33 : AV) (h : Heap) : Res := opt (fastBin .lss t33 t32) fun t34 => S399_8 c r1 r4 t4 t6 t7 t8 t11 t12 t13 t31 t32 t33 t34 h
theorem TS399_9b (c : CF) (r1 : A4) (r4 : A10) : (rk d399 P0 c 63 c399.s2.fst.snd.bd.bd.s2.fst.bd.s5.fst.snd.bd.bd).1 (L10 r4 4 6 7 8 11 12 13 31 32 33) [(2,(L6 (S399_3 c r1) 4 6 8 11 12 13)),(1,(L4 (S399_2 c r1) 4 11 12 13)),(0,(L1 (S399_0 c) 4))] k399 gK = L10 (S399_9b c r1 r4) 4 6 7 8 11 12 13 31 32 33 := Eq.trans (seq_t (by kernel_rfl) (TS399_8 c r1 r4) rfl) (by funext s h; kernel_rfl)
noncomputable def S399_4l (c : CF) (r1 : A4) : Nat → A10
  | 0 => fun _ _ _ _ _ _ _ _ _ _ _ => none
  | k + 1 => S399_9b c r1 (S399_4l c r1 k)
theorem TS399_4l (c : CF) (r1 : A4) : (rk d399 P0 c 63 c399.s2.fst.snd.bd.bd.s2.fst.bd.s5.fst.snd.bd).1 (L6 (S399_3 c r1) 4 6 8 11 12 13) [(2,(L6 (S399_3 c r1) 4 6 8 11 12 13)),(1,(L4 (S399_2 c r1) 4 11 12 13)),(0,(L1 (S399_0 c) 4))] k399 gK = L10 (S399_4l c r1 rounds) 4 6 7 8 11 12 13 31 32 33 := loop_t (by kernel_rfl) (loop_ind (A := fun m => L10 (S399_4l c r1 m) 4 6 7 8 11 12 13 31 32 33) rfl (fun m => TS399_9b c r1 (S399_4l c r1 m)) rounds)
noncomputable def S399_10 (c : CF) (r1 : A4) (t4 t6 t7 t8 t11 t12 t13 t31 t32 t33 : AV) (h : Heap) : Res := S399_4l c r1 rounds t4 t6 t7 t8 t11 t12 t13 t31 t32 t33 h
theorem TS399_10 (c : CF) (r1 : A4) : (rk d399 P0 c 63 c399.s2.fst.snd.bd.bd.s2.fst.bd.s5.fst.snd).1 (L6 (S399_3 c r1) 4 6 8 11 12 13) [(1,(L4 (S399_2 c r1) 4 11 12 13)),(0,(L1 (S399_0 c) 4))] k399 gK = L10 (S399_10 c r1) 4 6 7 8 11 12 13 31 32 33 := Eq.trans (block_t (id := 2) (by kernel_rfl) (TS399_4l c r1)) (by funext s h; kernel_rfl)
noncomputable def S399_11 (c : CF) (r1 : A4) (t4 t6 t7 t8 t11 t12 t13 : AV) (h : Heap) : Res := opt (fieldAddrX 6 t6) fun t30 => opt (loadX none t30 h) fun t31 => opt (lenS t31) fun t32 => S399_10 c r1 t4 t6 t7 t8 t11 t12 t13 t31 t32 (iL 0) h
theorem TS399_11 (c : CF) (r1 : A4) : (rk d399 P0 c 63 c399.s2.fst.snd.bd.bd.s2.fst.bd.s5).1 (L4 (S399_2 c r1) 4 11 12 13) [(1,(L4 (S399_2 c r1) 4 11 12 13)),(0,(L1 (S399_0 c) 4))] k399 gK = L7 (S399_11 c r1) 4 6 7 8 11 12 13 := Eq.trans (seq_t (by kernel_rfl) (TS399_3 c r1) (seq_t (by kernel_rfl) (TS399_10 c r1) rfl)) (by funext s h; kernel_rfl)
noncomputable def S399_12 (c : CF) (r1 : A4) (t4 t6 t7 t11 t12 t13 : AV) (h : Heap) : Res := S399_11 c r1 t4 t6 t7 nL t11 t12 t13 h
theorem TS399_12 (c : CF) (r1 : A4) : (rk d399 P0 c 63 c399.s2.fst.snd.bd.bd.s2.fst.bd.s4).1 (L4 (S399_2 c r1) 4 11 12 13) [(1,(L4 (S399_2 c r1) 4 11 12 13)),(0,(L1 (S399_0 c) 4))] k399 gK = L6 (S399_12 c r1) 4 6 7 11 12 13 := Eq.trans (seq_t (by kernel_rfl) (TS399_11 c r1) rfl) (by funext s h; kernel_rfl)
noncomputable def S399_13 (c : CF) (r1 : A4) (t4 t6 t11 t12 t13 : AV) (h : Heap) : Res := opt (lenS t4) fun t26 => opt (loadX (some 7) t6 h) fun t27 => opt2 (c 398 [t27] h) fun t28 h1 => opt (fastBin .add t26 t28) fun t29 => S399_12 c r1 t4 t6 t29 t11 t12 t13 h1
theorem TS399_13 (c : CF) (r1 : A4) : (rk d399 P0 c 63 c399.s2.fst.snd.bd.bd.s2.fst.bd.s3).1 (L4 (S399_2 c r1) 4 11 12 13) [(1,(L4 (S399_2 c r1) 4 11 12 13)),(0,(L1 (S399_0 c) 4))] k399 gK = L5 (S399_13 c r1) 4 6 11 12 13 := Eq.trans (seq_t (by kernel_rfl) (TS399_12 c r1) rfl) (by funext s h; kernel_rfl)
noncomputable def S399_14 (c : CF) (r1 : A4) (t4 t6 t11 t12 t13 : AV) (h : Heap) : Res := opt (fieldAddrX 0 t6) fun t20 => opt (loadX none t20 h) fun t21 => opt (lenS t4) fun t23 => opt (fastBin .neq t21 t23) fun t24 => test t24 (none) (S399_13 c r1 t4 t6 t11 t12 t13 h)
theorem TS399_14 (c : CF) (r1 : A4) : (rk d399 P0 c 63 c399.s2.fst.snd.bd.bd.s2.fst.bd.s2).1 (L4 (S399_2 c r1) 4 11 12 13) [(1,(L4 (S399_2 c r1) 4 11 12 13)),(0,(L1 (S399_0 c) 4))] k399 gK = L5 (S399_14 c r1) 4 6 11 12 13 := Eq.trans (seq_t (by kernel_rfl) (TS399_13 c r1) rfl) (by funext s h; kernel_rfl)
noncomputable def S399_15 (c : CF) (r1 : A4) (t4 t6 t11 t12 t13 : AV) (h : Heap) : Res := opt (loadX (some 7) t6 h) fun t17 => opt2 (c 474 [t17] h) fun t18 h1 => opt (notX t18) fun t19 => test t19 (none) (S399_14 c r1 t4 t6 t11 t12 t13 h1)
theorem TS399_15 (c : CF) (r1 : A4) : (rk d399 P0 c 63 c399.s2.fst.snd.bd.bd.s2.fst.bd.snd).1 (L4 (S399_2 c r1) 4 11 12 13) [(1,(L4 (S399_2 c r1) 4 11 12 13)),(0,(L1 (S399_0 c) 4))] k399 gK = L5 (S399_15 c r1) 4 6 11 12 13 := Eq.trans (seq_t (by kernel_rfl) (TS399_14 c r1) rfl) (by funext s h; kernel_rfl)
noncomputable def S399_16 (c : CF) (r1 : A4) (t4 t11 t12 t13 : AV) (h : Heap) : Res := opt (indexAddrS 7 t11 t13 h) fun t15 => opt (loadX (some 7) t15 h) fun t16 => opt2 (box (.agg [(iL 0),(iL 0),(iL 0),(iL 0),cL,eL,nL]) h) fun t6 h1 => optH (storeX 7 t6 t16 h1) fun h2 => S399_15 c r1 t4 t6 t11 t12 t13 h2
theorem TS399_16 (c : CF) (r1 : A4) : (rk d399 P0 c 63 c399.s2.fst.snd.bd.bd.s2).1 (L4 r1 4 11 12 13) [(0,(L1 (S399_0 c) 4))] k399 gK = L4 (S399_16 c r1) 4 11 12 13 := Eq.trans (seq_t (by kernel_rfl) (TS399_2 c r1) (block_t (id := 1) (by kernel_rfl) (seq_t (by kernel_rfl) (TS399_15 c r1) rfl))) (by funext s h; kernel_rfl)
noncomputable def S399_17 (c : CF) (r1 : A4) (t4 t11 t12 t13 t14 : AV) (h : Heap) : Res := test t14 (S399_16 c r1 t4 t11 t12 t13 h) (S399_0 c t4 h)
theorem TS399_17 (c : CF) (r1 : A4) : (rk d399 P0 c 63 c399.s2.fst.snd.bd.bd.snd).1 (L4 r1 4 11 12 13) [(0,(L1 (S399_0 c) 4))] k399 gK = L5 (S399_17 c r1) 4 11 12 13 14 := Eq.trans (seq_t (by kernel_rfl) (TS399_16 c r1) rfl) (by funext s h; kernel_rfl)
noncomputable def S399_18b (c : CF) (r1 : A4) (t4 t11 t12 t13 : AV) (h : Heap) : Res := opt (fastBin .lss t13 t12) fun t14 => S399_17 c r1 t4 t11 t12 t13 t14 h
theorem TS399_18b (c : CF) (r1 : A4) : (rk d399 P0 c 63 c399.s2.fst.snd.bd.bd).1 (L4 r1 4 11 12 13) [(0,(L1 (S399_0 c) 4))] k399 gK = L4 (S399_18b c r1) 4 11 12 13 := Eq.trans (seq_t (by kernel_rfl) (TS399_17 c r1) rfl) (by funext s h; kernel_rfl)
noncomputable def S399_1l (c : CF) : Nat → A4
  | 0 => fun _ _ _ _ _ => none
  | k + 1 => S399_18b c (S399_1l c k)
theorem TS399_1l (c : CF) : (rk d399 P0 c 63 c399.s2.fst.snd.bd).1 (L1 (S399_0 c) 4) [(0,(L1 (S399_0 c) 4))] k399 gK = L4 (S399_1l c rounds) 4 11 12 13 := loop_t (by kernel_rfl) (loop_ind (A := fun m => L4 (S399_1l c m) 4 11 12 13) rfl (fun m => TS399_18b c (S399_1l c m)) rounds)
noncomputable def S399_19 (c : CF) (t4 t11 t12 t13 : AV) (h : Heap) : Res := S399_1l c rounds t4 t11 t12 t13 h
theorem TS399_19 (c : CF) : (rk d399 P0 c 63 c399.s2.fst.snd).1 (L1 (S399_0 c) 4) [] k399 gK = L4 (S399_19 c) 4 11 12 13 := Eq.trans (block_t (id := 0) (by kernel_rfl) (TS399_1l c)) (by funext s h; kernel_rfl)
noncomputable def S399_20 (c : CF) (t0 t4 : AV) (h : Heap) : Res := opt (lenS t0) fun t12 => S399_19 c t4 t0 t12 (iL 0) h
theorem TS399_20 (c : CF) : (rk d399 P0 c 63 c399.s2).1 k399 [] k399 gK = L2 (S399_20 c) 0 4 := Eq.trans (seq_t (by kernel_rfl) (TS399_0 c) (seq_t (by kernel_rfl) (TS399_19 c) rfl)) (by funext s h; kernel_rfl)
noncomputable def S399_21 (c : CF) (t0 : AV) (h : Heap) : Res := S399_20 c t0 nL h
theorem TS399_21 (c : CF) : (rk d399 P0 c 63 c399.snd).1 k399 [] k399 gK = L1 (S399_21 c) 0 := Eq.trans (seq_t (by kernel_rfl) (TS399_20 c) rfl) (by funext s h; kernel_rfl)
noncomputable def F399 (c : CF) (a0 : AV) (h : Heap) : Res := S399_21 c a0 h
theorem TF399 (c : CF) (a0 : AV) (h : Heap) : (rk d399 P0 c 63 c399).1 k399 [] k399 gK (argsTr gl 0 [a0]) h = F399 c a0 h := Eq.trans (congrFun (congrFun (seq_t (by kernel_rfl) (TS399_21 c) rfl) _) _) (by kernel_rfl)
noncomputable def N399 : FnF := n1 F399
theorem N399_ok [Nu] : FnOk P0 gl 399 N399 := n1_ok namesOk mixedOrders lowOk Tryz.func399 (by kernel_rfl) (by kernel_rfl) (by kernel_rfl) TF399
noncomputable def c409 : Code := codeOf Tryz.f409
noncomputable def k409 : Kt := finK P0 Tryz.f409.results.toList
def d409 : List Nat := [2]
noncomputable def F409 (c : CF) (a0 a1 : AV) (h : Heap) : Res := opt (nilCheckX a0) fun t6 => opt (fieldAddrX 8 t6) fun t7 => opt (loadX none t7 h) fun t8 => opt2 (c 72 [t8,a1] h) fun t10 h1 => test t10 (none) (opt (nilCheckX a0) fun t13 => opt (fieldAddrX 8 t13) fun t14 => opt (loadX none t14 h1) fun t15 => opt2 (bsliceX 1 eL 1 [(0,a1)] h1) fun t17 h2 => opt2 (appendX 1 16 t15 t17 h2) fun t18 h3 => opt (nilCheckX a0) fun t19 => opt (fieldAddrX 8 t19) fun t20 => optH (storeX 1 t20 t18 h3) fun h4 => some (fL,h4))
theorem TF409 (c : CF) (a0 a1 : AV) (h : Heap) : (rk d409 P0 c 21 c409).1 k409 [] k409 gK (argsTr gl 0 [a0,a1]) h = F409 c a0 a1 h := by kernel_rfl
noncomputable def N409 : FnF := n2 F409
theorem N409_ok [Nu] : FnOk P0 gl 409 N409 := n2_ok namesOk mixedOrders lowOk Tryz.func409 (by kernel_rfl) (by kernel_rfl) (by kernel_rfl) TF409
noncomputable def c411 : Code := codeOf Tryz.f411
noncomputable def k411 : Kt := finK P0 Tryz.f411.results.toList
def d411 : List Nat := []
noncomputable def F411 (c : CF) (a0 a1 : AV) (h : Heap) : Res := opt2 (c 394 [a0,a1] h) fun t7 h1 => opt (fastBin .geq t7 (iL 0)) fun t8 => some (t8,h1)
theorem TF411 (c : CF) (a0 a1 : AV) (h : Heap) : (rk d411 P0 c 9 c411).1 k411 [] k411 gK (argsTr gl 0 [a0,a1]) h = F411 c a0 a1 h := by kernel_rfl
noncomputable def N411 : FnF := n2 F411
theorem N411_ok [Nu] : FnOk P0 gl 411 N411 := n2_ok namesOk mixedOrders lowOk Tryz.func411 (by kernel_rfl) (by kernel_rfl) (by kernel_rfl) TF411
noncomputable def c420 : Code := codeOf Tryz.f420
noncomputable def k420 : Kt := finK P0 Tryz.f420.results.toList
def d420 : List Nat := []
noncomputable def F420 (c : CF) (a0 a1 : AV) (h : Heap) : Res := opt2 (c 481 [a0,a1] h) fun t7 h1 => opt (fastBin .geq t7 (iL 0)) fun t8 => some (t8,h1)
theorem TF420 (c : CF) (a0 a1 : AV) (h : Heap) : (rk d420 P0 c 9 c420).1 k420 [] k420 gK (argsTr gl 0 [a0,a1]) h = F420 c a0 a1 h := by kernel_rfl
noncomputable def N420 : FnF := n2 F420
theorem N420_ok [Nu] : FnOk P0 gl 420 N420 := n2_ok namesOk mixedOrders lowOk Tryz.func420 (by kernel_rfl) (by kernel_rfl) (by kernel_rfl) TF420
noncomputable def c421 : Code := codeOf Tryz.f421
noncomputable def k421 : Kt := finK P0 Tryz.f421.results.toList
def d421 : List Nat := []
noncomputable def F421 (c : CF) (a0 a1 : AV) (h : Heap) : Res := opt2 (box a0 h) fun t2 h1 => opt (fieldAddrX 0 t2) fun t4 => opt (loadX none t4 h1) fun t5 => opt (fieldAddrX 0 a1) fun t6 => opt (loadX none t6 h1) fun t7 => opt (fastBin .eql t5 t7) fun t8 => some (t8,h1)
theorem TF421 (c : CF) (a0 a1 : AV) (h : Heap) : (rk d421 P0 c 9 c421).1 k421 [] k421 gK (argsTr gl 0 [a0,a1]) h = F421 c a0 a1 h := by kernel_rfl
noncomputable def N421 : FnF := n2 F421
theorem N421_ok [Nu] : FnOk P0 gl 421 N421 := n2_ok namesOk mixedOrders lowOk Tryz.func421 (by kernel_rfl) (by kernel_rfl) (by kernel_rfl) TF421
noncomputable def c422 : Code := codeOf Tryz.f422
noncomputable def k422 : Kt := finK P0 Tryz.f422.results.toList
def d422 : List Nat := []
noncomputable def F422 (c : CF) (a0 : AV) (h : Heap) : Res := opt2 (c 147 [a0] h) fun t4 h1 => opt (notX t4) fun t5 => some (t5,h1)
theorem TF422 (c : CF) (a0 : AV) (h : Heap) : (rk d422 P0 c 6 c422).1 k422 [] k422 gK (argsTr gl 0 [a0]) h = F422 c a0 h := by kernel_rfl
noncomputable def N422 : FnF := n1 F422
theorem N422_ok [Nu] : FnOk P0 gl 422 N422 := n1_ok namesOk mixedOrders lowOk Tryz.func422 (by kernel_rfl) (by kernel_rfl) (by kernel_rfl) TF422
noncomputable def c424 : Code := codeOf Tryz.f424
noncomputable def k424 : Kt := finK P0 Tryz.f424.results.toList
def d424 : List Nat := []
noncomputable def F424 (c : CF) (a0 a1 : AV) (h : Heap) : Res := opt (lenStr a0) fun t7 => opt (fastBin .lss a1 t7) fun t8 => test t8 (opt (fastIndex a0 a1) fun t12 => opt2 (c 426 [t12] h) fun t13 h1 => test t13 (some (tL,h1)) (opt (fastIndex a0 a1) fun t17 => opt (fastBin .eql t17 (uL 46)) fun t18 => some (t18,h1))) (some (fL,h))
theorem TF424 (c : CF) (a0 a1 : AV) (h : Heap) : (rk d424 P0 c 21 c424).1 k424 [] k424 gK (argsTr gl 0 [a0,a1]) h = F424 c a0 a1 h := by kernel_rfl
noncomputable def N424 : FnF := n2 F424
theorem N424_ok [Nu] : FnOk P0 gl 424 N424 := n2_ok namesOk mixedOrders lowOk Tryz.func424 (by kernel_rfl) (by kernel_rfl) (by kernel_rfl) TF424
noncomputable def c426 : Code := codeOf Tryz.f426
noncomputable def k426 : Kt := finK P0 Tryz.f426.results.toList
def d426 : List Nat := []
noncomputable def F426 (c : CF) (a0 : AV) (h : Heap) : Res := opt (fastBin .geq a0 (uL 97)) fun t4 => test t4 (opt (fastBin .leq a0 (uL 122)) fun t7 => test t7 (some (tL,h)) (opt (fastBin .geq a0 (uL 65)) fun t11 => test t11 (opt (fastBin .leq a0 (uL 90)) fun t14 => test t14 (some (tL,h)) (opt (fastBin .eql a0 (uL 95)) fun t19 => test t19 (some (tL,h)) (opt (fastBin .geq a0 (uL 48)) fun t23 => test t23 (opt (fastBin .leq a0 (uL 57)) fun t26 => some (t26,h)) (some (fL,h))))) (opt (fastBin .eql a0 (uL 95)) fun t19_1 => test t19_1 (some (tL,h)) (opt (fastBin .geq a0 (uL 48)) fun t23_1 => test t23_1 (opt (fastBin .leq a0 (uL 57)) fun t26_1 => some (t26_1,h)) (some (fL,h)))))) (opt (fastBin .geq a0 (uL 65)) fun t11_1 => test t11_1 (opt (fastBin .leq a0 (uL 90)) fun t14_1 => test t14_1 (some (tL,h)) (opt (fastBin .eql a0 (uL 95)) fun t19_2 => test t19_2 (some (tL,h)) (opt (fastBin .geq a0 (uL 48)) fun t23_2 => test t23_2 (opt (fastBin .leq a0 (uL 57)) fun t26_2 => some (t26_2,h)) (some (fL,h))))) (opt (fastBin .eql a0 (uL 95)) fun t19_3 => test t19_3 (some (tL,h)) (opt (fastBin .geq a0 (uL 48)) fun t23_3 => test t23_3 (opt (fastBin .leq a0 (uL 57)) fun t26_3 => some (t26_3,h)) (some (fL,h)))))
theorem TF426 (c : CF) (a0 : AV) (h : Heap) : (rk d426 P0 c 29 c426).1 k426 [] k426 gK (argsTr gl 0 [a0]) h = F426 c a0 h := by kernel_rfl
noncomputable def N426 : FnF := n1 F426
theorem N426_ok [Nu] : FnOk P0 gl 426 N426 := n1_ok namesOk mixedOrders lowOk Tryz.func426 (by kernel_rfl) (by kernel_rfl) (by kernel_rfl) TF426
noncomputable def c438 : Code := codeOf Tryz.f438
noncomputable def k438 : Kt := finK P0 Tryz.f438.results.toList
def d438 : List Nat := []
noncomputable def F438 (c : CF) (a0 a1 : AV) (h : Heap) : Res := opt (litCall P0 [a0,a1] 491) fun t7 => some (t7,h)
theorem TF438 (c : CF) (a0 a1 : AV) (h : Heap) : (rk d438 P0 c 8 c438).1 k438 [] k438 gK (argsTr gl 0 [a0,a1]) h = F438 c a0 a1 h := by kernel_rfl
noncomputable def N438 : FnF := n2 F438
theorem N438_ok [Nu] : FnOk P0 gl 438 N438 := n2_ok namesOk mixedOrders lowOk Tryz.func438 (by kernel_rfl) (by kernel_rfl) (by kernel_rfl) TF438
noncomputable def c450 : Code := codeOf Tryz.f450
noncomputable def k450 : Kt := finK P0 Tryz.f450.results.toList
def d450 : List Nat := []
noncomputable def F450 (c : CF) (a0 : AV) (h : Heap) : Res := opt2 (c 451 [(sL [91,93,40,41,44]),a0] h) fun t4 h1 => some (t4,h1)
theorem TF450 (c : CF) (a0 : AV) (h : Heap) : (rk d450 P0 c 5 c450).1 k450 [] k450 gK (argsTr gl 0 [a0]) h = F450 c a0 h := by kernel_rfl
noncomputable def N450 : FnF := n1 F450
theorem N450_ok [Nu] : FnOk P0 gl 450 N450 := n1_ok namesOk mixedOrders lowOk Tryz.func450 (by kernel_rfl) (by kernel_rfl) (by kernel_rfl) TF450
noncomputable def c452 : Code := codeOf Tryz.f452
noncomputable def k452 : Kt := finK P0 Tryz.f452.results.toList
def d452 : List Nat := []
noncomputable def F452 (c : CF) (a0 a1 : AV) (h : Heap) : Res := opt2 (c 499 [a0,a1] h) fun t7 h1 => opt (fastBin .geq t7 (iL 0)) fun t8 => some (t8,h1)
theorem TF452 (c : CF) (a0 a1 : AV) (h : Heap) : (rk d452 P0 c 9 c452).1 k452 [] k452 gK (argsTr gl 0 [a0,a1]) h = F452 c a0 a1 h := by kernel_rfl
noncomputable def N452 : FnF := n2 F452
theorem N452_ok [Nu] : FnOk P0 gl 452 N452 := n2_ok namesOk mixedOrders lowOk Tryz.func452 (by kernel_rfl) (by kernel_rfl) (by kernel_rfl) TF452
noncomputable def c454 : Code := codeOf Tryz.f454
noncomputable def k454 : Kt := finK P0 Tryz.f454.results.toList
def d454 : List Nat := []
noncomputable def S454_0 (c : CF) (t5 : AV) (h : Heap) : Res := some (t5,h)
theorem TS454_0 (c : CF) : (rk d454 P0 c 26 c454.s3).1 k454 [] k454 gK = L1 (S454_0 c) 5 := by funext s h; kernel_rfl
noncomputable def S454_2b (c : CF) (r1 : A5) (t0 t5 t11 t12 t13 : AV) (h : Heap) : Res := opt (fastBin .lss t13 t12) fun t14 => test t14 (opt (indexAddrS 9 t11 t13 h) fun t16 => opt (loadX (some 9) t16 h) fun t17 => opt2 (box (.agg [(iL 0),(iL 0),eL,cL,eL,eL,nL,nL,nL]) h) fun t7 h1 => optH (storeX 9 t7 t17 h1) fun h2 => opt (loadX (some 9) t7 h2) fun t21 => opt2 (c 298 [t0,t21] h2) fun t22 h3 => opt (indexAddrS 1 t5 t13 h3) fun t23 => optH (storeX 1 t23 t22 h3) fun h4 => opt (fastBin .add t13 (iL 1)) fun t24 => r1 t0 t5 t11 t12 t24 h4) (S454_0 c t5 h)
theorem TS454_2b (c : CF) (r1 : A5) : (rk d454 P0 c 26 c454.s2.fst.snd.bd.bd).1 (L5 r1 0 5 11 12 13) [(0,(L1 (S454_0 c) 5))] k454 gK = L5 (S454_2b c r1) 0 5 11 12 13 := by funext s h; kernel_rfl
noncomputable def S454_1l (c : CF) : Nat → A5
  | 0 => fun _ _ _ _ _ _ => none
  | k + 1 => S454_2b c (S454_1l c k)
theorem TS454_1l (c : CF) : (rk d454 P0 c 26 c454.s2.fst.snd.bd).1 (L1 (S454_0 c) 5) [(0,(L1 (S454_0 c) 5))] k454 gK = L5 (S454_1l c rounds) 0 5 11 12 13 := loop_t (by kernel_rfl) (loop_ind (A := fun m => L5 (S454_1l c m) 0 5 11 12 13) rfl (fun m => TS454_2b c (S454_1l c m)) rounds)
noncomputable def S454_3 (c : CF) (t0 t5 t11 t12 t13 : AV) (h : Heap) : Res := S454_1l c rounds t0 t5 t11 t12 t13 h
theorem TS454_3 (c : CF) : (rk d454 P0 c 26 c454.s2.fst.snd).1 (L1 (S454_0 c) 5) [] k454 gK = L5 (S454_3 c) 0 5 11 12 13 := Eq.trans (block_t (id := 0) (by kernel_rfl) (TS454_1l c)) (by funext s h; kernel_rfl)
noncomputable def S454_4 (c : CF) (t0 t1 t5 : AV) (h : Heap) : Res := opt (lenS t1) fun t12 => S454_3 c t0 t5 t1 t12 (iL 0) h
theorem TS454_4 (c : CF) : (rk d454 P0 c 26 c454.s2).1 k454 [] k454 gK = L3 (S454_4 c) 0 1 5 := Eq.trans (seq_t (by kernel_rfl) (TS454_0 c) (seq_t (by kernel_rfl) (TS454_3 c) rfl)) (by funext s h; kernel_rfl)
noncomputable def S454_5 (c : CF) (t0 t1 : AV) (h : Heap) : Res := opt (lenS t1) fun t9 => opt2 (mksliceX 1 eL 16 t9 t9 h) fun t10 h1 => S454_4 c t0 t1 t10 h1
theorem TS454_5 (c : CF) : (rk d454 P0 c 26 c454.snd).1 k454 [] k454 gK = L2 (S454_5 c) 0 1 := Eq.trans (seq_t (by kernel_rfl) (TS454_4 c) rfl) (by funext s h; kernel_rfl)
noncomputable def F454 (c : CF) (a0 a1 : AV) (h : Heap) : Res := S454_5 c a0 a1 h
theorem TF454 (c : CF) (a0 a1 : AV) (h : Heap) : (rk d454 P0 c 26 c454).1 k454 [] k454 gK (argsTr gl 0 [a0,a1]) h = F454 c a0 a1 h := Eq.trans (congrFun (congrFun (seq_t (by kernel_rfl) (TS454_5 c) rfl) _) _) (by kernel_rfl)
noncomputable def N454 : FnF := n2 F454
theorem N454_ok [Nu] : FnOk P0 gl 454 N454 := n2_ok namesOk mixedOrders lowOk Tryz.func454 (by kernel_rfl) (by kernel_rfl) (by kernel_rfl) TF454
noncomputable def c455 : Code := codeOf Tryz.f455
noncomputable def k455 : Kt := finK P0 Tryz.f455.results.toList
def d455 : List Nat := [13,16,17,18,21,25,35]
noncomputable def S455_0 (c : CF) (t11 : AV) (h : Heap) : Res := some ((.tup [t11,(iL (-1))]),h)
theorem TS455_0 (c : CF) : (rk d455 P0 c 120 c455.s8).1 k455 [] k455 gK = L1 (S455_0 c) 11 := by funext s h; kernel_rfl
noncomputable def S455_2b (c : CF) (r1 : A5) (t1 t6 t11 t104 t105 : AV) (h : Heap) : Res := opt (fastBin .lss t105 t104) fun t106 => test t106 (opt (indexAddrS 1 t1 t105 h) fun t110 => eqH h h (opt (loadX none t110 h) fun t111 => eqH h h (opt (indexAddrS 1 t6 t105 h) fun t114 => eqH h h (opt (loadX none t114 h) fun t115 => eqH h h (opt (fastBin .neq t111 t115) fun t116 => test t116 (none) (opt (fastBin .add t105 (iL 1)) fun t118 => r1 t1 t6 t11 t104 t118 h)))))) (S455_0 c t11 h)
theorem TS455_2b (c : CF) (r1 : A5) : (rk d455 P0 c 120 c455.s7.fst.snd.bd.bd).1 (L5 r1 1 6 11 104 105) [(3,(L1 (S455_0 c) 11))] k455 gK = L5 (S455_2b c r1) 1 6 11 104 105 := by funext s h; kernel_rfl
noncomputable def S455_1l (c : CF) : Nat → A5
  | 0 => fun _ _ _ _ _ _ => none
  | k + 1 => S455_2b c (S455_1l c k)
theorem TS455_1l (c : CF) : (rk d455 P0 c 120 c455.s7.fst.snd.bd).1 (L1 (S455_0 c) 11) [(3,(L1 (S455_0 c) 11))] k455 gK = L5 (S455_1l c rounds) 1 6 11 104 105 := loop_t (by kernel_rfl) (loop_ind (A := fun m => L5 (S455_1l c m) 1 6 11 104 105) rfl (fun m => TS455_2b c (S455_1l c m)) rounds)
noncomputable def S455_3 (c : CF) (t1 t6 t11 t104 t105 : AV) (h : Heap) : Res := S455_1l c rounds t1 t6 t11 t104 t105 h
theorem TS455_3 (c : CF) : (rk d455 P0 c 120 c455.s7.fst.snd).1 (L1 (S455_0 c) 11) [] k455 gK = L5 (S455_3 c) 1 6 11 104 105 := Eq.trans (block_t (id := 3) (by kernel_rfl) (TS455_1l c)) (by funext s h; kernel_rfl)
noncomputable def S455_4 (c : CF) (t1 t6 t11 : AV) (h : Heap) : Res := opt (lenS t1) fun t104 => S455_3 c t1 t6 t11 t104 (iL 0) h
theorem TS455_4 (c : CF) : (rk d455 P0 c 120 c455.s7).1 k455 [] k455 gK = L3 (S455_4 c) 1 6 11 := Eq.trans (seq_t (by kernel_rfl) (TS455_0 c) (seq_t (by kernel_rfl) (TS455_3 c) rfl)) (by funext s h; kernel_rfl)
noncomputable def S455_5 (c : CF) (t1 t6 t11 : AV) (h : Heap) : Res := opt (indexAddrS 1 t1 (iL 0) h) fun t55 => eqH h h (opt (loadX none t55 h) fun t56 => eqH h h (opt (indexAddrS 1 t1 (iL 0) h) fun t58 => eqH h h (opt (loadX none t58 h) fun t59 => eqH h h (opt (indexAddrS 1 t6 (iL 0) h) fun t60 => eqH h h (optH (storeX 1 t60 t56 h) fun h1 => opt (indexAddrS 1 t6 (iL 1) h1) fun t61 => eqH h1 h1 (optH (storeX 1 t61 t59 h1) fun h2 => S455_4 c t1 t6 t11 h2))))))
theorem TS455_5 (c : CF) : (rk d455 P0 c 120 c455.s6.fst.snd.bd.snd.thn.snd).1 (L3 (S455_4 c) 1 6 11) [(2,(L3 (S455_4 c) 1 6 11))] k455 gK = L3 (S455_5 c) 1 6 11 := by funext s h; kernel_rfl
noncomputable def S455_6 (c : CF) (t1 t6 t11 : AV) (h : Heap) : Res := opt (indexAddrS 1 t1 (iL 0) h) fun t43 => opt (loadX none t43 h) fun t44 => opt (fastBin .neq t44 (sL [110,117,109])) fun t45 => test t45 (opt (indexAddrS 1 t1 (iL 0) h) fun t48 => opt (loadX none t48 h) fun t49 => opt (fastBin .neq t49 (sL [98,121,116,101,115])) fun t50 => test t50 (none) (S455_5 c t1 t6 t11 h)) (S455_5 c t1 t6 t11 h)
theorem TS455_6 (c : CF) : (rk d455 P0 c 120 c455.s6.fst.snd.bd.snd.thn).1 (L3 (S455_4 c) 1 6 11) [(2,(L3 (S455_4 c) 1 6 11))] k455 gK = L3 (S455_6 c) 1 6 11 := Eq.trans (seq_t (by kernel_rfl) (TS455_5 c) rfl) (by funext s h; kernel_rfl)
noncomputable def S455_7 (c : CF) (t1 t6 t8 t9 t10 t11 t39 t40 : AV) (h : Heap) : Res := test t40 (S455_6 c t1 t6 t11 h) (opt (fastBin .eql t39 (sL [99,97,116])) fun t63 => test t63 (none) (opt (fastBin .eql t39 (sL [108,101,110])) fun t80 => test t80 (opt (notX t10) fun t82 => test t82 (none) (opt (indexAddrS 1 t1 (iL 0) h) fun t85 => opt (loadX none t85 h) fun t86 => opt (indexAddrS 1 t6 (iL 0) h) fun t87 => optH (storeX 1 t87 t86 h) fun h1 => S455_4 c t1 t6 t11 h1)) (opt (fastBin .eql t39 (sL [97,116])) fun t89 => test t89 (opt (notX t10) fun t91 => test t91 (none) (opt (indexAddrS 1 t1 (iL 0) h) fun t94 => opt (loadX none t94 h) fun t95 => opt (indexAddrS 1 t6 (iL 0) h) fun t96 => optH (storeX 1 t96 t95 h) fun h2 => test t9 (S455_4 c t1 t6 t8 h2) (S455_4 c t1 t6 t11 h2))) (opt (fastBin .eql t39 (sL [99,117,116])) fun t100 => test t100 (opt (indexAddrS 1 t6 (iL 0) h) fun t102 => optH (storeX 1 t102 (sL [98,121,116,101,115]) h) fun h3 => S455_4 c t1 t6 (sL [98,121,116,101,115]) h3) (S455_4 c t1 t6 t11 h)))))
theorem TS455_7 (c : CF) : (rk d455 P0 c 120 c455.s6.fst.snd.bd.snd).1 (L3 (S455_4 c) 1 6 11) [(2,(L3 (S455_4 c) 1 6 11))] k455 gK = L8 (S455_7 c) 1 6 8 9 10 11 39 40 := Eq.trans (cond_t (by kernel_rfl) (TS455_6 c) rfl) (by funext s h; kernel_rfl)
noncomputable def S455_8 (c : CF) (t1 t6 t8 t9 t10 t11 t39 : AV) (h : Heap) : Res := opt (fastBin .eql t39 (sL [101,113])) fun t41 => S455_7 c t1 t6 t8 t9 t10 t11 t39 t41 h
theorem TS455_8 (c : CF) : (rk d455 P0 c 120 c455.s6.fst.snd).1 (L3 (S455_4 c) 1 6 11) [] k455 gK = L7 (S455_8 c) 1 6 8 9 10 11 39 := Eq.trans (block_t (id := 2) (by kernel_rfl) (seq_t (by kernel_rfl) (TS455_7 c) rfl)) (by funext s h; kernel_rfl)
noncomputable def S455_9 (c : CF) (t0 t1 t6 t8 t9 t10 t11 : AV) (h : Heap) : Res := S455_8 c t1 t6 t8 t9 t10 t11 t0 h
theorem TS455_9 (c : CF) : (rk d455 P0 c 120 c455.s6).1 k455 [] k455 gK = L7 (S455_9 c) 0 1 6 8 9 10 11 := Eq.trans (seq_t (by kernel_rfl) (TS455_4 c) (seq_t (by kernel_rfl) (TS455_8 c) rfl)) (by funext s h; kernel_rfl)
noncomputable def S455_10 (c : CF) (t0 t1 t6 t8 t9 t10 : AV) (h : Heap) : Res := S455_9 c t0 t1 t6 t8 t9 t10 (sL [110,117,109]) h
theorem TS455_10 (c : CF) : (rk d455 P0 c 120 c455.s5).1 k455 [] k455 gK = L6 (S455_10 c) 0 1 6 8 9 10 := Eq.trans (seq_t (by kernel_rfl) (TS455_9 c) rfl) (by funext s h; kernel_rfl)
noncomputable def S455_11 (c : CF) (t0 t1 t6 t8 t9 : AV) (h : Heap) : Res := test t9 (S455_10 c t0 t1 t6 t8 t9 tL h) (opt (indexAddrS 1 t1 (iL 0) h) fun t35 => opt (loadX none t35 h) fun t36 => opt (fastBin .eql t36 (sL [98,121,116,101,115])) fun t37 => S455_10 c t0 t1 t6 t8 t9 t37 h)
theorem TS455_11 (c : CF) : (rk d455 P0 c 120 c455.s4).1 k455 [] k455 gK = L5 (S455_11 c) 0 1 6 8 9 := Eq.trans (seq_t (by kernel_rfl) (TS455_10 c) rfl) (by funext s h; kernel_rfl)
noncomputable def S455_12 (c : CF) (t0 t1 t6 : AV) (h : Heap) : Res := opt (indexAddrS 1 t1 (iL 0) h) fun t27 => opt (loadX none t27 h) fun t28 => opt2 (c 258 [t28] h) fun t29 h1 => opt (extractX t29 0) fun t30 => opt (extractX t29 1) fun t31 => S455_11 c t0 t1 t6 t30 t31 h1
theorem TS455_12 (c : CF) : (rk d455 P0 c 120 c455.s3).1 k455 [] k455 gK = L3 (S455_12 c) 0 1 6 := Eq.trans (seq_t (by kernel_rfl) (TS455_11 c) rfl) (by funext s h; kernel_rfl)
noncomputable def S455_14b (c : CF) (r13 : A5) (t0 t1 t6 t17 t18 : AV) (h : Heap) : Res := opt (fastBin .lss t18 t17) fun t19 => test t19 (opt (indexAddrS 1 t6 t18 h) fun t23 => optH (storeX 1 t23 (sL [110,117,109]) h) fun h1 => opt (fastBin .add t18 (iL 1)) fun t24 => r13 t0 t1 t6 t17 t24 h1) (S455_12 c t0 t1 t6 h)
theorem TS455_14b (c : CF) (r13 : A5) : (rk d455 P0 c 120 c455.s2.fst.snd.bd.bd).1 (L5 r13 0 1 6 17 18) [(0,(L3 (S455_12 c) 0 1 6))] k455 gK = L5 (S455_14b c r13) 0 1 6 17 18 := by funext s h; kernel_rfl
noncomputable def S455_13l (c : CF) : Nat → A5
  | 0 => fun _ _ _ _ _ _ => none
  | k + 1 => S455_14b c (S455_13l c k)
theorem TS455_13l (c : CF) : (rk d455 P0 c 120 c455.s2.fst.snd.bd).1 (L3 (S455_12 c) 0 1 6) [(0,(L3 (S455_12 c) 0 1 6))] k455 gK = L5 (S455_13l c rounds) 0 1 6 17 18 := loop_t (by kernel_rfl) (loop_ind (A := fun m => L5 (S455_13l c m) 0 1 6 17 18) rfl (fun m => TS455_14b c (S455_13l c m)) rounds)
noncomputable def S455_15 (c : CF) (t0 t1 t6 t17 t18 : AV) (h : Heap) : Res := S455_13l c rounds t0 t1 t6 t17 t18 h
theorem TS455_15 (c : CF) : (rk d455 P0 c 120 c455.s2.fst.snd).1 (L3 (S455_12 c) 0 1 6) [] k455 gK = L5 (S455_15 c) 0 1 6 17 18 := Eq.trans (block_t (id := 0) (by kernel_rfl) (TS455_13l c)) (by funext s h; kernel_rfl)
noncomputable def S455_16 (c : CF) (t0 t1 t6 : AV) (h : Heap) : Res := opt (lenS t6) fun t17 => S455_15 c t0 t1 t6 t17 (iL 0) h
theorem TS455_16 (c : CF) : (rk d455 P0 c 120 c455.s2).1 k455 [] k455 gK = L3 (S455_16 c) 0 1 6 := Eq.trans (seq_t (by kernel_rfl) (TS455_12 c) (seq_t (by kernel_rfl) (TS455_15 c) rfl)) (by funext s h; kernel_rfl)
noncomputable def S455_17 (c : CF) (t0 t1 : AV) (h : Heap) : Res := opt (lenS t1) fun t14 => opt2 (mksliceX 1 eL 16 t14 t14 h) fun t15 h1 => S455_16 c t0 t1 t15 h1
theorem TS455_17 (c : CF) : (rk d455 P0 c 120 c455.snd).1 k455 [] k455 gK = L2 (S455_17 c) 0 1 := Eq.trans (seq_t (by kernel_rfl) (TS455_16 c) rfl) (by funext s h; kernel_rfl)
noncomputable def F455 (c : CF) (a0 a1 : AV) (h : Heap) : Res := S455_17 c a0 a1 h
theorem TF455 (c : CF) (a0 a1 : AV) (h : Heap) : (rk d455 P0 c 120 c455).1 k455 [] k455 gK (argsTr gl 0 [a0,a1]) h = F455 c a0 a1 h := Eq.trans (congrFun (congrFun (seq_t (by kernel_rfl) (TS455_17 c) rfl) _) _) (by kernel_rfl)
noncomputable def N455 : FnF := n2 F455
theorem N455_ok [Nu] : FnOk P0 gl 455 N455 := n2_ok namesOk mixedOrders lowOk Tryz.func455 (by kernel_rfl) (by kernel_rfl) (by kernel_rfl) TF455
noncomputable def c460 : Code := codeOf Tryz.f460
noncomputable def k460 : Kt := finK P0 Tryz.f460.results.toList
def d460 : List Nat := []
noncomputable def F460 (c : CF) (a0 a1 : AV) (h : Heap) : Res := opt2 (c 501 [a0,a1] h) fun t7 h1 => opt (fastBin .geq t7 (iL 0)) fun t8 => some (t8,h1)
theorem TF460 (c : CF) (a0 a1 : AV) (h : Heap) : (rk d460 P0 c 9 c460).1 k460 [] k460 gK (argsTr gl 0 [a0,a1]) h = F460 c a0 a1 h := by kernel_rfl
noncomputable def N460 : FnF := n2 F460
theorem N460_ok [Nu] : FnOk P0 gl 460 N460 := n2_ok namesOk mixedOrders lowOk Tryz.func460 (by kernel_rfl) (by kernel_rfl) (by kernel_rfl) TF460
noncomputable def c461 : Code := codeOf Tryz.f461
noncomputable def k461 : Kt := finK P0 Tryz.f461.results.toList
def d461 : List Nat := []
noncomputable def F461 (c : CF) (a0 a1 : AV) (h : Heap) : Res := opt2 (box a1 h) fun t3 h1 => opt (fieldAddrX 3 t3) fun t5 => opt (loadX none t5 h1) fun t6 => opt (buildX [(iL 0),(iL 0),(iL 0),(iL 0),cL,eL,nL] [(0,1),(1,1),(2,1),(3,1),(4,1),(5,1),(6,1)] [(1,(iL 1)),(4,t6)]) fun t7 => opt (buildX [(iL 0),(iL 0),(iL 0),(iL 0),cL,eL,nL,nL,(iL 0),(iL 0)] [(0,7),(7,1),(8,1),(9,1)] [(0,t7)]) fun t8 => opt2 (c 309 [a0,t8,(iL 1)] h1) fun t9 h2 => some ((.lit (.tuple #[])),h2)
theorem TF461 (c : CF) (a0 a1 : AV) (h : Heap) : (rk d461 P0 c 10 c461).1 k461 [] k461 gK (argsTr gl 0 [a0,a1]) h = F461 c a0 a1 h := by kernel_rfl
noncomputable def N461 : FnF := n2 F461
theorem N461_ok [Nu] : FnOk P0 gl 461 N461 := n2_ok namesOk mixedOrders lowOk Tryz.func461 (by kernel_rfl) (by kernel_rfl) (by kernel_rfl) TF461
noncomputable def c466 : Code := codeOf Tryz.f466
noncomputable def k466 : Kt := finK P0 Tryz.f466.results.toList
def d466 : List Nat := []
noncomputable def F466 (c : CF) (a0 a1 : AV) (h : Heap) : Res := opt2 (box a1 h) fun t3 h1 => opt (fieldAddrX 6 t3) fun t5 => opt (loadX none t5 h1) fun t6 => opt2 (c 508 [a0,t6] h1) fun t7 h2 => opt (fieldAddrX 2 t3) fun t9 => opt (loadX none t9 h2) fun t10 => opt2 (c 509 [a0,t10] h2) fun t11 h3 => some ((.lit (.tuple #[])),h3)
theorem TF466 (c : CF) (a0 a1 : AV) (h : Heap) : (rk d466 P0 c 12 c466).1 k466 [] k466 gK (argsTr gl 0 [a0,a1]) h = F466 c a0 a1 h := by kernel_rfl
noncomputable def N466 : FnF := n2 F466
theorem N466_ok [Nu] : FnOk P0 gl 466 N466 := n2_ok namesOk mixedOrders lowOk Tryz.func466 (by kernel_rfl) (by kernel_rfl) (by kernel_rfl) TF466
noncomputable def c473 : Code := codeOf Tryz.f473
noncomputable def k473 : Kt := finK P0 Tryz.f473.results.toList
def d473 : List Nat := []
noncomputable def S473_0 (c : CF) (t5 : AV) (h : Heap) : Res := opt2 (c 213 [t5] h) fun t99 h1 => some (t99,h1)
theorem TS473_0 (c : CF) : (rk d473 P0 c 100 c473.s9).1 k473 [] k473 gK = L1 (S473_0 c) 5 := by funext s h; kernel_rfl
noncomputable def S473_2 (c : CF) (r1 : A4) (t1 t5 t12 t77 t78 : AV) (h : Heap) : Res := opt (binX P0 .none .shr 3 t12 (.lit (.int .u64 8))) fun t91 => opt (convI .u8 t91) fun t92 => opt (convI .u8 t12) fun t94 => opt2 (bsliceX 1 (uL 0) 2 [(0,t92),(1,t94)] h) fun t95 h1 => opt2 (c 335 [t5,t95] h1) fun t96 h2 => opt (fastBin .add t78 (iL 1)) fun t97 => r1 t1 t5 t77 t97 h2
theorem TS473_2 (c : CF) (r1 : A4) : (rk d473 P0 c 100 c473.s8.fst.snd.bd.bd.s2.fst.bd.s3).1 ((rk d473 P0 c 100 c473.s8.fst.snd.bd.bd.s3).1 (L4 r1 1 5 77 78) [(1,(L1 (S473_0 c) 5))] k473 gK) [(2,((rk d473 P0 c 100 c473.s8.fst.snd.bd.bd.s3).1 (L4 r1 1 5 77 78) [(1,(L1 (S473_0 c) 5))] k473 gK)),(1,(L1 (S473_0 c) 5))] k473 gK = L5 (S473_2 c r1) 1 5 12 77 78 := by funext s h; kernel_rfl
noncomputable def S473_3 (c : CF) (r1 : A4) (t1 t5 t11 t12 t77 t78 : AV) (h : Heap) : Res := opt (lenS t1) fun t83 => opt (fastBin .lss t11 t83) fun t84 => test t84 (opt (indexAddrS 1 t1 t11 h) fun t87 => opt (loadX none t87 h) fun t88 => S473_2 c r1 t1 t5 t88 t77 t78 h) (S473_2 c r1 t1 t5 t12 t77 t78 h)
theorem TS473_3 (c : CF) (r1 : A4) : (rk d473 P0 c 100 c473.s8.fst.snd.bd.bd.s2.fst.bd.s2).1 ((rk d473 P0 c 100 c473.s8.fst.snd.bd.bd.s3).1 (L4 r1 1 5 77 78) [(1,(L1 (S473_0 c) 5))] k473 gK) [(2,((rk d473 P0 c 100 c473.s8.fst.snd.bd.bd.s3).1 (L4 r1 1 5 77 78) [(1,(L1 (S473_0 c) 5))] k473 gK)),(1,(L1 (S473_0 c) 5))] k473 gK = L6 (S473_3 c r1) 1 5 11 12 77 78 := Eq.trans (seq_t (by kernel_rfl) (TS473_2 c r1) rfl) (by funext s h; kernel_rfl)
noncomputable def S473_4 (c : CF) (r1 : A4) (t1 t5 t11 t77 t78 : AV) (h : Heap) : Res := S473_3 c r1 t1 t5 t11 (iL 0) t77 t78 h
theorem TS473_4 (c : CF) (r1 : A4) : (rk d473 P0 c 100 c473.s8.fst.snd.bd.bd.s2.fst.bd.snd).1 ((rk d473 P0 c 100 c473.s8.fst.snd.bd.bd.s3).1 (L4 r1 1 5 77 78) [(1,(L1 (S473_0 c) 5))] k473 gK) [(2,((rk d473 P0 c 100 c473.s8.fst.snd.bd.bd.s3).1 (L4 r1 1 5 77 78) [(1,(L1 (S473_0 c) 5))] k473 gK)),(1,(L1 (S473_0 c) 5))] k473 gK = L5 (S473_4 c r1) 1 5 11 77 78 := Eq.trans (seq_t (by kernel_rfl) (TS473_3 c r1) rfl) (by funext s h; kernel_rfl)
noncomputable def S473_5 (c : CF) (r1 : A4) (t1 t5 t77 t78 : AV) (h : Heap) : Res := S473_4 c r1 t1 t5 t78 t77 t78 h
theorem TS473_5 (c : CF) (r1 : A4) : (rk d473 P0 c 100 c473.s8.fst.snd.bd.bd.s2).1 (L4 r1 1 5 77 78) [(1,(L1 (S473_0 c) 5))] k473 gK = L4 (S473_5 c r1) 1 5 77 78 := Eq.trans (seq_t (by kernel_rfl) rfl (block_t (id := 2) (by kernel_rfl) (seq_t (by kernel_rfl) (TS473_4 c r1) rfl))) (by funext s h; kernel_rfl)
noncomputable def S473_6 (c : CF) (r1 : A4) (t1 t5 t77 t78 t79 : AV) (h : Heap) : Res := test t79 (S473_5 c r1 t1 t5 t77 t78 h) (S473_0 c t5 h)
theorem TS473_6 (c : CF) (r1 : A4) : (rk d473 P0 c 100 c473.s8.fst.snd.bd.bd.snd).1 (L4 r1 1 5 77 78) [(1,(L1 (S473_0 c) 5))] k473 gK = L5 (S473_6 c r1) 1 5 77 78 79 := Eq.trans (seq_t (by kernel_rfl) (TS473_5 c r1) rfl) (by funext s h; kernel_rfl)
noncomputable def S473_7b (c : CF) (r1 : A4) (t1 t5 t77 t78 : AV) (h : Heap) : Res := opt (fastBin .lss t78 t77) fun t79 => S473_6 c r1 t1 t5 t77 t78 t79 h
theorem TS473_7b (c : CF) (r1 : A4) : (rk d473 P0 c 100 c473.s8.fst.snd.bd.bd).1 (L4 r1 1 5 77 78) [(1,(L1 (S473_0 c) 5))] k473 gK = L4 (S473_7b c r1) 1 5 77 78 := Eq.trans (seq_t (by kernel_rfl) (TS473_6 c r1) rfl) (by funext s h; kernel_rfl)
noncomputable def S473_1l (c : CF) : Nat → A4
  | 0 => fun _ _ _ _ _ => none
  | k + 1 => S473_7b c (S473_1l c k)
theorem TS473_1l (c : CF) : (rk d473 P0 c 100 c473.s8.fst.snd.bd).1 (L1 (S473_0 c) 5) [(1,(L1 (S473_0 c) 5))] k473 gK = L4 (S473_1l c rounds) 1 5 77 78 := loop_t (by kernel_rfl) (loop_ind (A := fun m => L4 (S473_1l c m) 1 5 77 78) rfl (fun m => TS473_7b c (S473_1l c m)) rounds)
noncomputable def S473_8 (c : CF) (t1 t5 t77 t78 : AV) (h : Heap) : Res := S473_1l c rounds t1 t5 t77 t78 h
theorem TS473_8 (c : CF) : (rk d473 P0 c 100 c473.s8.fst.snd).1 (L1 (S473_0 c) 5) [] k473 gK = L4 (S473_8 c) 1 5 77 78 := Eq.trans (block_t (id := 1) (by kernel_rfl) (TS473_1l c)) (by funext s h; kernel_rfl)
noncomputable def S473_9 (c : CF) (t1 t2 t5 : AV) (h : Heap) : Res := opt (fieldAddrX 6 t2) fun t75 => opt (loadX none t75 h) fun t76 => opt (lenS t76) fun t77 => S473_8 c t1 t5 t77 (iL 0) h
theorem TS473_9 (c : CF) : (rk d473 P0 c 100 c473.s8).1 k473 [] k473 gK = L3 (S473_9 c) 1 2 5 := Eq.trans (seq_t (by kernel_rfl) (TS473_0 c) (seq_t (by kernel_rfl) (TS473_8 c) rfl)) (by funext s h; kernel_rfl)
noncomputable def S473_10 (c : CF) (t1 t2 t5 : AV) (h : Heap) : Res := opt (fieldAddrX 1 t2) fun t66 => opt (loadX none t66 h) fun t67 => opt2 (c 160 [t67] h) fun t68 h1 => opt (extractX t68 0) fun t69 => opt (extractX t68 1) fun t70 => test t70 (opt2 (bsliceX 1 (uL 0) 2 [(0,(uL 0)),(1,(uL 0))] h1) fun t73 h2 => opt2 (c 335 [t5,t73] h2) fun t74 h3 => S473_9 c t1 t2 t5 h3) (S473_9 c t1 t2 t5 h1)
theorem TS473_10 (c : CF) : (rk d473 P0 c 100 c473.s7).1 k473 [] k473 gK = L3 (S473_10 c) 1 2 5 := Eq.trans (seq_t (by kernel_rfl) (TS473_9 c) rfl) (by funext s h; kernel_rfl)
noncomputable def S473_11 (c : CF) (t1 t2 t5 t7 : AV) (h : Heap) : Res := test t7 (opt (fieldAddrX 3 t2) fun t60 => opt (loadX none t60 h) fun t61 => opt (convI .u8 t61) fun t62 => opt2 (bsliceX 1 (uL 0) 1 [(0,t62)] h) fun t63 h1 => opt2 (c 335 [t5,t63] h1) fun t64 h2 => S473_10 c t1 t2 t5 h2) (S473_10 c t1 t2 t5 h)
theorem TS473_11 (c : CF) : (rk d473 P0 c 100 c473.s6).1 k473 [] k473 gK = L4 (S473_11 c) 1 2 5 7 := Eq.trans (seq_t (by kernel_rfl) (TS473_10 c) rfl) (by funext s h; kernel_rfl)
noncomputable def S473_12 (c : CF) (t1 t2 t5 t6 t7 : AV) (h : Heap) : Res := test t6 (opt (fieldAddrX 2 t2) fun t53 => opt (loadX none t53 h) fun t54 => opt (convI .u8 t54) fun t55 => opt2 (bsliceX 1 (uL 0) 1 [(0,t55)] h) fun t56 h1 => opt2 (c 335 [t5,t56] h1) fun t57 h2 => S473_11 c t1 t2 t5 t7 h2) (S473_11 c t1 t2 t5 t7 h)
theorem TS473_12 (c : CF) : (rk d473 P0 c 100 c473.s5).1 k473 [] k473 gK = L5 (S473_12 c) 1 2 5 6 7 := Eq.trans (seq_t (by kernel_rfl) (TS473_11 c) rfl) (by funext s h; kernel_rfl)
noncomputable def S473_13 (c : CF) (t1 t2 t5 t6 t7 : AV) (h : Heap) : Res := opt (fieldAddrX 1 t2) fun t28 => opt (loadX none t28 h) fun t29 => opt (fastBin .eql t29 (iL 1)) fun t30 => test t30 (opt (fieldAddrX 4 t2) fun t32 => opt (loadX none t32 h) fun t33 => opt (litBi P0 .real [24] 45 [false] [t33]) fun t34 => opt (convX P0 45 2 t34 h) fun t35 => opt2 (c 513 [t5,t35] h) fun t36 h1 => opt (fieldAddrX 4 t2) fun t38 => opt (loadX none t38 h1) fun t39 => opt (litBi P0 .imag [24] 45 [false] [t39]) fun t40 => opt (convX P0 45 2 t40 h1) fun t41 => opt2 (c 513 [t5,t41] h1) fun t42 h2 => S473_12 c t1 t2 t5 t6 t7 h2) (opt (fieldAddrX 1 t2) fun t44 => opt (loadX none t44 h) fun t45 => opt (fastBin .eql t45 (iL 2)) fun t46 => test t46 (opt (fieldAddrX 5 t2) fun t48 => opt (loadX none t48 h) fun t49 => opt2 (c 201 [t5,t49] h) fun t50 h3 => S473_12 c t1 t2 t5 t6 t7 h3) (S473_12 c t1 t2 t5 t6 t7 h))
theorem TS473_13 (c : CF) : (rk d473 P0 c 100 c473.s4).1 k473 [] k473 gK = L5 (S473_13 c) 1 2 5 6 7 := Eq.trans (seq_t (by kernel_rfl) (TS473_12 c) rfl) (by funext s h; kernel_rfl)
noncomputable def S473_14 (c : CF) (t1 t2 t5 : AV) (h : Heap) : Res := opt (fieldAddrX 1 t2) fun t21 => opt (loadX none t21 h) fun t22 => opt2 (c 157 [t22] h) fun t23 h1 => opt (extractX t23 0) fun t24 => opt (extractX t23 1) fun t25 => opt (extractX t23 2) fun t26 => S473_13 c t1 t2 t5 t24 t25 h1
theorem TS473_14 (c : CF) : (rk d473 P0 c 100 c473.s3).1 k473 [] k473 gK = L3 (S473_14 c) 1 2 5 := Eq.trans (seq_t (by kernel_rfl) (TS473_13 c) rfl) (by funext s h; kernel_rfl)
noncomputable def S473_15 (c : CF) (t1 t2 t5 : AV) (h : Heap) : Res := opt (fieldAddrX 1 t2) fun t15 => opt (loadX none t15 h) fun t16 => opt (convI .u8 t16) fun t17 => opt2 (bsliceX 1 (uL 0) 1 [(0,t17)] h) fun t18 h1 => opt2 (c 335 [t5,t18] h1) fun t19 h2 => S473_14 c t1 t2 t5 h2
theorem TS473_15 (c : CF) : (rk d473 P0 c 100 c473.s2).1 k473 [] k473 gK = L3 (S473_15 c) 1 2 5 := Eq.trans (seq_t (by kernel_rfl) (TS473_14 c) rfl) (by funext s h; kernel_rfl)
noncomputable def S473_16 (c : CF) (t1 t2 : AV) (h : Heap) : Res := opt2 (c 200 [] h) fun t13 h1 => S473_15 c t1 t2 t13 h1
theorem TS473_16 (c : CF) : (rk d473 P0 c 100 c473.snd).1 k473 [] k473 gK = L2 (S473_16 c) 1 2 := Eq.trans (seq_t (by kernel_rfl) (TS473_15 c) rfl) (by funext s h; kernel_rfl)
noncomputable def F473 (c : CF) (a0 a1 : AV) (h : Heap) : Res := opt2 (box a0 h) fun t2 h1 => S473_16 c a1 t2 h1
theorem TF473 (c : CF) (a0 a1 : AV) (h : Heap) : (rk d473 P0 c 100 c473).1 k473 [] k473 gK (argsTr gl 0 [a0,a1]) h = F473 c a0 a1 h := Eq.trans (congrFun (congrFun (seq_t (by kernel_rfl) (TS473_16 c) rfl) _) _) (by kernel_rfl)
noncomputable def N473 : FnF := n2 F473
theorem N473_ok [Nu] : FnOk P0 gl 473 N473 := n2_ok namesOk mixedOrders lowOk Tryz.func473 (by kernel_rfl) (by kernel_rfl) (by kernel_rfl) TF473
noncomputable def c474 : Code := codeOf Tryz.f474
noncomputable def k474 : Kt := finK P0 Tryz.f474.results.toList
def d474 : List Nat := [5,7,9]
noncomputable def S474_0 (c : CF) (t1 : AV) (h : Heap) : Res := opt (fieldAddrX 5 t1) fun t81 => opt (loadX none t81 h) fun t82 => opt (lenStr t82) fun t83 => opt (fastBin .leq t83 (iL 200)) fun t84 => test t84 (opt (fieldAddrX 1 t1) fun t86 => opt (loadX none t86 h) fun t87 => opt (fastBin .eql t87 (iL 2)) fun t88 => test t88 (some (tL,h)) (opt (fieldAddrX 5 t1) fun t90 => opt (loadX none t90 h) fun t91 => opt (fastBin .eql t91 eL) fun t92 => some (t92,h))) (some (fL,h))
theorem TS474_0 (c : CF) : (rk d474 P0 c 95 c474.s4).1 k474 [] k474 gK = L1 (S474_0 c) 1 := by funext s h; kernel_rfl
noncomputable def S474_1 (c : CF) (t1 t47 : AV) (h : Heap) : Res := test t47 (none) (opt (fieldAddrX 1 t1) fun t62 => opt (loadX none t62 h) fun t63 => opt (fastBin .eql t63 (iL 1)) fun t64 => test t64 (opt (fieldAddrX 4 t1) fun t66 => opt (loadX none t66 h) fun t67 => opt2 (c 26 [t67] h) fun t68 h1 => opt (notX t68) fun t69 => test t69 (none) (opt (fieldAddrX 1 t1) fun t72 => opt (loadX none t72 h1) fun t73 => opt (fastBin .neq t73 (iL 1)) fun t74 => test t74 (opt (fieldAddrX 4 t1) fun t76 => opt (loadX none t76 h1) fun t77 => opt (binX P0 .none .neq 24 t77 cL) fun t78 => test t78 (none) (S474_0 c t1 h1)) (S474_0 c t1 h1))) (opt (fieldAddrX 1 t1) fun t72_1 => opt (loadX none t72_1 h) fun t73_1 => opt (fastBin .neq t73_1 (iL 1)) fun t74_1 => test t74_1 (opt (fieldAddrX 4 t1) fun t76_1 => opt (loadX none t76_1 h) fun t77_1 => opt (binX P0 .none .neq 24 t77_1 cL) fun t78_1 => test t78_1 (none) (S474_0 c t1 h)) (S474_0 c t1 h)))
theorem TS474_1 (c : CF) : (rk d474 P0 c 95 c474.s3.fst.bd.snd.els.snd).1 (L1 (S474_0 c) 1) [(0,(L1 (S474_0 c) 1))] k474 gK = L2 (S474_1 c) 1 47 := by funext s h; kernel_rfl
noncomputable def S474_2 (c : CF) (t1 : AV) (h : Heap) : Res := opt (fieldAddrX 1 t1) fun t48 => opt (loadX none t48 h) fun t49 => opt (fastBin .eql t49 (iL 10)) fun t50 => test t50 (opt (fieldAddrX 2 t1) fun t52 => opt (loadX none t52 h) fun t53 => opt (fastBin .lss t53 (iL 1)) fun t54 => test t54 (S474_1 c t1 tL h) (opt (fieldAddrX 2 t1) fun t56 => opt (loadX none t56 h) fun t57 => opt (fastBin .gtr t57 (iL 6)) fun t58 => S474_1 c t1 t58 h)) (S474_1 c t1 fL h)
theorem TS474_2 (c : CF) : (rk d474 P0 c 95 c474.s3.fst.bd.snd.els).1 (L1 (S474_0 c) 1) [(0,(L1 (S474_0 c) 1))] k474 gK = L1 (S474_2 c) 1 := Eq.trans (seq_t (by kernel_rfl) (TS474_1 c) rfl) (by funext s h; kernel_rfl)
noncomputable def S474_3 (c : CF) (t1 t17 : AV) (h : Heap) : Res := test t17 (none) (S474_2 c t1 h)
theorem TS474_3 (c : CF) : (rk d474 P0 c 95 c474.s3.fst.bd.snd).1 (L1 (S474_0 c) 1) [(0,(L1 (S474_0 c) 1))] k474 gK = L2 (S474_3 c) 1 17 := Eq.trans (cond_t (by kernel_rfl) rfl (TS474_2 c)) (by funext s h; kernel_rfl)
noncomputable def S474_4 (c : CF) (t1 t3 t4 t5 : AV) (h : Heap) : Res := opt (fieldAddrX 1 t1) fun t18 => opt (loadX none t18 h) fun t19 => opt (fastBin .lss t19 (iL 1)) fun t20 => test t20 (S474_3 c t1 tL h) (opt (fieldAddrX 1 t1) fun t22 => opt (loadX none t22 h) fun t23 => opt (fastBin .gtr t23 (iL 15)) fun t24 => test t24 (S474_3 c t1 tL h) (opt (fieldAddrX 2 t1) fun t27 => opt (loadX none t27 h) fun t28 => opt2 (c 514 [t28,t3] h) fun t30 h1 => opt (notX t30) fun t31 => test t31 (S474_3 c t1 tL h1) (opt (fieldAddrX 3 t1) fun t34 => opt (loadX none t34 h1) fun t35 => opt2 (c 514 [t35,t4] h1) fun t37 h2 => opt (notX t37) fun t38 => test t38 (S474_3 c t1 tL h2) (opt (fieldAddrX 6 t1) fun t41 => opt (loadX none t41 h2) fun t42 => opt (lenS t42) fun t43 => opt (fastBin .neq t43 t5) fun t45 => S474_3 c t1 t45 h2))))
theorem TS474_4 (c : CF) : (rk d474 P0 c 95 c474.s3).1 k474 [] k474 gK = L4 (S474_4 c) 1 3 4 5 := Eq.trans (seq_t (by kernel_rfl) (TS474_0 c) (block_t (id := 0) (by kernel_rfl) (seq_t (by kernel_rfl) (TS474_3 c) rfl))) (by funext s h; kernel_rfl)
noncomputable def S474_5 (c : CF) (t1 t3 t4 t5 : AV) (h : Heap) : Res := opt (fastBin .lss t5 (iL 0)) fun t14 => test t14 (opt (fieldAddrX 2 t1) fun t15 => opt (loadX none t15 h) fun t16 => S474_4 c t1 t3 t4 t16 h) (S474_4 c t1 t3 t4 t5 h)
theorem TS474_5 (c : CF) : (rk d474 P0 c 95 c474.s2).1 k474 [] k474 gK = L4 (S474_5 c) 1 3 4 5 := Eq.trans (seq_t (by kernel_rfl) (TS474_4 c) rfl) (by funext s h; kernel_rfl)
noncomputable def S474_6 (c : CF) (t1 : AV) (h : Heap) : Res := opt (fieldAddrX 1 t1) fun t7 => opt (loadX none t7 h) fun t8 => opt2 (c 157 [t8] h) fun t9 h1 => opt (extractX t9 0) fun t10 => opt (extractX t9 1) fun t11 => opt (extractX t9 2) fun t12 => S474_5 c t1 t10 t11 t12 h1
theorem TS474_6 (c : CF) : (rk d474 P0 c 95 c474.snd).1 k474 [] k474 gK = L1 (S474_6 c) 1 := Eq.trans (seq_t (by kernel_rfl) (TS474_5 c) rfl) (by funext s h; kernel_rfl)
noncomputable def F474 (c : CF) (a0 : AV) (h : Heap) : Res := opt2 (box a0 h) fun t1 h1 => S474_6 c t1 h1
theorem TF474 (c : CF) (a0 : AV) (h : Heap) : (rk d474 P0 c 95 c474).1 k474 [] k474 gK (argsTr gl 0 [a0]) h = F474 c a0 h := Eq.trans (congrFun (congrFun (seq_t (by kernel_rfl) (TS474_6 c) rfl) _) _) (by kernel_rfl)
noncomputable def N474 : FnF := n1 F474
theorem N474_ok [Nu] : FnOk P0 gl 474 N474 := n1_ok namesOk mixedOrders lowOk Tryz.func474 (by kernel_rfl) (by kernel_rfl) (by kernel_rfl) TF474
noncomputable def c481 : Code := codeOf Tryz.f481
noncomputable def k481 : Kt := finK P0 Tryz.f481.results.toList
def d481 : List Nat := []
noncomputable def S481_0 (c : CF) (h : Heap) : Res := some ((iL (-1)),h)
theorem TS481_0 (c : CF) : (rk d481 P0 c 19 c481.s2).1 k481 [] k481 gK = L0 (S481_0 c) := by funext s h; kernel_rfl
noncomputable def S481_2b (c : CF) (r1 : A4) (t0 t1 t7 t8 : AV) (h : Heap) : Res := opt (fastBin .lss t8 t7) fun t9 => test t9 (opt (indexAddrS 2 t0 t8 h) fun t14 => opt (loadX (some 2) t14 h) fun t15 => opt2 (callV P0 c t1 [t15] h) fun t16 h1 => test t16 (some (t8,h1)) (opt (fastBin .add t8 (iL 1)) fun t18 => r1 t0 t1 t7 t18 h1)) (S481_0 c h)
theorem TS481_2b (c : CF) (r1 : A4) : (rk d481 P0 c 19 c481.snd.fst.snd.bd.bd).1 (L4 r1 0 1 7 8) [(0,(L0 (S481_0 c)))] k481 gK = L4 (S481_2b c r1) 0 1 7 8 := by funext s h; kernel_rfl
noncomputable def S481_1l (c : CF) : Nat → A4
  | 0 => fun _ _ _ _ _ => none
  | k + 1 => S481_2b c (S481_1l c k)
theorem TS481_1l (c : CF) : (rk d481 P0 c 19 c481.snd.fst.snd.bd).1 (L0 (S481_0 c)) [(0,(L0 (S481_0 c)))] k481 gK = L4 (S481_1l c rounds) 0 1 7 8 := loop_t (by kernel_rfl) (loop_ind (A := fun m => L4 (S481_1l c m) 0 1 7 8) rfl (fun m => TS481_2b c (S481_1l c m)) rounds)
noncomputable def S481_3 (c : CF) (t0 t1 t7 t8 : AV) (h : Heap) : Res := S481_1l c rounds t0 t1 t7 t8 h
theorem TS481_3 (c : CF) : (rk d481 P0 c 19 c481.snd.fst.snd).1 (L0 (S481_0 c)) [] k481 gK = L4 (S481_3 c) 0 1 7 8 := Eq.trans (block_t (id := 0) (by kernel_rfl) (TS481_1l c)) (by funext s h; kernel_rfl)
noncomputable def S481_4 (c : CF) (t0 t1 : AV) (h : Heap) : Res := opt (lenS t0) fun t7 => S481_3 c t0 t1 t7 (iL 0) h
theorem TS481_4 (c : CF) : (rk d481 P0 c 19 c481.snd).1 k481 [] k481 gK = L2 (S481_4 c) 0 1 := Eq.trans (seq_t (by kernel_rfl) (TS481_0 c) (seq_t (by kernel_rfl) (TS481_3 c) rfl)) (by funext s h; kernel_rfl)
noncomputable def F481 (c : CF) (a0 a1 : AV) (h : Heap) : Res := S481_4 c a0 a1 h
theorem TF481 (c : CF) (a0 a1 : AV) (h : Heap) : (rk d481 P0 c 19 c481).1 k481 [] k481 gK (argsTr gl 0 [a0,a1]) h = F481 c a0 a1 h := Eq.trans (congrFun (congrFun (seq_t (by kernel_rfl) (TS481_4 c) rfl) _) _) (by kernel_rfl)
noncomputable def N481 : FnF := n2 F481
theorem N481_ok [Nu] : FnOk P0 gl 481 N481 := n2_ok namesOk mixedOrders lowOk Tryz.func481 (by kernel_rfl) (by kernel_rfl) (by kernel_rfl) TF481
noncomputable def c496 : Code := codeOf Tryz.f496
noncomputable def k496 : Kt := finK P0 Tryz.f496.results.toList
def d496 : List Nat := []
noncomputable def F496 (c : CF) (a0 a1 : AV) (h : Heap) : Res := opt2 (c 524 [a0,a1] h) fun t8 h1 => opt (extractX t8 0) fun t9 => opt (extractX t8 1) fun t10 => some ((.tup [t9,t10]),h1)
theorem TF496 (c : CF) (a0 a1 : AV) (h : Heap) : (rk d496 P0 c 11 c496).1 k496 [] k496 gK (argsTr gl 0 [a0,a1]) h = F496 c a0 a1 h := by kernel_rfl
noncomputable def N496 : FnF := n2 F496
theorem N496_ok [Nu] : FnOk P0 gl 496 N496 := n2_ok namesOk mixedOrders lowOk Tryz.func496 (by kernel_rfl) (by kernel_rfl) (by kernel_rfl) TF496
noncomputable def c497 : Code := codeOf Tryz.f497
noncomputable def k497 : Kt := finK P0 Tryz.f497.results.toList
def d497 : List Nat := []
noncomputable def S497_0 (c : CF) (t0 t5 t6 : AV) (h : Heap) : Res := opt (convX P0 3 45 t5 h) fun t35 => eqH h h (opt (fastCut t0 (some t6) none none) fun t38 => eqH h h (opt (fastBin .gtr t6 (iL 0)) fun t40 => some ((.tup [t35,t38,t40]),h)))
theorem TS497_0 (c : CF) : (rk d497 P0 c 41 c497.s3).1 k497 [] k497 gK = L3 (S497_0 c) 0 5 6 := by funext s h; kernel_rfl
noncomputable def S497_2 (c : CF) (r1 : A3) (t0 t5 t6 : AV) (h : Heap) : Res := opt (fastBin .mul (iL 10) t5) fun t24 => opt (fastIndex t0 t6) fun t27 => opt (fastBin .sub t27 (uL 48)) fun t28 => opt (convI .i64 t28) fun t29 => opt (fastBin .add t24 t29) fun t30 => opt (litBi P0 .min [3,3] 3 [false,true] [t30,(iL 10485760)]) fun t31 => opt (fastBin .add t6 (iL 1)) fun t33 => r1 t0 t31 t33 h
theorem TS497_2 (c : CF) (r1 : A3) : (rk d497 P0 c 41 c497.s2.fst.bd.bd.snd).1 (L3 r1 0 5 6) [(0,(L3 (S497_0 c) 0 5 6))] k497 gK = L3 (S497_2 c r1) 0 5 6 := by funext s h; kernel_rfl
noncomputable def S497_3b (c : CF) (r1 : A3) (t0 t5 t6 : AV) (h : Heap) : Res := opt (lenStr t0) fun t9 => opt (fastBin .lss t6 t9) fun t10 => test t10 (opt (fastIndex t0 t6) fun t14 => opt (fastBin .geq t14 (uL 48)) fun t15 => test t15 (opt (fastIndex t0 t6) fun t20 => opt (fastBin .leq t20 (uL 57)) fun t21 => test t21 (S497_2 c r1 t0 t5 t6 h) (S497_0 c t0 t5 t6 h)) (S497_0 c t0 t5 t6 h)) (S497_0 c t0 t5 t6 h)
theorem TS497_3b (c : CF) (r1 : A3) : (rk d497 P0 c 41 c497.s2.fst.bd.bd).1 (L3 r1 0 5 6) [(0,(L3 (S497_0 c) 0 5 6))] k497 gK = L3 (S497_3b c r1) 0 5 6 := Eq.trans (seq_t (by kernel_rfl) (TS497_2 c r1) rfl) (by funext s h; kernel_rfl)
noncomputable def S497_1l (c : CF) : Nat → A3
  | 0 => fun _ _ _ _ => none
  | k + 1 => S497_3b c (S497_1l c k)
theorem TS497_1l (c : CF) : (rk d497 P0 c 41 c497.s2.fst.bd).1 (L3 (S497_0 c) 0 5 6) [(0,(L3 (S497_0 c) 0 5 6))] k497 gK = L3 (S497_1l c rounds) 0 5 6 := loop_t (by kernel_rfl) (loop_ind (A := fun m => L3 (S497_1l c m) 0 5 6) rfl (fun m => TS497_3b c (S497_1l c m)) rounds)
noncomputable def S497_4 (c : CF) (t0 t5 t6 : AV) (h : Heap) : Res := S497_1l c rounds t0 t5 t6 h
theorem TS497_4 (c : CF) : (rk d497 P0 c 41 c497.s2).1 k497 [] k497 gK = L3 (S497_4 c) 0 5 6 := Eq.trans (seq_t (by kernel_rfl) (TS497_0 c) (block_t (id := 0) (by kernel_rfl) (TS497_1l c))) (by funext s h; kernel_rfl)
noncomputable def S497_5 (c : CF) (t0 : AV) (h : Heap) : Res := S497_4 c t0 (iL 0) (iL 0) h
theorem TS497_5 (c : CF) : (rk d497 P0 c 41 c497.snd).1 k497 [] k497 gK = L1 (S497_5 c) 0 := Eq.trans (seq_t (by kernel_rfl) (TS497_4 c) rfl) (by funext s h; kernel_rfl)
noncomputable def F497 (c : CF) (a0 : AV) (h : Heap) : Res := S497_5 c a0 h
theorem TF497 (c : CF) (a0 : AV) (h : Heap) : (rk d497 P0 c 41 c497).1 k497 [] k497 gK (argsTr gl 0 [a0]) h = F497 c a0 h := Eq.trans (congrFun (congrFun (seq_t (by kernel_rfl) (TS497_5 c) rfl) _) _) (by kernel_rfl)
noncomputable def N497 : FnF := n1 F497
theorem N497_ok [Nu] : FnOk P0 gl 497 N497 := n1_ok namesOk mixedOrders lowOk Tryz.func497 (by kernel_rfl) (by kernel_rfl) (by kernel_rfl) TF497
noncomputable def c498 : Code := codeOf Tryz.f498
noncomputable def k498 : Kt := finK P0 Tryz.f498.results.toList
def d498 : List Nat := [2]
noncomputable def F498 (c : CF) (a0 a1 : AV) (h : Heap) : Res := test a1 (none) (some (a0,h))
theorem TF498 (c : CF) (a0 a1 : AV) (h : Heap) : (rk d498 P0 c 9 c498).1 k498 [] k498 gK (argsTr gl 0 [a0,a1]) h = F498 c a0 a1 h := by kernel_rfl
noncomputable def N498 : FnF := n2 F498
theorem N498_ok [Nu] : FnOk P0 gl 498 N498 := n2_ok namesOk mixedOrders lowOk Tryz.func498 (by kernel_rfl) (by kernel_rfl) (by kernel_rfl) TF498
noncomputable def c499 : Code := codeOf Tryz.f499
noncomputable def k499 : Kt := finK P0 Tryz.f499.results.toList
def d499 : List Nat := []
noncomputable def F499 (c : CF) (a0 a1 : AV) (h : Heap) : Res := opt2 (c 356 [a0,a1] h) fun t7 h1 => some (t7,h1)
theorem TF499 (c : CF) (a0 a1 : AV) (h : Heap) : (rk d499 P0 c 8 c499).1 k499 [] k499 gK (argsTr gl 0 [a0,a1]) h = F499 c a0 a1 h := by kernel_rfl
noncomputable def N499 : FnF := n2 F499
theorem N499_ok [Nu] : FnOk P0 gl 499 N499 := n2_ok namesOk mixedOrders lowOk Tryz.func499 (by kernel_rfl) (by kernel_rfl) (by kernel_rfl) TF499
noncomputable def c500 : Code := codeOf Tryz.f500
noncomputable def k500 : Kt := finK P0 Tryz.f500.results.toList
def d500 : List Nat := []
noncomputable def S500_0 (c : CF) (t0 : AV) (h : Heap) : Res := some (t0,h)
theorem TS500_0 (c : CF) : (rk d500 P0 c 23 c500.s3).1 k500 [] k500 gK = L1 (S500_0 c) 0 := by funext s h; kernel_rfl
noncomputable def S500_2b (c : CF) (r1 : A4) (t0 t7 t8 t9 : AV) (h : Heap) : Res := opt (fastBin .lss t9 t8) fun t10 => test t10 (opt (indexAddrS 2 t7 t9 h) fun t12 => opt (loadX (some 2) t12 h) fun t13 => opt2 (box (.agg [eL,nL]) h) fun t4 h1 => optH (storeX 2 t4 t13 h1) fun h2 => opt (fieldAddrX 1 t4) fun t16 => opt (loadX none t16 h2) fun t17 => opt2 (c 119 [t17] h2) fun t18 h3 => opt (indexAddrS 2 t0 t9 h3) fun t19 => opt (fieldAddrX 1 t19) fun t20 => optH (storeX 1 t20 t18 h3) fun h4 => opt (fastBin .add t9 (iL 1)) fun t21 => r1 t0 t7 t8 t21 h4) (S500_0 c t0 h)
theorem TS500_2b (c : CF) (r1 : A4) : (rk d500 P0 c 23 c500.s2.fst.snd.bd.bd).1 (L4 r1 0 7 8 9) [(0,(L1 (S500_0 c) 0))] k500 gK = L4 (S500_2b c r1) 0 7 8 9 := by funext s h; kernel_rfl
noncomputable def S500_1l (c : CF) : Nat → A4
  | 0 => fun _ _ _ _ _ => none
  | k + 1 => S500_2b c (S500_1l c k)
theorem TS500_1l (c : CF) : (rk d500 P0 c 23 c500.s2.fst.snd.bd).1 (L1 (S500_0 c) 0) [(0,(L1 (S500_0 c) 0))] k500 gK = L4 (S500_1l c rounds) 0 7 8 9 := loop_t (by kernel_rfl) (loop_ind (A := fun m => L4 (S500_1l c m) 0 7 8 9) rfl (fun m => TS500_2b c (S500_1l c m)) rounds)
noncomputable def S500_3 (c : CF) (t0 t7 t8 t9 : AV) (h : Heap) : Res := S500_1l c rounds t0 t7 t8 t9 h
theorem TS500_3 (c : CF) : (rk d500 P0 c 23 c500.s2.fst.snd).1 (L1 (S500_0 c) 0) [] k500 gK = L4 (S500_3 c) 0 7 8 9 := Eq.trans (block_t (id := 0) (by kernel_rfl) (TS500_1l c)) (by funext s h; kernel_rfl)
noncomputable def S500_4 (c : CF) (t0 : AV) (h : Heap) : Res := opt (lenS t0) fun t8 => S500_3 c t0 t0 t8 (iL 0) h
theorem TS500_4 (c : CF) : (rk d500 P0 c 23 c500.s2).1 k500 [] k500 gK = L1 (S500_4 c) 0 := Eq.trans (seq_t (by kernel_rfl) (TS500_0 c) (seq_t (by kernel_rfl) (TS500_3 c) rfl)) (by funext s h; kernel_rfl)
noncomputable def S500_5 (c : CF) (t0 : AV) (h : Heap) : Res := opt2 (c 242 [t0] h) fun t6 h1 => S500_4 c t6 h1
theorem TS500_5 (c : CF) : (rk d500 P0 c 23 c500.snd).1 k500 [] k500 gK = L1 (S500_5 c) 0 := Eq.trans (seq_t (by kernel_rfl) (TS500_4 c) rfl) (by funext s h; kernel_rfl)
noncomputable def F500 (c : CF) (a0 : AV) (h : Heap) : Res := S500_5 c a0 h
theorem TF500 (c : CF) (a0 : AV) (h : Heap) : (rk d500 P0 c 23 c500).1 k500 [] k500 gK (argsTr gl 0 [a0]) h = F500 c a0 h := Eq.trans (congrFun (congrFun (seq_t (by kernel_rfl) (TS500_5 c) rfl) _) _) (by kernel_rfl)
noncomputable def N500 : FnF := n1 F500
theorem N500_ok [Nu] : FnOk P0 gl 500 N500 := n1_ok namesOk mixedOrders lowOk Tryz.func500 (by kernel_rfl) (by kernel_rfl) (by kernel_rfl) TF500
noncomputable def c501 : Code := codeOf Tryz.f501
noncomputable def k501 : Kt := finK P0 Tryz.f501.results.toList
def d501 : List Nat := []
noncomputable def S501_0 (c : CF) (h : Heap) : Res := some ((iL (-1)),h)
theorem TS501_0 (c : CF) : (rk d501 P0 c 19 c501.s2).1 k501 [] k501 gK = L0 (S501_0 c) := by funext s h; kernel_rfl
noncomputable def S501_2b (c : CF) (r1 : A4) (t0 t1 t7 t8 : AV) (h : Heap) : Res := opt (fastBin .lss t8 t7) fun t9 => test t9 (opt (indexAddrS 1 t0 t8 h) fun t14 => opt (loadX none t14 h) fun t15 => opt (fastBin .eql t1 t15) fun t16 => test t16 (some (t8,h)) (opt (fastBin .add t8 (iL 1)) fun t18 => r1 t0 t1 t7 t18 h)) (S501_0 c h)
theorem TS501_2b (c : CF) (r1 : A4) : (rk d501 P0 c 19 c501.snd.fst.snd.bd.bd).1 (L4 r1 0 1 7 8) [(0,(L0 (S501_0 c)))] k501 gK = L4 (S501_2b c r1) 0 1 7 8 := by funext s h; kernel_rfl
noncomputable def S501_1l (c : CF) : Nat → A4
  | 0 => fun _ _ _ _ _ => none
  | k + 1 => S501_2b c (S501_1l c k)
theorem TS501_1l (c : CF) : (rk d501 P0 c 19 c501.snd.fst.snd.bd).1 (L0 (S501_0 c)) [(0,(L0 (S501_0 c)))] k501 gK = L4 (S501_1l c rounds) 0 1 7 8 := loop_t (by kernel_rfl) (loop_ind (A := fun m => L4 (S501_1l c m) 0 1 7 8) rfl (fun m => TS501_2b c (S501_1l c m)) rounds)
noncomputable def S501_3 (c : CF) (t0 t1 t7 t8 : AV) (h : Heap) : Res := S501_1l c rounds t0 t1 t7 t8 h
theorem TS501_3 (c : CF) : (rk d501 P0 c 19 c501.snd.fst.snd).1 (L0 (S501_0 c)) [] k501 gK = L4 (S501_3 c) 0 1 7 8 := Eq.trans (block_t (id := 0) (by kernel_rfl) (TS501_1l c)) (by funext s h; kernel_rfl)
noncomputable def S501_4 (c : CF) (t0 t1 : AV) (h : Heap) : Res := opt (lenS t0) fun t7 => S501_3 c t0 t1 t7 (iL 0) h
theorem TS501_4 (c : CF) : (rk d501 P0 c 19 c501.snd).1 k501 [] k501 gK = L2 (S501_4 c) 0 1 := Eq.trans (seq_t (by kernel_rfl) (TS501_0 c) (seq_t (by kernel_rfl) (TS501_3 c) rfl)) (by funext s h; kernel_rfl)
noncomputable def F501 (c : CF) (a0 a1 : AV) (h : Heap) : Res := S501_4 c a0 a1 h
theorem TF501 (c : CF) (a0 a1 : AV) (h : Heap) : (rk d501 P0 c 19 c501).1 k501 [] k501 gK (argsTr gl 0 [a0,a1]) h = F501 c a0 a1 h := Eq.trans (congrFun (congrFun (seq_t (by kernel_rfl) (TS501_4 c) rfl) _) _) (by kernel_rfl)
noncomputable def N501 : FnF := n2 F501
theorem N501_ok [Nu] : FnOk P0 gl 501 N501 := n2_ok namesOk mixedOrders lowOk Tryz.func501 (by kernel_rfl) (by kernel_rfl) (by kernel_rfl) TF501
noncomputable def c508 : Code := codeOf Tryz.f508
noncomputable def k508 : Kt := finK P0 Tryz.f508.results.toList
def d508 : List Nat := []
noncomputable def S508_1b (c : CF) (r0 : A4) (t0 t6 t7 t8 : AV) (h : Heap) : Res := opt (fastBin .lss t8 t7) fun t9 => test t9 (opt (indexAddrS 9 t6 t8 h) fun t10 => opt (loadX (some 9) t10 h) fun t11 => opt2 (box (.agg [(iL 0),(iL 0),eL,cL,eL,eL,nL,nL,nL]) h) fun t5 h1 => optH (storeX 9 t5 t11 h1) fun h2 => opt (loadX (some 9) t5 h2) fun t13 => opt2 (c 308 [t0,t13] h2) fun t14 h3 => opt (fastBin .add t8 (iL 1)) fun t15 => r0 t0 t6 t7 t15 h3) (some ((.lit (.tuple #[])),h))
theorem TS508_1b (c : CF) (r0 : A4) : (rk d508 P0 c 16 c508.snd.bd.bd).1 (L4 r0 0 6 7 8) [(0,k508)] k508 gK = L4 (S508_1b c r0) 0 6 7 8 := by funext s h; kernel_rfl
noncomputable def S508_0l (c : CF) : Nat → A4
  | 0 => fun _ _ _ _ _ => none
  | k + 1 => S508_1b c (S508_0l c k)
theorem TS508_0l (c : CF) : (rk d508 P0 c 16 c508.snd.bd).1 k508 [(0,k508)] k508 gK = L4 (S508_0l c rounds) 0 6 7 8 := loop_t (by kernel_rfl) (loop_ind (A := fun m => L4 (S508_0l c m) 0 6 7 8) rfl (fun m => TS508_1b c (S508_0l c m)) rounds)
noncomputable def S508_2 (c : CF) (t0 t6 t7 t8 : AV) (h : Heap) : Res := S508_0l c rounds t0 t6 t7 t8 h
theorem TS508_2 (c : CF) : (rk d508 P0 c 16 c508.snd).1 k508 [] k508 gK = L4 (S508_2 c) 0 6 7 8 := Eq.trans (block_t (id := 0) (by kernel_rfl) (TS508_0l c)) (by funext s h; kernel_rfl)
noncomputable def F508 (c : CF) (a0 a1 : AV) (h : Heap) : Res := opt (lenS a1) fun t7 => S508_2 c a0 a1 t7 (iL 0) h
theorem TF508 (c : CF) (a0 a1 : AV) (h : Heap) : (rk d508 P0 c 16 c508).1 k508 [] k508 gK (argsTr gl 0 [a0,a1]) h = F508 c a0 a1 h := Eq.trans (congrFun (congrFun (seq_t (by kernel_rfl) (TS508_2 c) rfl) _) _) (by kernel_rfl)
noncomputable def N508 : FnF := n2 F508
theorem N508_ok [Nu] : FnOk P0 gl 508 N508 := n2_ok namesOk mixedOrders lowOk Tryz.func508 (by kernel_rfl) (by kernel_rfl) (by kernel_rfl) TF508
noncomputable def c513 : Code := codeOf Tryz.f513
noncomputable def k513 : Kt := finK P0 Tryz.f513.results.toList
def d513 : List Nat := []
noncomputable def F513 (c : CF) (a0 a1 : AV) (h : Heap) : Res := opt (convI .u64 a1) fun t6 => opt (binX P0 .none .shl 237 t6 (.lit (.int .u64 1))) fun t7 => opt (binX P0 .none .shr 2 a1 (.lit (.int .u64 63))) fun t9 => opt (convI .u64 t9) fun t10 => opt (binX P0 .none .xor 237 t7 t10) fun t11 => opt2 (c 219 [a0,t11] h) fun t12 h1 => some ((.lit (.tuple #[])),h1)
theorem TF513 (c : CF) (a0 a1 : AV) (h : Heap) : (rk d513 P0 c 13 c513).1 k513 [] k513 gK (argsTr gl 0 [a0,a1]) h = F513 c a0 a1 h := by kernel_rfl
noncomputable def N513 : FnF := n2 F513
theorem N513_ok [Nu] : FnOk P0 gl 513 N513 := n2_ok namesOk mixedOrders lowOk Tryz.func513 (by kernel_rfl) (by kernel_rfl) (by kernel_rfl) TF513
noncomputable def c514 : Code := codeOf Tryz.f514
noncomputable def k514 : Kt := finK P0 Tryz.f514.results.toList
def d514 : List Nat := []
noncomputable def F514 (c : CF) (a0 a1 : AV) (h : Heap) : Res := opt (fastBin .eql a0 (iL 0)) fun t6 => test t6 (some (tL,h)) (test a1 (opt (fastBin .gtr a0 (iL 0)) fun t11 => test t11 (opt (fastBin .lss a0 (iL 256)) fun t15 => some (t15,h)) (some (fL,h))) (some (fL,h)))
theorem TF514 (c : CF) (a0 a1 : AV) (h : Heap) : (rk d514 P0 c 18 c514).1 k514 [] k514 gK (argsTr gl 0 [a0,a1]) h = F514 c a0 a1 h := by kernel_rfl
noncomputable def N514 : FnF := n2 F514
theorem N514_ok [Nu] : FnOk P0 gl 514 N514 := n2_ok namesOk mixedOrders lowOk Tryz.func514 (by kernel_rfl) (by kernel_rfl) (by kernel_rfl) TF514
noncomputable def c524 : Code := codeOf Tryz.f524
noncomputable def k524 : Kt := finK P0 Tryz.f524.results.toList
def d524 : List Nat := [3]
noncomputable def F524 (c : CF) (a0 a1 : AV) (h : Heap) : Res := opt2 (c 355 [a0,a1] h) fun t8 h1 => opt (notX t8) fun t9 => test t9 (some ((.tup [a0,fL]),h1)) (none)
theorem TF524 (c : CF) (a0 a1 : AV) (h : Heap) : (rk d524 P0 c 15 c524).1 k524 [] k524 gK (argsTr gl 0 [a0,a1]) h = F524 c a0 a1 h := by kernel_rfl
noncomputable def N524 : FnF := n2 F524
theorem N524_ok [Nu] : FnOk P0 gl 524 N524 := n2_ok namesOk mixedOrders lowOk Tryz.func524 (by kernel_rfl) (by kernel_rfl) (by kernel_rfl) TF524
end Go.Proofs.YtkkjoomlfmofbaaGreatDoor
