import Derived.Test.YtkkjoomlfmofbaaGreatDoorG111
set_option linter.unusedSectionVars false
namespace Go.Proofs.YtkkjoomlfmofbaaGreatDoor
open Go.Am
set_option maxRecDepth 100000
set_option linter.unusedSimpArgs false
set_option linter.unusedVariables false
noncomputable def c199 : Code := codeOf Tryz.f199
noncomputable def k199 : Kt := finK P0 Tryz.f199.results.toList
def d199 : List Nat := [2,4,11]
noncomputable def S199_0 (c : CF) (h : Heap) : Res := some ((.tup [(iL 0),(iL 0)]),h)
theorem TS199_0 (c : CF) : (rk d199 P0 c 73 c199.s4).1 k199 [] k199 gK = L0 (S199_0 c) := by funext s h; kernel_rfl
noncomputable def S199_2b (c : CF) (r1 : A3) (t57 t58 t59 : AV) (h : Heap) : Res := opt (fastBin .lss t59 t58) fun t60 => test t60 (opt (indexAddrS 1 t57 t59 h) fun t61 => opt (loadX none t61 h) fun t62 => opt2 (callV P0 c t62 [] h) fun t65 h1 => opt (extractX t65 0) fun t66 => opt (extractX t65 1) fun t67 => opt (fastBin .neq t66 (iL 0)) fun t69 => test t69 (none) (opt (fastBin .add t59 (iL 1)) fun t72 => r1 t57 t58 t72 h1)) (S199_0 c h)
theorem TS199_2b (c : CF) (r1 : A3) : (rk d199 P0 c 73 c199.s3.fst.snd.bd.bd).1 (L3 r1 57 58 59) [(1,(L0 (S199_0 c)))] k199 gK = L3 (S199_2b c r1) 57 58 59 := by funext s h; kernel_rfl
noncomputable def S199_1l (c : CF) : Nat → A3
  | 0 => fun _ _ _ _ => none
  | k + 1 => S199_2b c (S199_1l c k)
theorem TS199_1l (c : CF) : (rk d199 P0 c 73 c199.s3.fst.snd.bd).1 (L0 (S199_0 c)) [(1,(L0 (S199_0 c)))] k199 gK = L3 (S199_1l c rounds) 57 58 59 := loop_t (by kernel_rfl) (loop_ind (A := fun m => L3 (S199_1l c m) 57 58 59) rfl (fun m => TS199_2b c (S199_1l c m)) rounds)
noncomputable def S199_3 (c : CF) (t57 t58 t59 : AV) (h : Heap) : Res := S199_1l c rounds t57 t58 t59 h
theorem TS199_3 (c : CF) : (rk d199 P0 c 73 c199.s3.fst.snd).1 (L0 (S199_0 c)) [] k199 gK = L3 (S199_3 c) 57 58 59 := Eq.trans (block_t (id := 1) (by kernel_rfl) (TS199_1l c)) (by funext s h; kernel_rfl)
noncomputable def S199_4 (c : CF) (t1 t4 : AV) (h : Heap) : Res := opt2 (bsliceX 1 (.lit .nilFunc) 7 [(0,(.fn (.func 314) [] [t1,t4])),(1,(.fn (.func 317) [] [t1,t4])),(2,(.fn (.func 320) [] [t1,t4])),(3,(.fn (.func 323) [] [t1,t4])),(4,(.fn (.func 326) [] [t1,t4])),(5,(.fn (.func 328) [] [t1,t4])),(6,(.fn (.func 331) [] [t1,t4]))] h) fun t57 h1 => opt (lenS t57) fun t58 => S199_3 c t57 t58 (iL 0) h1
theorem TS199_4 (c : CF) : (rk d199 P0 c 73 c199.s3).1 k199 [] k199 gK = L2 (S199_4 c) 1 4 := Eq.trans (seq_t (by kernel_rfl) (TS199_0 c) (seq_t (by kernel_rfl) (TS199_3 c) rfl)) (by funext s h; kernel_rfl)
noncomputable def S199_5 (c : CF) (t1 : AV) (h : Heap) : Res := opt (loadX (some 8) t1 h) fun t47 => opt (buildX [eL,nL,nL,nL,nL,nL,nL,nL,nL] [(0,8),(8,1)] [(0,t47)]) fun t48 => opt2 (box t48 h) fun t49 h1 => opt2 (box pL h1) fun t4 h2 => optH (storeX 1 t4 t49 h2) fun h3 => S199_4 c t1 t4 h3
theorem TS199_5 (c : CF) : (rk d199 P0 c 73 c199.s2).1 k199 [] k199 gK = L1 (S199_5 c) 1 := Eq.trans (seq_t (by kernel_rfl) (TS199_4 c) rfl) (by funext s h; kernel_rfl)
noncomputable def S199_6 (c : CF) (t1 : AV) (h : Heap) : Res := opt (fieldAddrX 0 t1) fun t10 => opt (loadX none t10 h) fun t11 => opt2 (c 184 [t11] h) fun t12 h1 => opt (notX t12) fun t13 => test t13 (none) (opt (fieldAddrX 1 t1) fun t15 => opt (loadX none t15 h1) fun t16 => opt (lenS t16) fun t17 => opt (fieldAddrX 2 t1) fun t18 => opt (loadX none t18 h1) fun t19 => opt (lenS t19) fun t20 => opt (fieldAddrX 3 t1) fun t21 => opt (loadX none t21 h1) fun t22 => opt (lenS t22) fun t23 => opt (fieldAddrX 5 t1) fun t24 => opt (loadX none t24 h1) fun t25 => opt (lenS t25) fun t26 => opt (litBi P0 .max [3,3,3,3] 3 [false,false,false,false] [t17,t20,t23,t26]) fun t27 => opt (fastBin .gtr t27 (iL 32)) fun t28 => test t28 (none) (opt (fieldAddrX 4 t1) fun t30 => opt (loadX none t30 h1) fun t31 => opt (lenS t31) fun t32 => opt (fastBin .gtr t32 (iL 48)) fun t33 => test t33 (none) (opt (fieldAddrX 6 t1) fun t36 => opt (loadX none t36 h1) fun t37 => opt (lenS t37) fun t38 => opt (fastBin .gtr t38 (iL 96)) fun t39 => test t39 (none) (opt (fieldAddrX 7 t1) fun t42 => opt (loadX none t42 h1) fun t43 => opt (lenS t43) fun t44 => opt (fastBin .gtr t44 (iL 384)) fun t45 => test t45 (none) (S199_5 c t1 h1)))))
theorem TS199_6 (c : CF) : (rk d199 P0 c 73 c199.snd).1 k199 [] k199 gK = L1 (S199_6 c) 1 := Eq.trans (seq_t (by kernel_rfl) (TS199_5 c) rfl) (by funext s h; kernel_rfl)
noncomputable def F199 (c : CF) (a0 : AV) (h : Heap) : Res := opt2 (box a0 h) fun t1 h1 => S199_6 c t1 h1
theorem TF199 (c : CF) (a0 : AV) (h : Heap) : (rk d199 P0 c 73 c199).1 k199 [] k199 gK (argsTr gl 0 [a0]) h = F199 c a0 h := Eq.trans (congrFun (congrFun (seq_t (by kernel_rfl) (TS199_6 c) rfl) _) _) (by kernel_rfl)
noncomputable def N199 : FnF := n1 F199
theorem N199_ok [Nu] : FnOk P0 gl 199 N199 := n1_ok namesOk mixedOrders lowOk Tryz.func199 (by kernel_rfl) (by kernel_rfl) (by kernel_rfl) TF199
noncomputable def c200 : Code := codeOf Tryz.f200
noncomputable def k200 : Kt := finK P0 Tryz.f200.results.toList
def d200 : List Nat := []
noncomputable def F200 (c : CF) (h : Heap) : Res := opt (buildX [nL] [(0,1)] []) fun t1 => opt2 (box t1 h) fun t2 h1 => some (t2,h1)
theorem TF200 (c : CF) (h : Heap) : (rk d200 P0 c 3 c200).1 k200 [] k200 gK (argsTr gl 0 []) h = F200 c h := by kernel_rfl
noncomputable def N200 : FnF := n0 F200
theorem N200_ok [Nu] : FnOk P0 gl 200 N200 := n0_ok namesOk mixedOrders lowOk Tryz.func200 (by kernel_rfl) (by kernel_rfl) (by kernel_rfl) TF200
noncomputable def c201 : Code := codeOf Tryz.f201
noncomputable def k201 : Kt := finK P0 Tryz.f201.results.toList
def d201 : List Nat := []
noncomputable def F201 (c : CF) (a0 a1 : AV) (h : Heap) : Res := opt (lenStr a1) fun t6 => opt (convI .u64 t6) fun t7 => opt2 (c 219 [a0,t7] h) fun t8 h1 => opt (nilCheckX a0) fun t11 => opt (fieldAddrX 0 t11) fun t12 => opt (loadX none t12 h1) fun t13 => opt2 (appendX 1 1 t13 a1 h1) fun t15 h2 => opt (nilCheckX a0) fun t16 => opt (fieldAddrX 0 t16) fun t17 => optH (storeX 1 t17 t15 h2) fun h3 => some ((.lit (.tuple #[])),h3)
theorem TF201 (c : CF) (a0 a1 : AV) (h : Heap) : (rk d201 P0 c 18 c201).1 k201 [] k201 gK (argsTr gl 0 [a0,a1]) h = F201 c a0 a1 h := by kernel_rfl
noncomputable def N201 : FnF := n2 F201
theorem N201_ok [Nu] : FnOk P0 gl 201 N201 := n2_ok namesOk mixedOrders lowOk Tryz.func201 (by kernel_rfl) (by kernel_rfl) (by kernel_rfl) TF201
noncomputable def c202 : Code := codeOf Tryz.f202
noncomputable def k202 : Kt := finK P0 Tryz.f202.results.toList
def d202 : List Nat := []
noncomputable def S202_1b (c : CF) (r0 : A4) (t2 t12 t13 t14 : AV) (h : Heap) : Res := opt (fastBin .lss t14 t13) fun t15 => test t15 (opt (indexAddrS 4 t12 t14 h) fun t16 => opt (loadX (some 4) t16 h) fun t17 => opt2 (box (.agg [(iL 0),eL,eL,nL]) h) fun t7 h1 => optH (storeX 4 t7 t17 h1) fun h2 => opt (loadX (some 4) t7 h2) fun t19 => opt2 (callV P0 c t2 [t19] h2) fun t20 h3 => opt (fastBin .add t14 (iL 1)) fun t21 => r0 t2 t12 t13 t21 h3) (some ((.lit (.tuple #[])),h))
theorem TS202_1b (c : CF) (r0 : A4) : (rk d202 P0 c 22 c202.s3.bd.bd).1 (L4 r0 2 12 13 14) [(0,k202)] k202 gK = L4 (S202_1b c r0) 2 12 13 14 := by funext s h; kernel_rfl
noncomputable def S202_0l (c : CF) : Nat → A4
  | 0 => fun _ _ _ _ _ => none
  | k + 1 => S202_1b c (S202_0l c k)
theorem TS202_0l (c : CF) : (rk d202 P0 c 22 c202.s3.bd).1 k202 [(0,k202)] k202 gK = L4 (S202_0l c rounds) 2 12 13 14 := loop_t (by kernel_rfl) (loop_ind (A := fun m => L4 (S202_0l c m) 2 12 13 14) rfl (fun m => TS202_1b c (S202_0l c m)) rounds)
noncomputable def S202_2 (c : CF) (t2 t12 t13 t14 : AV) (h : Heap) : Res := S202_0l c rounds t2 t12 t13 t14 h
theorem TS202_2 (c : CF) : (rk d202 P0 c 22 c202.s3).1 k202 [] k202 gK = L4 (S202_2 c) 2 12 13 14 := Eq.trans (block_t (id := 0) (by kernel_rfl) (TS202_0l c)) (by funext s h; kernel_rfl)
noncomputable def S202_3 (c : CF) (t1 t2 : AV) (h : Heap) : Res := opt (lenS t1) fun t13 => S202_2 c t2 t1 t13 (iL 0) h
theorem TS202_3 (c : CF) : (rk d202 P0 c 22 c202.s2).1 k202 [] k202 gK = L2 (S202_3 c) 1 2 := Eq.trans (seq_t (by kernel_rfl) (TS202_2 c) rfl) (by funext s h; kernel_rfl)
noncomputable def S202_4 (c : CF) (t1 t2 t3 : AV) (h : Heap) : Res := opt (loadX (some 1) t3 h) fun t8 => opt (lenS t1) fun t10 => opt2 (c 334 [t8,t10] h) fun t11 h1 => S202_3 c t1 t2 h1
theorem TS202_4 (c : CF) : (rk d202 P0 c 22 c202.snd).1 k202 [] k202 gK = L3 (S202_4 c) 1 2 3 := Eq.trans (seq_t (by kernel_rfl) (TS202_3 c) rfl) (by funext s h; kernel_rfl)
noncomputable def F202 (c : CF) (a0 a1 a2 : AV) (h : Heap) : Res := opt2 (box a0 h) fun t3 h1 => S202_4 c a1 a2 t3 h1
theorem TF202 (c : CF) (a0 a1 a2 : AV) (h : Heap) : (rk d202 P0 c 22 c202).1 k202 [] k202 gK (argsTr gl 0 [a0,a1,a2]) h = F202 c a0 a1 a2 h := Eq.trans (congrFun (congrFun (seq_t (by kernel_rfl) (TS202_4 c) rfl) _) _) (by kernel_rfl)
noncomputable def N202 : FnF := n3 F202
theorem N202_ok [Nu] : FnOk P0 gl 202 N202 := n3_ok namesOk mixedOrders lowOk Tryz.func202 (by kernel_rfl) (by kernel_rfl) (by kernel_rfl) TF202
noncomputable def c204 : Code := codeOf Tryz.f204
noncomputable def k204 : Kt := finK P0 Tryz.f204.results.toList
def d204 : List Nat := []
noncomputable def S204_1b (c : CF) (r0 : A4) (t2 t12 t13 t14 : AV) (h : Heap) : Res := opt (fastBin .lss t14 t13) fun t15 => test t15 (opt (indexAddrS 1 t12 t14 h) fun t16 => opt (loadX none t16 h) fun t17 => opt2 (callV P0 c t2 [t17] h) fun t20 h1 => opt (fastBin .add t14 (iL 1)) fun t21 => r0 t2 t12 t13 t21 h1) (some ((.lit (.tuple #[])),h))
theorem TS204_1b (c : CF) (r0 : A4) : (rk d204 P0 c 22 c204.s3.bd.bd).1 (L4 r0 2 12 13 14) [(0,k204)] k204 gK = L4 (S204_1b c r0) 2 12 13 14 := by funext s h; kernel_rfl
noncomputable def S204_0l (c : CF) : Nat → A4
  | 0 => fun _ _ _ _ _ => none
  | k + 1 => S204_1b c (S204_0l c k)
theorem TS204_0l (c : CF) : (rk d204 P0 c 22 c204.s3.bd).1 k204 [(0,k204)] k204 gK = L4 (S204_0l c rounds) 2 12 13 14 := loop_t (by kernel_rfl) (loop_ind (A := fun m => L4 (S204_0l c m) 2 12 13 14) rfl (fun m => TS204_1b c (S204_0l c m)) rounds)
noncomputable def S204_2 (c : CF) (t2 t12 t13 t14 : AV) (h : Heap) : Res := S204_0l c rounds t2 t12 t13 t14 h
theorem TS204_2 (c : CF) : (rk d204 P0 c 22 c204.s3).1 k204 [] k204 gK = L4 (S204_2 c) 2 12 13 14 := Eq.trans (block_t (id := 0) (by kernel_rfl) (TS204_0l c)) (by funext s h; kernel_rfl)
noncomputable def S204_3 (c : CF) (t1 t2 : AV) (h : Heap) : Res := opt (lenS t1) fun t13 => S204_2 c t2 t1 t13 (iL 0) h
theorem TS204_3 (c : CF) : (rk d204 P0 c 22 c204.s2).1 k204 [] k204 gK = L2 (S204_3 c) 1 2 := Eq.trans (seq_t (by kernel_rfl) (TS204_2 c) rfl) (by funext s h; kernel_rfl)
noncomputable def S204_4 (c : CF) (t1 t2 t3 : AV) (h : Heap) : Res := opt (loadX (some 1) t3 h) fun t8 => opt (lenS t1) fun t10 => opt2 (c 334 [t8,t10] h) fun t11 h1 => S204_3 c t1 t2 h1
theorem TS204_4 (c : CF) : (rk d204 P0 c 22 c204.snd).1 k204 [] k204 gK = L3 (S204_4 c) 1 2 3 := Eq.trans (seq_t (by kernel_rfl) (TS204_3 c) rfl) (by funext s h; kernel_rfl)
noncomputable def F204 (c : CF) (a0 a1 a2 : AV) (h : Heap) : Res := opt2 (box a0 h) fun t3 h1 => S204_4 c a1 a2 t3 h1
theorem TF204 (c : CF) (a0 a1 a2 : AV) (h : Heap) : (rk d204 P0 c 22 c204).1 k204 [] k204 gK (argsTr gl 0 [a0,a1,a2]) h = F204 c a0 a1 a2 h := Eq.trans (congrFun (congrFun (seq_t (by kernel_rfl) (TS204_4 c) rfl) _) _) (by kernel_rfl)
noncomputable def N204 : FnF := n3 F204
theorem N204_ok [Nu] : FnOk P0 gl 204 N204 := n3_ok namesOk mixedOrders lowOk Tryz.func204 (by kernel_rfl) (by kernel_rfl) (by kernel_rfl) TF204
noncomputable def c205 : Code := codeOf Tryz.f205
noncomputable def k205 : Kt := finK P0 Tryz.f205.results.toList
def d205 : List Nat := []
noncomputable def S205_1b (c : CF) (r0 : A4) (t2 t12 t13 t14 : AV) (h : Heap) : Res := opt (fastBin .lss t14 t13) fun t15 => test t15 (opt (indexAddrS 3 t12 t14 h) fun t16 => opt (loadX (some 3) t16 h) fun t17 => opt2 (box (.agg [eL,eL,(iL 0)]) h) fun t7 h1 => optH (storeX 3 t7 t17 h1) fun h2 => opt (loadX (some 3) t7 h2) fun t19 => opt2 (callV P0 c t2 [t19] h2) fun t20 h3 => opt (fastBin .add t14 (iL 1)) fun t21 => r0 t2 t12 t13 t21 h3) (some ((.lit (.tuple #[])),h))
theorem TS205_1b (c : CF) (r0 : A4) : (rk d205 P0 c 22 c205.s3.bd.bd).1 (L4 r0 2 12 13 14) [(0,k205)] k205 gK = L4 (S205_1b c r0) 2 12 13 14 := by funext s h; kernel_rfl
noncomputable def S205_0l (c : CF) : Nat → A4
  | 0 => fun _ _ _ _ _ => none
  | k + 1 => S205_1b c (S205_0l c k)
theorem TS205_0l (c : CF) : (rk d205 P0 c 22 c205.s3.bd).1 k205 [(0,k205)] k205 gK = L4 (S205_0l c rounds) 2 12 13 14 := loop_t (by kernel_rfl) (loop_ind (A := fun m => L4 (S205_0l c m) 2 12 13 14) rfl (fun m => TS205_1b c (S205_0l c m)) rounds)
noncomputable def S205_2 (c : CF) (t2 t12 t13 t14 : AV) (h : Heap) : Res := S205_0l c rounds t2 t12 t13 t14 h
theorem TS205_2 (c : CF) : (rk d205 P0 c 22 c205.s3).1 k205 [] k205 gK = L4 (S205_2 c) 2 12 13 14 := Eq.trans (block_t (id := 0) (by kernel_rfl) (TS205_0l c)) (by funext s h; kernel_rfl)
noncomputable def S205_3 (c : CF) (t1 t2 : AV) (h : Heap) : Res := opt (lenS t1) fun t13 => S205_2 c t2 t1 t13 (iL 0) h
theorem TS205_3 (c : CF) : (rk d205 P0 c 22 c205.s2).1 k205 [] k205 gK = L2 (S205_3 c) 1 2 := Eq.trans (seq_t (by kernel_rfl) (TS205_2 c) rfl) (by funext s h; kernel_rfl)
noncomputable def S205_4 (c : CF) (t1 t2 t3 : AV) (h : Heap) : Res := opt (loadX (some 1) t3 h) fun t8 => opt (lenS t1) fun t10 => opt2 (c 334 [t8,t10] h) fun t11 h1 => S205_3 c t1 t2 h1
theorem TS205_4 (c : CF) : (rk d205 P0 c 22 c205.snd).1 k205 [] k205 gK = L3 (S205_4 c) 1 2 3 := Eq.trans (seq_t (by kernel_rfl) (TS205_3 c) rfl) (by funext s h; kernel_rfl)
noncomputable def F205 (c : CF) (a0 a1 a2 : AV) (h : Heap) : Res := opt2 (box a0 h) fun t3 h1 => S205_4 c a1 a2 t3 h1
theorem TF205 (c : CF) (a0 a1 a2 : AV) (h : Heap) : (rk d205 P0 c 22 c205).1 k205 [] k205 gK (argsTr gl 0 [a0,a1,a2]) h = F205 c a0 a1 a2 h := Eq.trans (congrFun (congrFun (seq_t (by kernel_rfl) (TS205_4 c) rfl) _) _) (by kernel_rfl)
noncomputable def N205 : FnF := n3 F205
theorem N205_ok [Nu] : FnOk P0 gl 205 N205 := n3_ok namesOk mixedOrders lowOk Tryz.func205 (by kernel_rfl) (by kernel_rfl) (by kernel_rfl) TF205
noncomputable def c207 : Code := codeOf Tryz.f207
noncomputable def k207 : Kt := finK P0 Tryz.f207.results.toList
def d207 : List Nat := []
noncomputable def S207_1b (c : CF) (r0 : A4) (t2 t12 t13 t14 : AV) (h : Heap) : Res := opt (fastBin .lss t14 t13) fun t15 => test t15 (opt (indexAddrS 6 t12 t14 h) fun t16 => opt (loadX (some 6) t16 h) fun t17 => opt2 (box (.agg [eL,nL,(iL 0),eL,(iL 0),nL]) h) fun t7 h1 => optH (storeX 6 t7 t17 h1) fun h2 => opt (loadX (some 6) t7 h2) fun t19 => opt2 (callV P0 c t2 [t19] h2) fun t20 h3 => opt (fastBin .add t14 (iL 1)) fun t21 => r0 t2 t12 t13 t21 h3) (some ((.lit (.tuple #[])),h))
theorem TS207_1b (c : CF) (r0 : A4) : (rk d207 P0 c 22 c207.s3.bd.bd).1 (L4 r0 2 12 13 14) [(0,k207)] k207 gK = L4 (S207_1b c r0) 2 12 13 14 := by funext s h; kernel_rfl
noncomputable def S207_0l (c : CF) : Nat → A4
  | 0 => fun _ _ _ _ _ => none
  | k + 1 => S207_1b c (S207_0l c k)
theorem TS207_0l (c : CF) : (rk d207 P0 c 22 c207.s3.bd).1 k207 [(0,k207)] k207 gK = L4 (S207_0l c rounds) 2 12 13 14 := loop_t (by kernel_rfl) (loop_ind (A := fun m => L4 (S207_0l c m) 2 12 13 14) rfl (fun m => TS207_1b c (S207_0l c m)) rounds)
noncomputable def S207_2 (c : CF) (t2 t12 t13 t14 : AV) (h : Heap) : Res := S207_0l c rounds t2 t12 t13 t14 h
theorem TS207_2 (c : CF) : (rk d207 P0 c 22 c207.s3).1 k207 [] k207 gK = L4 (S207_2 c) 2 12 13 14 := Eq.trans (block_t (id := 0) (by kernel_rfl) (TS207_0l c)) (by funext s h; kernel_rfl)
noncomputable def S207_3 (c : CF) (t1 t2 : AV) (h : Heap) : Res := opt (lenS t1) fun t13 => S207_2 c t2 t1 t13 (iL 0) h
theorem TS207_3 (c : CF) : (rk d207 P0 c 22 c207.s2).1 k207 [] k207 gK = L2 (S207_3 c) 1 2 := Eq.trans (seq_t (by kernel_rfl) (TS207_2 c) rfl) (by funext s h; kernel_rfl)
noncomputable def S207_4 (c : CF) (t1 t2 t3 : AV) (h : Heap) : Res := opt (loadX (some 1) t3 h) fun t8 => opt (lenS t1) fun t10 => opt2 (c 334 [t8,t10] h) fun t11 h1 => S207_3 c t1 t2 h1
theorem TS207_4 (c : CF) : (rk d207 P0 c 22 c207.snd).1 k207 [] k207 gK = L3 (S207_4 c) 1 2 3 := Eq.trans (seq_t (by kernel_rfl) (TS207_3 c) rfl) (by funext s h; kernel_rfl)
noncomputable def F207 (c : CF) (a0 a1 a2 : AV) (h : Heap) : Res := opt2 (box a0 h) fun t3 h1 => S207_4 c a1 a2 t3 h1
theorem TF207 (c : CF) (a0 a1 a2 : AV) (h : Heap) : (rk d207 P0 c 22 c207).1 k207 [] k207 gK (argsTr gl 0 [a0,a1,a2]) h = F207 c a0 a1 a2 h := Eq.trans (congrFun (congrFun (seq_t (by kernel_rfl) (TS207_4 c) rfl) _) _) (by kernel_rfl)
noncomputable def N207 : FnF := n3 F207
theorem N207_ok [Nu] : FnOk P0 gl 207 N207 := n3_ok namesOk mixedOrders lowOk Tryz.func207 (by kernel_rfl) (by kernel_rfl) (by kernel_rfl) TF207
noncomputable def c208 : Code := codeOf Tryz.f208
noncomputable def k208 : Kt := finK P0 Tryz.f208.results.toList
def d208 : List Nat := []
noncomputable def F208 (c : CF) (a0 a1 : AV) (h : Heap) : Res := opt2 (box a0 h) fun t2 h1 => opt2 (box a1 h1) fun t3 h2 => opt (fieldAddrX 0 t2) fun t4 => opt (loadX none t4 h2) fun t5 => opt (fieldAddrX 0 t3) fun t6 => opt (loadX none t6 h2) fun t7 => opt2 (c 201 [t5,t7] h2) fun t8 h3 => opt (loadX (some 1) t2 h3) fun t9 => opt (fieldAddrX 1 t3) fun t10 => opt (loadX none t10 h3) fun t11 => opt (fieldAddrX 0 t2) fun t12 => opt (loadX none t12 h3) fun t13 => opt2 (c 204 [t9,t11,(.fn (.func 201) [t13] [])] h3) fun t15 h4 => opt (loadX (some 1) t2 h4) fun t16 => opt (fieldAddrX 2 t3) fun t17 => opt (loadX none t17 h4) fun t18 => opt2 (c 334 [t16,t18] h4) fun t19 h5 => opt (fieldAddrX 0 t2) fun t20 => opt (loadX none t20 h5) fun t21 => opt (fieldAddrX 3 t3) fun t22 => opt (loadX none t22 h5) fun t23 => opt2 (c 201 [t21,t23] h5) fun t24 h6 => opt (loadX (some 1) t2 h6) fun t25 => opt (fieldAddrX 4 t3) fun t26 => opt (loadX none t26 h6) fun t27 => opt2 (c 334 [t25,t27] h6) fun t28 h7 => opt (loadX (some 1) t2 h7) fun t29 => opt (fieldAddrX 5 t3) fun t30 => opt (loadX none t30 h7) fun t31 => opt (lenS t31) fun t32 => opt2 (c 334 [t29,t32] h7) fun t33 h8 => opt (fieldAddrX 0 t2) fun t34 => opt (loadX none t34 h8) fun t35 => opt (fieldAddrX 5 t3) fun t36 => opt (loadX none t36 h8) fun t37 => opt2 (c 335 [t35,t37] h8) fun t38 h9 => some ((.lit (.tuple #[])),h9)
theorem TF208 (c : CF) (a0 a1 : AV) (h : Heap) : (rk d208 P0 c 39 c208).1 k208 [] k208 gK (argsTr gl 0 [a0,a1]) h = F208 c a0 a1 h := by kernel_rfl
noncomputable def N208 : FnF := n2 F208
theorem N208_ok [Nu] : FnOk P0 gl 208 N208 := n2_ok namesOk mixedOrders lowOk Tryz.func208 (by kernel_rfl) (by kernel_rfl) (by kernel_rfl) TF208
noncomputable def c209 : Code := codeOf Tryz.f209
noncomputable def k209 : Kt := finK P0 Tryz.f209.results.toList
def d209 : List Nat := []
noncomputable def S209_1b (c : CF) (r0 : A4) (t2 t12 t13 t14 : AV) (h : Heap) : Res := opt (fastBin .lss t14 t13) fun t15 => test t15 (opt (indexAddrS 5 t12 t14 h) fun t16 => opt (loadX (some 5) t16 h) fun t17 => opt2 (box (.agg [eL,(iL 0),eL,eL,nL]) h) fun t7 h1 => optH (storeX 5 t7 t17 h1) fun h2 => opt (loadX (some 5) t7 h2) fun t19 => opt2 (callV P0 c t2 [t19] h2) fun t20 h3 => opt (fastBin .add t14 (iL 1)) fun t21 => r0 t2 t12 t13 t21 h3) (some ((.lit (.tuple #[])),h))
theorem TS209_1b (c : CF) (r0 : A4) : (rk d209 P0 c 22 c209.s3.bd.bd).1 (L4 r0 2 12 13 14) [(0,k209)] k209 gK = L4 (S209_1b c r0) 2 12 13 14 := by funext s h; kernel_rfl
noncomputable def S209_0l (c : CF) : Nat → A4
  | 0 => fun _ _ _ _ _ => none
  | k + 1 => S209_1b c (S209_0l c k)
theorem TS209_0l (c : CF) : (rk d209 P0 c 22 c209.s3.bd).1 k209 [(0,k209)] k209 gK = L4 (S209_0l c rounds) 2 12 13 14 := loop_t (by kernel_rfl) (loop_ind (A := fun m => L4 (S209_0l c m) 2 12 13 14) rfl (fun m => TS209_1b c (S209_0l c m)) rounds)
noncomputable def S209_2 (c : CF) (t2 t12 t13 t14 : AV) (h : Heap) : Res := S209_0l c rounds t2 t12 t13 t14 h
theorem TS209_2 (c : CF) : (rk d209 P0 c 22 c209.s3).1 k209 [] k209 gK = L4 (S209_2 c) 2 12 13 14 := Eq.trans (block_t (id := 0) (by kernel_rfl) (TS209_0l c)) (by funext s h; kernel_rfl)
noncomputable def S209_3 (c : CF) (t1 t2 : AV) (h : Heap) : Res := opt (lenS t1) fun t13 => S209_2 c t2 t1 t13 (iL 0) h
theorem TS209_3 (c : CF) : (rk d209 P0 c 22 c209.s2).1 k209 [] k209 gK = L2 (S209_3 c) 1 2 := Eq.trans (seq_t (by kernel_rfl) (TS209_2 c) rfl) (by funext s h; kernel_rfl)
noncomputable def S209_4 (c : CF) (t1 t2 t3 : AV) (h : Heap) : Res := opt (loadX (some 1) t3 h) fun t8 => opt (lenS t1) fun t10 => opt2 (c 334 [t8,t10] h) fun t11 h1 => S209_3 c t1 t2 h1
theorem TS209_4 (c : CF) : (rk d209 P0 c 22 c209.snd).1 k209 [] k209 gK = L3 (S209_4 c) 1 2 3 := Eq.trans (seq_t (by kernel_rfl) (TS209_3 c) rfl) (by funext s h; kernel_rfl)
noncomputable def F209 (c : CF) (a0 a1 a2 : AV) (h : Heap) : Res := opt2 (box a0 h) fun t3 h1 => S209_4 c a1 a2 t3 h1
theorem TF209 (c : CF) (a0 a1 a2 : AV) (h : Heap) : (rk d209 P0 c 22 c209).1 k209 [] k209 gK (argsTr gl 0 [a0,a1,a2]) h = F209 c a0 a1 a2 h := Eq.trans (congrFun (congrFun (seq_t (by kernel_rfl) (TS209_4 c) rfl) _) _) (by kernel_rfl)
noncomputable def N209 : FnF := n3 F209
theorem N209_ok [Nu] : FnOk P0 gl 209 N209 := n3_ok namesOk mixedOrders lowOk Tryz.func209 (by kernel_rfl) (by kernel_rfl) (by kernel_rfl) TF209
noncomputable def c211 : Code := codeOf Tryz.f211
noncomputable def k211 : Kt := finK P0 Tryz.f211.results.toList
def d211 : List Nat := []
noncomputable def S211_1b (c : CF) (r0 : A4) (t2 t12 t13 t14 : AV) (h : Heap) : Res := opt (fastBin .lss t14 t13) fun t15 => test t15 (opt (indexAddrS 3 t12 t14 h) fun t16 => opt (loadX (some 3) t16 h) fun t17 => opt2 (box (.agg [(iL 0),(iL 0),(iL 0)]) h) fun t7 h1 => optH (storeX 3 t7 t17 h1) fun h2 => opt (loadX (some 3) t7 h2) fun t19 => opt2 (callV P0 c t2 [t19] h2) fun t20 h3 => opt (fastBin .add t14 (iL 1)) fun t21 => r0 t2 t12 t13 t21 h3) (some ((.lit (.tuple #[])),h))
theorem TS211_1b (c : CF) (r0 : A4) : (rk d211 P0 c 22 c211.s3.bd.bd).1 (L4 r0 2 12 13 14) [(0,k211)] k211 gK = L4 (S211_1b c r0) 2 12 13 14 := by funext s h; kernel_rfl
noncomputable def S211_0l (c : CF) : Nat → A4
  | 0 => fun _ _ _ _ _ => none
  | k + 1 => S211_1b c (S211_0l c k)
theorem TS211_0l (c : CF) : (rk d211 P0 c 22 c211.s3.bd).1 k211 [(0,k211)] k211 gK = L4 (S211_0l c rounds) 2 12 13 14 := loop_t (by kernel_rfl) (loop_ind (A := fun m => L4 (S211_0l c m) 2 12 13 14) rfl (fun m => TS211_1b c (S211_0l c m)) rounds)
noncomputable def S211_2 (c : CF) (t2 t12 t13 t14 : AV) (h : Heap) : Res := S211_0l c rounds t2 t12 t13 t14 h
theorem TS211_2 (c : CF) : (rk d211 P0 c 22 c211.s3).1 k211 [] k211 gK = L4 (S211_2 c) 2 12 13 14 := Eq.trans (block_t (id := 0) (by kernel_rfl) (TS211_0l c)) (by funext s h; kernel_rfl)
noncomputable def S211_3 (c : CF) (t1 t2 : AV) (h : Heap) : Res := opt (lenS t1) fun t13 => S211_2 c t2 t1 t13 (iL 0) h
theorem TS211_3 (c : CF) : (rk d211 P0 c 22 c211.s2).1 k211 [] k211 gK = L2 (S211_3 c) 1 2 := Eq.trans (seq_t (by kernel_rfl) (TS211_2 c) rfl) (by funext s h; kernel_rfl)
noncomputable def S211_4 (c : CF) (t1 t2 t3 : AV) (h : Heap) : Res := opt (loadX (some 1) t3 h) fun t8 => opt (lenS t1) fun t10 => opt2 (c 334 [t8,t10] h) fun t11 h1 => S211_3 c t1 t2 h1
theorem TS211_4 (c : CF) : (rk d211 P0 c 22 c211.snd).1 k211 [] k211 gK = L3 (S211_4 c) 1 2 3 := Eq.trans (seq_t (by kernel_rfl) (TS211_3 c) rfl) (by funext s h; kernel_rfl)
noncomputable def F211 (c : CF) (a0 a1 a2 : AV) (h : Heap) : Res := opt2 (box a0 h) fun t3 h1 => S211_4 c a1 a2 t3 h1
theorem TF211 (c : CF) (a0 a1 a2 : AV) (h : Heap) : (rk d211 P0 c 22 c211).1 k211 [] k211 gK (argsTr gl 0 [a0,a1,a2]) h = F211 c a0 a1 a2 h := Eq.trans (congrFun (congrFun (seq_t (by kernel_rfl) (TS211_4 c) rfl) _) _) (by kernel_rfl)
noncomputable def N211 : FnF := n3 F211
theorem N211_ok [Nu] : FnOk P0 gl 211 N211 := n3_ok namesOk mixedOrders lowOk Tryz.func211 (by kernel_rfl) (by kernel_rfl) (by kernel_rfl) TF211
noncomputable def c213 : Code := codeOf Tryz.f213
noncomputable def k213 : Kt := finK P0 Tryz.f213.results.toList
def d213 : List Nat := []
noncomputable def F213 (c : CF) (a0 : AV) (h : Heap) : Res := opt (nilCheckX a0) fun t4 => opt (fieldAddrX 0 t4) fun t5 => opt (loadX none t5 h) fun t6 => opt2 (c 71 [t6] h) fun t7 h1 => some (t7,h1)
theorem TF213 (c : CF) (a0 : AV) (h : Heap) : (rk d213 P0 c 8 c213).1 k213 [] k213 gK (argsTr gl 0 [a0]) h = F213 c a0 h := by kernel_rfl
noncomputable def N213 : FnF := n1 F213
theorem N213_ok [Nu] : FnOk P0 gl 213 N213 := n1_ok namesOk mixedOrders lowOk Tryz.func213 (by kernel_rfl) (by kernel_rfl) (by kernel_rfl) TF213
noncomputable def c214 : Code := codeOf Tryz.f214
noncomputable def k214 : Kt := finK P0 Tryz.f214.results.toList
def d214 : List Nat := [5,11,25]
noncomputable def S214_0 (c : CF) (h : Heap) : Res := none
theorem TS214_0 (c : CF) : (rk d214 P0 c 79 c214.s4).1 k214 [] k214 gK = L0 (S214_0 c) := by funext s h; kernel_rfl
noncomputable def S214_2 (c : CF) (r1 : A5) (t1 t4 t48 t49 t50 : AV) (h : Heap) : Res := opt (fastBin .add t50 (iL 1)) fun t77 => r1 t1 t4 t48 t49 t77 h
theorem TS214_2 (c : CF) (r1 : A5) : (rk d214 P0 c 79 c214.s3.fst.snd.bd.bd.s3).1 (L5 r1 1 4 48 49 50) [(4,(L0 (S214_0 c)))] k214 gK = L5 (S214_2 c r1) 1 4 48 49 50 := by funext s h; kernel_rfl
noncomputable def S214_3 (c : CF) (r1 : A5) (t1 t4 t11 t12 : AV) (h : Heap) : Res := opt (fieldAddrX 2 t11) fun t73 => opt (loadX none t73 h) fun t74 => opt2 (c 128 [t12,t74] h) fun t75 h1 => opt (buildX [(iL 0),eL,eL,nL] [(0,1),(1,1),(2,1),(3,1)] [(0,(iL 3)),(1,t1),(2,t75)]) fun t76 => optH (storeX 4 t4 t76 h1) fun h2 => opt (loadX (some 4) t4 h2) fun res => some ((.tup [res,tL]),h2)
theorem TS214_3 (c : CF) (r1 : A5) : (rk d214 P0 c 79 c214.s3.fst.snd.bd.bd.s2.fst.bd.s2.thn.s2).1 (L5 (S214_2 c r1) 1 4 48 49 50) [(5,(L5 (S214_2 c r1) 1 4 48 49 50)),(4,(L0 (S214_0 c)))] k214 gK = L4 (S214_3 c r1) 1 4 11 12 := by funext s h; kernel_rfl
noncomputable def S214_5b (c : CF) (r1 : A5) (r4 : A7) (t1 t4 t11 t12 t59 t60 t61 : AV) (h : Heap) : Res := opt (fastBin .lss t61 t60) fun t62 => test t62 (opt (indexAddrS 2 t59 t61 h) fun t63 => opt (loadX (some 2) t63 h) fun t64 => opt2 (box (.agg [eL,eL]) h) fun t14 h1 => optH (storeX 2 t14 t64 h1) fun h2 => opt (fieldAddrX 1 t14) fun t66 => opt (loadX none t66 h2) fun t67 => opt2 (bsliceX 1 eL 1 [(0,t67)] h2) fun t68 h3 => opt2 (appendX 1 16 t12 t68 h3) fun t69 h4 => opt (fastBin .add t61 (iL 1)) fun t70 => r4 t1 t4 t11 t69 t59 t60 t70 h4) (S214_3 c r1 t1 t4 t11 t12 h)
theorem TS214_5b (c : CF) (r1 : A5) (r4 : A7) : (rk d214 P0 c 79 c214.s3.fst.snd.bd.bd.s2.fst.bd.s2.thn.snd.fst.snd.bd.bd).1 (L7 r4 1 4 11 12 59 60 61) [(6,(L4 (S214_3 c r1) 1 4 11 12)),(5,(L5 (S214_2 c r1) 1 4 48 49 50)),(4,(L0 (S214_0 c)))] k214 gK = L7 (S214_5b c r1 r4) 1 4 11 12 59 60 61 := by funext s h; kernel_rfl
noncomputable def S214_4l (c : CF) (r1 : A5) : Nat → A7
  | 0 => fun _ _ _ _ _ _ _ _ => none
  | k + 1 => S214_5b c r1 (S214_4l c r1 k)
theorem TS214_4l (c : CF) (r1 : A5) : (rk d214 P0 c 79 c214.s3.fst.snd.bd.bd.s2.fst.bd.s2.thn.snd.fst.snd.bd).1 (L4 (S214_3 c r1) 1 4 11 12) [(6,(L4 (S214_3 c r1) 1 4 11 12)),(5,(L5 (S214_2 c r1) 1 4 48 49 50)),(4,(L0 (S214_0 c)))] k214 gK = L7 (S214_4l c r1 rounds) 1 4 11 12 59 60 61 := loop_t (by kernel_rfl) (loop_ind (A := fun m => L7 (S214_4l c r1 m) 1 4 11 12 59 60 61) rfl (fun m => TS214_5b c r1 (S214_4l c r1 m)) rounds)
noncomputable def S214_6 (c : CF) (r1 : A5) (t1 t4 t11 t12 t59 t60 t61 : AV) (h : Heap) : Res := S214_4l c r1 rounds t1 t4 t11 t12 t59 t60 t61 h
theorem TS214_6 (c : CF) (r1 : A5) : (rk d214 P0 c 79 c214.s3.fst.snd.bd.bd.s2.fst.bd.s2.thn.snd.fst.snd).1 (L4 (S214_3 c r1) 1 4 11 12) [(5,(L5 (S214_2 c r1) 1 4 48 49 50)),(4,(L0 (S214_0 c)))] k214 gK = L7 (S214_6 c r1) 1 4 11 12 59 60 61 := Eq.trans (block_t (id := 6) (by kernel_rfl) (TS214_4l c r1)) (by funext s h; kernel_rfl)
noncomputable def S214_7 (c : CF) (r1 : A5) (t1 t4 t11 t12 : AV) (h : Heap) : Res := opt (fieldAddrX 1 t11) fun t58 => opt (loadX none t58 h) fun t59 => opt (lenS t59) fun t60 => S214_6 c r1 t1 t4 t11 t12 t59 t60 (iL 0) h
theorem TS214_7 (c : CF) (r1 : A5) : (rk d214 P0 c 79 c214.s3.fst.snd.bd.bd.s2.fst.bd.s2.thn.snd).1 (L5 (S214_2 c r1) 1 4 48 49 50) [(5,(L5 (S214_2 c r1) 1 4 48 49 50)),(4,(L0 (S214_0 c)))] k214 gK = L4 (S214_7 c r1) 1 4 11 12 := Eq.trans (seq_t (by kernel_rfl) (TS214_3 c r1) (seq_t (by kernel_rfl) (TS214_6 c r1) rfl)) (by funext s h; kernel_rfl)
noncomputable def S214_8 (c : CF) (r1 : A5) (t1 t4 t11 : AV) (h : Heap) : Res := S214_7 c r1 t1 t4 t11 nL h
theorem TS214_8 (c : CF) (r1 : A5) : (rk d214 P0 c 79 c214.s3.fst.snd.bd.bd.s2.fst.bd.s2.thn).1 (L5 (S214_2 c r1) 1 4 48 49 50) [(5,(L5 (S214_2 c r1) 1 4 48 49 50)),(4,(L0 (S214_0 c)))] k214 gK = L3 (S214_8 c r1) 1 4 11 := Eq.trans (seq_t (by kernel_rfl) (TS214_7 c r1) rfl) (by funext s h; kernel_rfl)
noncomputable def S214_9 (c : CF) (r1 : A5) (t1 t4 t11 t48 t49 t50 t57 : AV) (h : Heap) : Res := test t57 (S214_8 c r1 t1 t4 t11 h) (S214_2 c r1 t1 t4 t48 t49 t50 h)
theorem TS214_9 (c : CF) (r1 : A5) : (rk d214 P0 c 79 c214.s3.fst.snd.bd.bd.s2.fst.bd.s2).1 (L5 (S214_2 c r1) 1 4 48 49 50) [(5,(L5 (S214_2 c r1) 1 4 48 49 50)),(4,(L0 (S214_0 c)))] k214 gK = L7 (S214_9 c r1) 1 4 11 48 49 50 57 := Eq.trans (cond_t (by kernel_rfl) (TS214_8 c r1) rfl) (by funext s h; kernel_rfl)
noncomputable def S214_10 (c : CF) (r1 : A5) (t1 t4 t11 t48 t49 t50 : AV) (h : Heap) : Res := opt (fieldAddrX 0 t11) fun t54 => opt (loadX none t54 h) fun t55 => opt (fastBin .eql t55 t1) fun t57 => S214_9 c r1 t1 t4 t11 t48 t49 t50 t57 h
theorem TS214_10 (c : CF) (r1 : A5) : (rk d214 P0 c 79 c214.s3.fst.snd.bd.bd.s2.fst.bd.snd).1 (L5 (S214_2 c r1) 1 4 48 49 50) [(5,(L5 (S214_2 c r1) 1 4 48 49 50)),(4,(L0 (S214_0 c)))] k214 gK = L6 (S214_10 c r1) 1 4 11 48 49 50 := Eq.trans (seq_t (by kernel_rfl) (TS214_9 c r1) rfl) (by funext s h; kernel_rfl)
noncomputable def S214_11 (c : CF) (r1 : A5) (t1 t4 t48 t49 t50 : AV) (h : Heap) : Res := opt (indexAddrS 12 t48 t50 h) fun t52 => opt (loadX (some 12) t52 h) fun t53 => opt2 (box (.agg [eL,nL,eL,(iL 0),(iL 0),eL,cL,eL,eL,nL,nL,nL]) h) fun t11 h1 => optH (storeX 12 t11 t53 h1) fun h2 => S214_10 c r1 t1 t4 t11 t48 t49 t50 h2
theorem TS214_11 (c : CF) (r1 : A5) : (rk d214 P0 c 79 c214.s3.fst.snd.bd.bd.s2).1 (L5 r1 1 4 48 49 50) [(4,(L0 (S214_0 c)))] k214 gK = L5 (S214_11 c r1) 1 4 48 49 50 := Eq.trans (seq_t (by kernel_rfl) (TS214_2 c r1) (block_t (id := 5) (by kernel_rfl) (seq_t (by kernel_rfl) (TS214_10 c r1) rfl))) (by funext s h; kernel_rfl)
noncomputable def S214_12 (c : CF) (r1 : A5) (t1 t4 t48 t49 t50 t51 : AV) (h : Heap) : Res := test t51 (S214_11 c r1 t1 t4 t48 t49 t50 h) (S214_0 c h)
theorem TS214_12 (c : CF) (r1 : A5) : (rk d214 P0 c 79 c214.s3.fst.snd.bd.bd.snd).1 (L5 r1 1 4 48 49 50) [(4,(L0 (S214_0 c)))] k214 gK = L6 (S214_12 c r1) 1 4 48 49 50 51 := Eq.trans (seq_t (by kernel_rfl) (TS214_11 c r1) rfl) (by funext s h; kernel_rfl)
noncomputable def S214_13b (c : CF) (r1 : A5) (t1 t4 t48 t49 t50 : AV) (h : Heap) : Res := opt (fastBin .lss t50 t49) fun t51 => S214_12 c r1 t1 t4 t48 t49 t50 t51 h
theorem TS214_13b (c : CF) (r1 : A5) : (rk d214 P0 c 79 c214.s3.fst.snd.bd.bd).1 (L5 r1 1 4 48 49 50) [(4,(L0 (S214_0 c)))] k214 gK = L5 (S214_13b c r1) 1 4 48 49 50 := Eq.trans (seq_t (by kernel_rfl) (TS214_12 c r1) rfl) (by funext s h; kernel_rfl)
noncomputable def S214_1l (c : CF) : Nat → A5
  | 0 => fun _ _ _ _ _ _ => none
  | k + 1 => S214_13b c (S214_1l c k)
theorem TS214_1l (c : CF) : (rk d214 P0 c 79 c214.s3.fst.snd.bd).1 (L0 (S214_0 c)) [(4,(L0 (S214_0 c)))] k214 gK = L5 (S214_1l c rounds) 1 4 48 49 50 := loop_t (by kernel_rfl) (loop_ind (A := fun m => L5 (S214_1l c m) 1 4 48 49 50) rfl (fun m => TS214_13b c (S214_1l c m)) rounds)
noncomputable def S214_14 (c : CF) (t1 t4 t48 t49 t50 : AV) (h : Heap) : Res := S214_1l c rounds t1 t4 t48 t49 t50 h
theorem TS214_14 (c : CF) : (rk d214 P0 c 79 c214.s3.fst.snd).1 (L0 (S214_0 c)) [] k214 gK = L5 (S214_14 c) 1 4 48 49 50 := Eq.trans (block_t (id := 4) (by kernel_rfl) (TS214_1l c)) (by funext s h; kernel_rfl)
noncomputable def S214_15 (c : CF) (t1 t2 t4 : AV) (h : Heap) : Res := opt (fieldAddrX 5 t2) fun t47 => opt (loadX none t47 h) fun t48 => opt (lenS t48) fun t49 => S214_14 c t1 t4 t48 t49 (iL 0) h
theorem TS214_15 (c : CF) : (rk d214 P0 c 79 c214.s3).1 k214 [] k214 gK = L3 (S214_15 c) 1 2 4 := Eq.trans (seq_t (by kernel_rfl) (TS214_0 c) (seq_t (by kernel_rfl) (TS214_14 c) rfl)) (by funext s h; kernel_rfl)
noncomputable def S214_17b (c : CF) (r16 : A6) (t1 t2 t4 t32 t33 t34 : AV) (h : Heap) : Res := opt (fastBin .lss t34 t33) fun t35 => test t35 (opt (indexAddrS 11 t32 t34 h) fun t36 => opt (loadX (some 11) t36 h) fun t37 => opt2 (box (.agg [eL,eL,(iL 0),(iL 0),eL,cL,eL,eL,nL,nL,nL]) h) fun t9 h1 => optH (storeX 11 t9 t37 h1) fun h2 => opt (fieldAddrX 0 t9) fun t38 => opt (loadX none t38 h2) fun t39 => opt (fastBin .eql t39 t1) fun t41 => test t41 (none) (opt (fastBin .add t34 (iL 1)) fun t46 => r16 t1 t2 t4 t32 t33 t46 h2)) (S214_15 c t1 t2 t4 h)
theorem TS214_17b (c : CF) (r16 : A6) : (rk d214 P0 c 79 c214.s2.fst.snd.bd.bd).1 (L6 r16 1 2 4 32 33 34) [(2,(L3 (S214_15 c) 1 2 4))] k214 gK = L6 (S214_17b c r16) 1 2 4 32 33 34 := by funext s h; kernel_rfl
noncomputable def S214_16l (c : CF) : Nat → A6
  | 0 => fun _ _ _ _ _ _ _ => none
  | k + 1 => S214_17b c (S214_16l c k)
theorem TS214_16l (c : CF) : (rk d214 P0 c 79 c214.s2.fst.snd.bd).1 (L3 (S214_15 c) 1 2 4) [(2,(L3 (S214_15 c) 1 2 4))] k214 gK = L6 (S214_16l c rounds) 1 2 4 32 33 34 := loop_t (by kernel_rfl) (loop_ind (A := fun m => L6 (S214_16l c m) 1 2 4 32 33 34) rfl (fun m => TS214_17b c (S214_16l c m)) rounds)
noncomputable def S214_18 (c : CF) (t1 t2 t4 t32 t33 t34 : AV) (h : Heap) : Res := S214_16l c rounds t1 t2 t4 t32 t33 t34 h
theorem TS214_18 (c : CF) : (rk d214 P0 c 79 c214.s2.fst.snd).1 (L3 (S214_15 c) 1 2 4) [] k214 gK = L6 (S214_18 c) 1 2 4 32 33 34 := Eq.trans (block_t (id := 2) (by kernel_rfl) (TS214_16l c)) (by funext s h; kernel_rfl)
noncomputable def S214_19 (c : CF) (t1 t2 t4 : AV) (h : Heap) : Res := opt (fieldAddrX 4 t2) fun t31 => opt (loadX none t31 h) fun t32 => opt (lenS t32) fun t33 => S214_18 c t1 t2 t4 t32 t33 (iL 0) h
theorem TS214_19 (c : CF) : (rk d214 P0 c 79 c214.s2).1 k214 [] k214 gK = L3 (S214_19 c) 1 2 4 := Eq.trans (seq_t (by kernel_rfl) (TS214_15 c) (seq_t (by kernel_rfl) (TS214_18 c) rfl)) (by funext s h; kernel_rfl)
noncomputable def S214_21b (c : CF) (r20 : A6) (t1 t2 t4 t16 t17 t18 : AV) (h : Heap) : Res := opt (fastBin .lss t18 t17) fun t19 => test t19 (opt (indexAddrS 2 t16 t18 h) fun t20 => opt (loadX (some 2) t20 h) fun t21 => opt2 (box (.agg [eL,nL]) h) fun t7 h1 => optH (storeX 2 t7 t21 h1) fun h2 => opt (fieldAddrX 0 t7) fun t22 => opt (loadX none t22 h2) fun t23 => opt (fastBin .eql t23 t1) fun t25 => test t25 (none) (opt (fastBin .add t18 (iL 1)) fun t30 => r20 t1 t2 t4 t16 t17 t30 h2)) (S214_19 c t1 t2 t4 h)
theorem TS214_21b (c : CF) (r20 : A6) : (rk d214 P0 c 79 c214.snd.fst.snd.bd.bd).1 (L6 r20 1 2 4 16 17 18) [(0,(L3 (S214_19 c) 1 2 4))] k214 gK = L6 (S214_21b c r20) 1 2 4 16 17 18 := by funext s h; kernel_rfl
noncomputable def S214_20l (c : CF) : Nat → A6
  | 0 => fun _ _ _ _ _ _ _ => none
  | k + 1 => S214_21b c (S214_20l c k)
theorem TS214_20l (c : CF) : (rk d214 P0 c 79 c214.snd.fst.snd.bd).1 (L3 (S214_19 c) 1 2 4) [(0,(L3 (S214_19 c) 1 2 4))] k214 gK = L6 (S214_20l c rounds) 1 2 4 16 17 18 := loop_t (by kernel_rfl) (loop_ind (A := fun m => L6 (S214_20l c m) 1 2 4 16 17 18) rfl (fun m => TS214_21b c (S214_20l c m)) rounds)
noncomputable def S214_22 (c : CF) (t1 t2 t4 t16 t17 t18 : AV) (h : Heap) : Res := S214_20l c rounds t1 t2 t4 t16 t17 t18 h
theorem TS214_22 (c : CF) : (rk d214 P0 c 79 c214.snd.fst.snd).1 (L3 (S214_19 c) 1 2 4) [] k214 gK = L6 (S214_22 c) 1 2 4 16 17 18 := Eq.trans (block_t (id := 0) (by kernel_rfl) (TS214_20l c)) (by funext s h; kernel_rfl)
noncomputable def S214_23 (c : CF) (t1 t2 t4 : AV) (h : Heap) : Res := opt (fieldAddrX 3 t2) fun t15 => opt (loadX none t15 h) fun t16 => opt (lenS t16) fun t17 => S214_22 c t1 t2 t4 t16 t17 (iL 0) h
theorem TS214_23 (c : CF) : (rk d214 P0 c 79 c214.snd).1 k214 [] k214 gK = L3 (S214_23 c) 1 2 4 := Eq.trans (seq_t (by kernel_rfl) (TS214_19 c) (seq_t (by kernel_rfl) (TS214_22 c) rfl)) (by funext s h; kernel_rfl)
noncomputable def F214 (c : CF) (a0 a1 : AV) (h : Heap) : Res := opt2 (box a0 h) fun t2 h1 => opt2 (box (.agg [(iL 0),eL,eL,nL]) h1) fun t4 h2 => S214_23 c a1 t2 t4 h2
theorem TF214 (c : CF) (a0 a1 : AV) (h : Heap) : (rk d214 P0 c 79 c214).1 k214 [] k214 gK (argsTr gl 0 [a0,a1]) h = F214 c a0 a1 h := Eq.trans (congrFun (congrFun (seq_t (by kernel_rfl) (TS214_23 c) rfl) _) _) (by kernel_rfl)
noncomputable def N214 : FnF := n2 F214
theorem N214_ok [Nu] : FnOk P0 gl 214 N214 := n2_ok namesOk mixedOrders lowOk Tryz.func214 (by kernel_rfl) (by kernel_rfl) (by kernel_rfl) TF214
noncomputable def c216 : Code := codeOf Tryz.f216
noncomputable def k216 : Kt := finK P0 Tryz.f216.results.toList
def d216 : List Nat := []
noncomputable def F216 (c : CF) (a0 a1 : AV) (h : Heap) : Res := opt (lenS a0) fun t6 => opt (convI .u64 t6) fun t10 => opt2 (c 76 [t10] h) fun t11 h1 => opt2 (c 336 [a0,(iL 0),t6,t11,a1] h1) fun t13 h2 => some ((.lit (.tuple #[])),h2)
theorem TF216 (c : CF) (a0 a1 : AV) (h : Heap) : (rk d216 P0 c 14 c216).1 k216 [] k216 gK (argsTr gl 0 [a0,a1]) h = F216 c a0 a1 h := by kernel_rfl
noncomputable def N216 : FnF := n2 F216
theorem N216_ok [Nu] : FnOk P0 gl 216 N216 := n2_ok namesOk mixedOrders lowOk Tryz.func216 (by kernel_rfl) (by kernel_rfl) (by kernel_rfl) TF216
noncomputable def c218 : Code := codeOf Tryz.f218
noncomputable def k218 : Kt := finK P0 Tryz.f218.results.toList
def d218 : List Nat := [2,4,12,14,17]
noncomputable def S218_0 (c : CF) (h : Heap) : Res := some ((iL 0),h)
theorem TS218_0 (c : CF) : (rk d218 P0 c 68 c218.s3).1 k218 [] k218 gK = L0 (S218_0 c) := by funext s h; kernel_rfl
noncomputable def S218_2 (c : CF) (r1 : A4) (t1 t4 t18 t19 t20 : AV) (h : Heap) : Res := opt (loadX (some 4) t4 h) fun t62 => opt2 (c 337 [t62] h) fun t63 h1 => opt (fastBin .neq t63 (iL 0)) fun t65 => test t65 (none) (opt (fastBin .add t20 (iL 1)) fun t67 => r1 t1 t18 t19 t67 h1)
theorem TS218_2 (c : CF) (r1 : A4) : (rk d218 P0 c 68 c218.s2.fst.snd.bd.bd.s2.fst.bd.s4).1 ((rk d218 P0 c 68 c218.s2.fst.snd.bd.bd.s3).1 (L4 r1 1 18 19 20) [(1,(L0 (S218_0 c)))] k218 gK) [(2,((rk d218 P0 c 68 c218.s2.fst.snd.bd.bd.s3).1 (L4 r1 1 18 19 20) [(1,(L0 (S218_0 c)))] k218 gK)),(1,(L0 (S218_0 c)))] k218 gK = L5 (S218_2 c r1) 1 4 18 19 20 := by funext s h; kernel_rfl
noncomputable def S218_3 (c : CF) (r1 : A4) (t1 t3 t4 t5 t18 t19 t20 t34 : AV) (h : Heap) : Res := test t34 (none) (opt (notX t5) fun t45 => test t45 (none) (opt (fastBin .gtr t3 (iL 0)) fun t48 => test t48 (opt (fieldAddrX 1 t1) fun t50 => opt (loadX none t50 h) fun t51 => eqH h h (opt (fastBin .sub t3 (iL 1)) fun t53 => opt (indexAddrS 4 t51 t53 h) fun t54 => eqH h h (opt (fieldAddrX 1 t54) fun t55 => opt (loadX none t55 h) fun t56 => eqH h h (opt (fieldAddrX 1 t4) fun t57 => opt (loadX none t57 h) fun t58 => eqH h h (opt (binX P0 .none .geq 9 t56 t58) fun t59 => test t59 (none) (S218_2 c r1 t1 t4 t18 t19 t20 h)))))) (S218_2 c r1 t1 t4 t18 t19 t20 h)))
theorem TS218_3 (c : CF) (r1 : A4) : (rk d218 P0 c 68 c218.s2.fst.snd.bd.bd.s2.fst.bd.s3.fst.bd.snd).1 (L5 (S218_2 c r1) 1 4 18 19 20) [(3,(L5 (S218_2 c r1) 1 4 18 19 20)),(2,((rk d218 P0 c 68 c218.s2.fst.snd.bd.bd.s3).1 (L4 r1 1 18 19 20) [(1,(L0 (S218_0 c)))] k218 gK)),(1,(L0 (S218_0 c)))] k218 gK = L8 (S218_3 c r1) 1 3 4 5 18 19 20 34 := by funext s h; kernel_rfl
noncomputable def S218_4 (c : CF) (r1 : A4) (t1 t3 t4 t5 t18 t19 t20 : AV) (h : Heap) : Res := opt (fieldAddrX 0 t4) fun t35 => opt (loadX none t35 h) fun t36 => opt (fastBin .lss t36 (iL 1)) fun t37 => test t37 (S218_3 c r1 t1 t3 t4 t5 t18 t19 t20 tL h) (opt (fieldAddrX 0 t4) fun t39 => opt (loadX none t39 h) fun t40 => opt (fastBin .gtr t40 (iL 3)) fun t41 => S218_3 c r1 t1 t3 t4 t5 t18 t19 t20 t41 h)
theorem TS218_4 (c : CF) (r1 : A4) : (rk d218 P0 c 68 c218.s2.fst.snd.bd.bd.s2.fst.bd.s3).1 ((rk d218 P0 c 68 c218.s2.fst.snd.bd.bd.s3).1 (L4 r1 1 18 19 20) [(1,(L0 (S218_0 c)))] k218 gK) [(2,((rk d218 P0 c 68 c218.s2.fst.snd.bd.bd.s3).1 (L4 r1 1 18 19 20) [(1,(L0 (S218_0 c)))] k218 gK)),(1,(L0 (S218_0 c)))] k218 gK = L7 (S218_4 c r1) 1 3 4 5 18 19 20 := Eq.trans (seq_t (by kernel_rfl) (TS218_2 c r1) (block_t (id := 3) (by kernel_rfl) (seq_t (by kernel_rfl) (TS218_3 c r1) rfl))) (by funext s h; kernel_rfl)
noncomputable def S218_5 (c : CF) (r1 : A4) (t1 t3 t4 t5 t18 t19 t20 : AV) (h : Heap) : Res := opt (fieldAddrX 0 t4) fun t28 => opt (loadX none t28 h) fun t29 => opt (fastBin .eql t29 (iL 1)) fun t30 => test t30 (opt (fieldAddrX 1 t4) fun t31 => opt (loadX none t31 h) fun t32 => opt2 (c 276 [t32] h) fun t33 h1 => S218_4 c r1 t1 t3 t4 t33 t18 t19 t20 h1) (S218_4 c r1 t1 t3 t4 t5 t18 t19 t20 h)
theorem TS218_5 (c : CF) (r1 : A4) : (rk d218 P0 c 68 c218.s2.fst.snd.bd.bd.s2.fst.bd.s2).1 ((rk d218 P0 c 68 c218.s2.fst.snd.bd.bd.s3).1 (L4 r1 1 18 19 20) [(1,(L0 (S218_0 c)))] k218 gK) [(2,((rk d218 P0 c 68 c218.s2.fst.snd.bd.bd.s3).1 (L4 r1 1 18 19 20) [(1,(L0 (S218_0 c)))] k218 gK)),(1,(L0 (S218_0 c)))] k218 gK = L7 (S218_5 c r1) 1 3 4 5 18 19 20 := Eq.trans (seq_t (by kernel_rfl) (TS218_4 c r1) rfl) (by funext s h; kernel_rfl)
noncomputable def S218_6 (c : CF) (r1 : A4) (t1 t3 t4 t18 t19 t20 : AV) (h : Heap) : Res := opt (fieldAddrX 1 t4) fun t25 => opt (loadX none t25 h) fun t26 => opt2 (c 184 [t26] h) fun t27 h1 => S218_5 c r1 t1 t3 t4 t27 t18 t19 t20 h1
theorem TS218_6 (c : CF) (r1 : A4) : (rk d218 P0 c 68 c218.s2.fst.snd.bd.bd.s2.fst.bd.snd).1 ((rk d218 P0 c 68 c218.s2.fst.snd.bd.bd.s3).1 (L4 r1 1 18 19 20) [(1,(L0 (S218_0 c)))] k218 gK) [(2,((rk d218 P0 c 68 c218.s2.fst.snd.bd.bd.s3).1 (L4 r1 1 18 19 20) [(1,(L0 (S218_0 c)))] k218 gK)),(1,(L0 (S218_0 c)))] k218 gK = L6 (S218_6 c r1) 1 3 4 18 19 20 := Eq.trans (seq_t (by kernel_rfl) (TS218_5 c r1) rfl) (by funext s h; kernel_rfl)
noncomputable def S218_7 (c : CF) (r1 : A4) (t1 t18 t19 t20 : AV) (h : Heap) : Res := opt (indexAddrS 4 t18 t20 h) fun t23 => opt (loadX (some 4) t23 h) fun t24 => opt2 (box (.agg [(iL 0),eL,eL,nL]) h) fun t4 h1 => optH (storeX 4 t4 t24 h1) fun h2 => S218_6 c r1 t1 t20 t4 t18 t19 t20 h2
theorem TS218_7 (c : CF) (r1 : A4) : (rk d218 P0 c 68 c218.s2.fst.snd.bd.bd.s2).1 (L4 r1 1 18 19 20) [(1,(L0 (S218_0 c)))] k218 gK = L4 (S218_7 c r1) 1 18 19 20 := Eq.trans (seq_t (by kernel_rfl) rfl (block_t (id := 2) (by kernel_rfl) (seq_t (by kernel_rfl) (TS218_6 c r1) rfl))) (by funext s h; kernel_rfl)
noncomputable def S218_8 (c : CF) (r1 : A4) (t1 t18 t19 t20 t21 : AV) (h : Heap) : Res := test t21 (S218_7 c r1 t1 t18 t19 t20 h) (S218_0 c h)
theorem TS218_8 (c : CF) (r1 : A4) : (rk d218 P0 c 68 c218.s2.fst.snd.bd.bd.snd).1 (L4 r1 1 18 19 20) [(1,(L0 (S218_0 c)))] k218 gK = L5 (S218_8 c r1) 1 18 19 20 21 := Eq.trans (seq_t (by kernel_rfl) (TS218_7 c r1) rfl) (by funext s h; kernel_rfl)
noncomputable def S218_9b (c : CF) (r1 : A4) (t1 t18 t19 t20 : AV) (h : Heap) : Res := opt (fastBin .lss t20 t19) fun t21 => S218_8 c r1 t1 t18 t19 t20 t21 h
theorem TS218_9b (c : CF) (r1 : A4) : (rk d218 P0 c 68 c218.s2.fst.snd.bd.bd).1 (L4 r1 1 18 19 20) [(1,(L0 (S218_0 c)))] k218 gK = L4 (S218_9b c r1) 1 18 19 20 := Eq.trans (seq_t (by kernel_rfl) (TS218_8 c r1) rfl) (by funext s h; kernel_rfl)
noncomputable def S218_1l (c : CF) : Nat → A4
  | 0 => fun _ _ _ _ _ => none
  | k + 1 => S218_9b c (S218_1l c k)
theorem TS218_1l (c : CF) : (rk d218 P0 c 68 c218.s2.fst.snd.bd).1 (L0 (S218_0 c)) [(1,(L0 (S218_0 c)))] k218 gK = L4 (S218_1l c rounds) 1 18 19 20 := loop_t (by kernel_rfl) (loop_ind (A := fun m => L4 (S218_1l c m) 1 18 19 20) rfl (fun m => TS218_9b c (S218_1l c m)) rounds)
noncomputable def S218_10 (c : CF) (t1 t18 t19 t20 : AV) (h : Heap) : Res := S218_1l c rounds t1 t18 t19 t20 h
theorem TS218_10 (c : CF) : (rk d218 P0 c 68 c218.s2.fst.snd).1 (L0 (S218_0 c)) [] k218 gK = L4 (S218_10 c) 1 18 19 20 := Eq.trans (block_t (id := 1) (by kernel_rfl) (TS218_1l c)) (by funext s h; kernel_rfl)
noncomputable def S218_11 (c : CF) (t1 : AV) (h : Heap) : Res := opt (fieldAddrX 1 t1) fun t17 => opt (loadX none t17 h) fun t18 => opt (lenS t18) fun t19 => S218_10 c t1 t18 t19 (iL 0) h
theorem TS218_11 (c : CF) : (rk d218 P0 c 68 c218.s2).1 k218 [] k218 gK = L1 (S218_11 c) 1 := Eq.trans (seq_t (by kernel_rfl) (TS218_0 c) (seq_t (by kernel_rfl) (TS218_10 c) rfl)) (by funext s h; kernel_rfl)
noncomputable def S218_12 (c : CF) (t1 : AV) (h : Heap) : Res := opt (fieldAddrX 0 t1) fun t8 => opt (loadX none t8 h) fun t9 => opt2 (c 184 [t9] h) fun t10 h1 => opt (notX t10) fun t11 => test t11 (none) (opt (fieldAddrX 1 t1) fun t13 => opt (loadX none t13 h1) fun t14 => opt (lenS t14) fun t15 => opt (fastBin .gtr t15 (iL 32)) fun t16 => test t16 (none) (S218_11 c t1 h1))
theorem TS218_12 (c : CF) : (rk d218 P0 c 68 c218.snd).1 k218 [] k218 gK = L1 (S218_12 c) 1 := Eq.trans (seq_t (by kernel_rfl) (TS218_11 c) rfl) (by funext s h; kernel_rfl)
noncomputable def F218 (c : CF) (a0 : AV) (h : Heap) : Res := opt2 (box a0 h) fun t1 h1 => S218_12 c t1 h1
theorem TF218 (c : CF) (a0 : AV) (h : Heap) : (rk d218 P0 c 68 c218).1 k218 [] k218 gK (argsTr gl 0 [a0]) h = F218 c a0 h := Eq.trans (congrFun (congrFun (seq_t (by kernel_rfl) (TS218_12 c) rfl) _) _) (by kernel_rfl)
noncomputable def N218 : FnF := n1 F218
theorem N218_ok [Nu] : FnOk P0 gl 218 N218 := n1_ok namesOk mixedOrders lowOk Tryz.func218 (by kernel_rfl) (by kernel_rfl) (by kernel_rfl) TF218
noncomputable def c219 : Code := codeOf Tryz.f219
noncomputable def k219 : Kt := finK P0 Tryz.f219.results.toList
def d219 : List Nat := []
noncomputable def S219_1L0_ (c : CF) (r0 : Nat → A2) (t0 t1 : AV) (h : Heap) : Res := opt (fastBin .lss t1 (.lit (.int .u64 128))) fun t5 => test t5 (opt (nilCheckX t0) fun t8 => opt (fieldAddrX 0 t8) fun t9 => opt (loadX none t9 h) fun t10 => opt (convI .u8 t1) fun t12 => opt2 (bsliceX 1 (uL 0) 1 [(0,t12)] h) fun t13 h1 => opt2 (appendX 1 1 t10 t13 h1) fun t14 h2 => opt (nilCheckX t0) fun t15 => opt (fieldAddrX 0 t15) fun t16 => optH (storeX 1 t16 t14 h2) fun h3 => some ((.lit (.tuple #[])),h3)) (opt (nilCheckX t0) fun t19 => opt (fieldAddrX 0 t19) fun t20 => opt (loadX none t20 h) fun t21 => opt (convI .u8 t1) fun t23 => opt (binX P0 .none .or 5 t23 (uL 128)) fun t24 => opt2 (bsliceX 1 (uL 0) 1 [(0,t24)] h) fun t25 h4 => opt2 (appendX 1 1 t21 t25 h4) fun t26 h5 => opt (nilCheckX t0) fun t27 => opt (fieldAddrX 0 t27) fun t28 => optH (storeX 1 t28 t26 h5) fun h6 => opt (binX P0 .none .shr 237 t1 (.lit (.int .u64 7))) fun t30 => r0 0 t0 t30 h6)
theorem TS219_1L0_ (c : CF) (r0 : Nat → A2) : (rk d219 P0 c 31 (c219.bd.at_ 0)).1 k219 [] k219 (fun l s h => r0 l (s.rd 0) (s.rd 1) h) = L2 (S219_1L0_ c r0) 0 1 := by funext s h; kernel_rfl
noncomputable def S219_0g (c : CF) : Nat → Nat → A2
  | 0 => fun _ _ _ _ => none
  | k + 1 => fun l => match l with
    | 0 => S219_1L0_ c (S219_0g c k)
    | _ => fun _ _ _ => none
theorem TS219_0g (c : CF) : jumpK (fun l kg' => match (rk d219 P0 c 31 c219.bd).2 l with | some f => some (f k219 [] k219 kg') | none => none) gK rounds = fun l s h => S219_0g c rounds l (s.rd 0) (s.rd 1) h := jump_ind (J := fun m => fun l s h => S219_0g c m l (s.rd 0) (s.rd 1) h) rfl (fun m l => match l with
    | 0 => by rw [show findLabel c219.bd 0 = some (c219.bd.at_ 0) by kernel_rfl]; exact TS219_1L0_ c (S219_0g c m)
    | l + 1 => by rw [show findLabel c219.bd (l + 1) = none by kernel_rfl]; rfl) rounds
noncomputable def F219 (c : CF) (a0 a1 : AV) (h : Heap) : Res := opt (fastBin .lss a1 (.lit (.int .u64 128))) fun t5 => test t5 (opt (nilCheckX a0) fun t8 => opt (fieldAddrX 0 t8) fun t9 => opt (loadX none t9 h) fun t10 => opt (convI .u8 a1) fun t12 => opt2 (bsliceX 1 (uL 0) 1 [(0,t12)] h) fun t13 h1 => opt2 (appendX 1 1 t10 t13 h1) fun t14 h2 => opt (nilCheckX a0) fun t15 => opt (fieldAddrX 0 t15) fun t16 => optH (storeX 1 t16 t14 h2) fun h3 => some ((.lit (.tuple #[])),h3)) (opt (nilCheckX a0) fun t19 => opt (fieldAddrX 0 t19) fun t20 => opt (loadX none t20 h) fun t21 => opt (convI .u8 a1) fun t23 => opt (binX P0 .none .or 5 t23 (uL 128)) fun t24 => opt2 (bsliceX 1 (uL 0) 1 [(0,t24)] h) fun t25 h4 => opt2 (appendX 1 1 t21 t25 h4) fun t26 h5 => opt (nilCheckX a0) fun t27 => opt (fieldAddrX 0 t27) fun t28 => optH (storeX 1 t28 t26 h5) fun h6 => opt (binX P0 .none .shr 237 a1 (.lit (.int .u64 7))) fun t30 => S219_0g c rounds 0 a0 t30 h6)
theorem TF219 (c : CF) (a0 a1 : AV) (h : Heap) : (rk d219 P0 c 31 c219).1 k219 [] k219 gK (argsTr gl 0 [a0,a1]) h = F219 c a0 a1 h := Eq.trans (congrFun (congrFun (scope_t (by kernel_rfl) (TS219_0g c) rfl) _) _) (by kernel_rfl)
noncomputable def N219 : FnF := n2 F219
theorem N219_ok [Nu] : FnOk P0 gl 219 N219 := n2_ok namesOk mixedOrders lowOk Tryz.func219 (by kernel_rfl) (by kernel_rfl) (by kernel_rfl) TF219
noncomputable def c221 : Code := codeOf Tryz.f221
noncomputable def k221 : Kt := finK P0 Tryz.f221.results.toList
def d221 : List Nat := [6]
noncomputable def S221_0 (c : CF) (t0 : AV) (h : Heap) : Res := opt (lenStr t0) fun t46 => opt (fastBin .geq t46 (iL 1)) fun t47 => test t47 (opt (lenStr t0) fun t50 => opt (fastBin .leq t50 (iL 24)) fun t51 => some (t51,h)) (some (fL,h))
theorem TS221_0 (c : CF) : (rk d221 P0 c 53 c221.s2).1 k221 [] k221 gK = L1 (S221_0 c) 0 := by funext s h; kernel_rfl
noncomputable def S221_2 (c : CF) (r1 : A2) (t0 t3 : AV) (h : Heap) : Res := opt (fastBin .add t3 (iL 1)) fun t10 => r1 t0 t10 h
theorem TS221_2 (c : CF) (r1 : A2) : (rk d221 P0 c 53 c221.snd.fst.snd.bd.bd.s2).1 (L2 r1 0 3) [(0,(L1 (S221_0 c) 0))] k221 gK = L2 (S221_2 c r1) 0 3 := by funext s h; kernel_rfl
noncomputable def S221_3 (c : CF) (r1 : A2) (t0 t3 : AV) (h : Heap) : Res := opt (fastIndex t0 t3) fun t13 => opt (fastBin .geq t13 (uL 97)) fun t15 => test t15 (opt (fastBin .leq t13 (uL 122)) fun t18 => test t18 (opt (notX tL) fun t44 => test t44 (none) (S221_2 c r1 t0 t3 h)) (opt (fastBin .geq t13 (uL 65)) fun t22 => test t22 (opt (fastBin .leq t13 (uL 90)) fun t25 => test t25 (opt (notX tL) fun t44_1 => test t44_1 (none) (S221_2 c r1 t0 t3 h)) (opt (fastBin .eql t13 (uL 95)) fun t30 => test t30 (opt (notX tL) fun t44_2 => test t44_2 (none) (S221_2 c r1 t0 t3 h)) (opt (fastBin .geq t13 (uL 48)) fun t34 => test t34 (opt (fastBin .leq t13 (uL 57)) fun t37 => test t37 (opt (fastBin .gtr t3 (iL 0)) fun t41 => opt (notX t41) fun t44_3 => test t44_3 (none) (S221_2 c r1 t0 t3 h)) (opt (notX fL) fun t44_4 => test t44_4 (none) (S221_2 c r1 t0 t3 h))) (opt (notX fL) fun t44_5 => test t44_5 (none) (S221_2 c r1 t0 t3 h))))) (opt (fastBin .eql t13 (uL 95)) fun t30_1 => test t30_1 (opt (notX tL) fun t44_6 => test t44_6 (none) (S221_2 c r1 t0 t3 h)) (opt (fastBin .geq t13 (uL 48)) fun t34_1 => test t34_1 (opt (fastBin .leq t13 (uL 57)) fun t37_1 => test t37_1 (opt (fastBin .gtr t3 (iL 0)) fun t41_1 => opt (notX t41_1) fun t44_7 => test t44_7 (none) (S221_2 c r1 t0 t3 h)) (opt (notX fL) fun t44_8 => test t44_8 (none) (S221_2 c r1 t0 t3 h))) (opt (notX fL) fun t44_9 => test t44_9 (none) (S221_2 c r1 t0 t3 h)))))) (opt (fastBin .geq t13 (uL 65)) fun t22_1 => test t22_1 (opt (fastBin .leq t13 (uL 90)) fun t25_1 => test t25_1 (opt (notX tL) fun t44_10 => test t44_10 (none) (S221_2 c r1 t0 t3 h)) (opt (fastBin .eql t13 (uL 95)) fun t30_2 => test t30_2 (opt (notX tL) fun t44_11 => test t44_11 (none) (S221_2 c r1 t0 t3 h)) (opt (fastBin .geq t13 (uL 48)) fun t34_2 => test t34_2 (opt (fastBin .leq t13 (uL 57)) fun t37_2 => test t37_2 (opt (fastBin .gtr t3 (iL 0)) fun t41_2 => opt (notX t41_2) fun t44_12 => test t44_12 (none) (S221_2 c r1 t0 t3 h)) (opt (notX fL) fun t44_13 => test t44_13 (none) (S221_2 c r1 t0 t3 h))) (opt (notX fL) fun t44_14 => test t44_14 (none) (S221_2 c r1 t0 t3 h))))) (opt (fastBin .eql t13 (uL 95)) fun t30_3 => test t30_3 (opt (notX tL) fun t44_15 => test t44_15 (none) (S221_2 c r1 t0 t3 h)) (opt (fastBin .geq t13 (uL 48)) fun t34_3 => test t34_3 (opt (fastBin .leq t13 (uL 57)) fun t37_3 => test t37_3 (opt (fastBin .gtr t3 (iL 0)) fun t41_3 => opt (notX t41_3) fun t44_16 => test t44_16 (none) (S221_2 c r1 t0 t3 h)) (opt (notX fL) fun t44_17 => test t44_17 (none) (S221_2 c r1 t0 t3 h))) (opt (notX fL) fun t44_18 => test t44_18 (none) (S221_2 c r1 t0 t3 h)))))
theorem TS221_3 (c : CF) (r1 : A2) : (rk d221 P0 c 53 c221.snd.fst.snd.bd.bd.snd).1 (L2 r1 0 3) [(0,(L1 (S221_0 c) 0))] k221 gK = L2 (S221_3 c r1) 0 3 := Eq.trans (seq_t (by kernel_rfl) (TS221_2 c r1) rfl) (by funext s h; kernel_rfl)
noncomputable def S221_4b (c : CF) (r1 : A2) (t0 t3 : AV) (h : Heap) : Res := opt (lenStr t0) fun t7 => opt (fastBin .lss t3 t7) fun t8 => test t8 (S221_3 c r1 t0 t3 h) (S221_0 c t0 h)
theorem TS221_4b (c : CF) (r1 : A2) : (rk d221 P0 c 53 c221.snd.fst.snd.bd.bd).1 (L2 r1 0 3) [(0,(L1 (S221_0 c) 0))] k221 gK = L2 (S221_4b c r1) 0 3 := Eq.trans (seq_t (by kernel_rfl) (TS221_3 c r1) rfl) (by funext s h; kernel_rfl)
noncomputable def S221_1l (c : CF) : Nat → A2
  | 0 => fun _ _ _ => none
  | k + 1 => S221_4b c (S221_1l c k)
theorem TS221_1l (c : CF) : (rk d221 P0 c 53 c221.snd.fst.snd.bd).1 (L1 (S221_0 c) 0) [(0,(L1 (S221_0 c) 0))] k221 gK = L2 (S221_1l c rounds) 0 3 := loop_t (by kernel_rfl) (loop_ind (A := fun m => L2 (S221_1l c m) 0 3) rfl (fun m => TS221_4b c (S221_1l c m)) rounds)
noncomputable def S221_5 (c : CF) (t0 t3 : AV) (h : Heap) : Res := S221_1l c rounds t0 t3 h
theorem TS221_5 (c : CF) : (rk d221 P0 c 53 c221.snd.fst.snd).1 (L1 (S221_0 c) 0) [] k221 gK = L2 (S221_5 c) 0 3 := Eq.trans (block_t (id := 0) (by kernel_rfl) (TS221_1l c)) (by funext s h; kernel_rfl)
noncomputable def S221_6 (c : CF) (t0 : AV) (h : Heap) : Res := S221_5 c t0 (iL 0) h
theorem TS221_6 (c : CF) : (rk d221 P0 c 53 c221.snd).1 k221 [] k221 gK = L1 (S221_6 c) 0 := Eq.trans (seq_t (by kernel_rfl) (TS221_0 c) (seq_t (by kernel_rfl) (TS221_5 c) rfl)) (by funext s h; kernel_rfl)
noncomputable def F221 (c : CF) (a0 : AV) (h : Heap) : Res := S221_6 c a0 h
theorem TF221 (c : CF) (a0 : AV) (h : Heap) : (rk d221 P0 c 53 c221).1 k221 [] k221 gK (argsTr gl 0 [a0]) h = F221 c a0 h := Eq.trans (congrFun (congrFun (seq_t (by kernel_rfl) (TS221_6 c) rfl) _) _) (by kernel_rfl)
noncomputable def N221 : FnF := n1 F221
theorem N221_ok [Nu] : FnOk P0 gl 221 N221 := n1_ok namesOk mixedOrders lowOk Tryz.func221 (by kernel_rfl) (by kernel_rfl) (by kernel_rfl) TF221
noncomputable def c222 : Code := codeOf Tryz.f222
noncomputable def k222 : Kt := finK P0 Tryz.f222.results.toList
def d222 : List Nat := []
noncomputable def F222 (c : CF) (a0 : AV) (h : Heap) : Res := opt2 (c 221 [a0] h) fun t4 h1 => test t4 (opt (fastIndex a0 (iL 0)) fun t7 => opt (fastBin .geq t7 (uL 65)) fun t8 => test t8 (opt (fastIndex a0 (iL 0)) fun t12 => opt (fastBin .leq t12 (uL 90)) fun t13 => some (t13,h1)) (some (fL,h1))) (some (fL,h1))
theorem TF222 (c : CF) (a0 : AV) (h : Heap) : (rk d222 P0 c 15 c222).1 k222 [] k222 gK (argsTr gl 0 [a0]) h = F222 c a0 h := by kernel_rfl
noncomputable def N222 : FnF := n1 F222
theorem N222_ok [Nu] : FnOk P0 gl 222 N222 := n1_ok namesOk mixedOrders lowOk Tryz.func222 (by kernel_rfl) (by kernel_rfl) (by kernel_rfl) TF222
noncomputable def c225 : Code := codeOf Tryz.f225
noncomputable def k225 : Kt := finK P0 Tryz.f225.results.toList
def d225 : List Nat := [2]
noncomputable def F225 (c : CF) (a0 : AV) (h : Heap) : Res := opt (lenStr a0) fun t6 => opt (fastBin .gtr t6 (iL 200)) fun t7 => test t7 (none) (opt2 (c 340 [a0] h) fun t10 h1 => opt (extractX t10 0) fun t11 => opt (extractX t10 1) fun t12 => opt (fastBin .gtr t11 (iL 0)) fun t14 => test t14 (opt (lenStr a0) fun t18 => opt (fastBin .eql t11 t18) fun t19 => some (t19,h1)) (some (fL,h1)))
theorem TF225 (c : CF) (a0 : AV) (h : Heap) : (rk d225 P0 c 21 c225).1 k225 [] k225 gK (argsTr gl 0 [a0]) h = F225 c a0 h := by kernel_rfl
noncomputable def N225 : FnF := n1 F225
theorem N225_ok [Nu] : FnOk P0 gl 225 N225 := n1_ok namesOk mixedOrders lowOk Tryz.func225 (by kernel_rfl) (by kernel_rfl) (by kernel_rfl) TF225
noncomputable def c229 : Code := codeOf Tryz.f229
noncomputable def k229 : Kt := finK P0 Tryz.f229.results.toList
def d229 : List Nat := [3,4,6,5,2]
noncomputable def S229_1b (c : CF) (r0 : A2) (t2 t6 : AV) (h : Heap) : Res := opt (fastBin .lss t6 t2) fun t12 => test t12 (none) (some ((.lit (.tuple #[])),h))
theorem TS229_1b (c : CF) (r0 : A2) : (rk d229 P0 c 49 c229.snd.bd.bd).1 (L2 r0 2 6) [(0,k229)] k229 gK = L2 (S229_1b c r0) 2 6 := by funext s h; kernel_rfl
noncomputable def S229_0l (c : CF) : Nat → A2
  | 0 => fun _ _ _ => none
  | k + 1 => S229_1b c (S229_0l c k)
theorem TS229_0l (c : CF) : (rk d229 P0 c 49 c229.snd.bd).1 k229 [(0,k229)] k229 gK = L2 (S229_0l c rounds) 2 6 := loop_t (by kernel_rfl) (loop_ind (A := fun m => L2 (S229_0l c m) 2 6) rfl (fun m => TS229_1b c (S229_0l c m)) rounds)
noncomputable def S229_2 (c : CF) (t2 t6 : AV) (h : Heap) : Res := S229_0l c rounds t2 t6 h
theorem TS229_2 (c : CF) : (rk d229 P0 c 49 c229.snd).1 k229 [] k229 gK = L2 (S229_2 c) 2 6 := Eq.trans (block_t (id := 0) (by kernel_rfl) (TS229_0l c)) (by funext s h; kernel_rfl)
noncomputable def F229 (c : CF) (a0 a1 a2 : AV) (h : Heap) : Res := opt (fastBin .add a1 (iL 1)) fun t9 => S229_2 c a2 t9 h
theorem TF229 (c : CF) (a0 a1 a2 : AV) (h : Heap) : (rk d229 P0 c 49 c229).1 k229 [] k229 gK (argsTr gl 0 [a0,a1,a2]) h = F229 c a0 a1 a2 h := Eq.trans (congrFun (congrFun (seq_t (by kernel_rfl) (TS229_2 c) rfl) _) _) (by kernel_rfl)
noncomputable def N229 : FnF := n3 F229
theorem N229_ok [Nu] : FnOk P0 gl 229 N229 := n3_ok namesOk mixedOrders lowOk Tryz.func229 (by kernel_rfl) (by kernel_rfl) (by kernel_rfl) TF229
noncomputable def c238 : Code := codeOf Tryz.f238
noncomputable def k238 : Kt := finK P0 Tryz.f238.results.toList
def d238 : List Nat := []
noncomputable def S238_0 (c : CF) (h : Heap) : Res := some ((iL (-1)),h)
theorem TS238_0 (c : CF) : (rk d238 P0 c 19 c238.s2).1 k238 [] k238 gK = L0 (S238_0 c) := by funext s h; kernel_rfl
noncomputable def S238_2b (c : CF) (r1 : A4) (t0 t1 t7 t8 : AV) (h : Heap) : Res := opt (fastBin .lss t8 t7) fun t9 => test t9 (opt (indexAddrS 1 t0 t8 h) fun t14 => opt (loadX none t14 h) fun t15 => opt2 (callV P0 c t1 [t15] h) fun t16 h1 => test t16 (some (t8,h1)) (opt (fastBin .add t8 (iL 1)) fun t18 => r1 t0 t1 t7 t18 h1)) (S238_0 c h)
theorem TS238_2b (c : CF) (r1 : A4) : (rk d238 P0 c 19 c238.snd.fst.snd.bd.bd).1 (L4 r1 0 1 7 8) [(0,(L0 (S238_0 c)))] k238 gK = L4 (S238_2b c r1) 0 1 7 8 := by funext s h; kernel_rfl
noncomputable def S238_1l (c : CF) : Nat → A4
  | 0 => fun _ _ _ _ _ => none
  | k + 1 => S238_2b c (S238_1l c k)
theorem TS238_1l (c : CF) : (rk d238 P0 c 19 c238.snd.fst.snd.bd).1 (L0 (S238_0 c)) [(0,(L0 (S238_0 c)))] k238 gK = L4 (S238_1l c rounds) 0 1 7 8 := loop_t (by kernel_rfl) (loop_ind (A := fun m => L4 (S238_1l c m) 0 1 7 8) rfl (fun m => TS238_2b c (S238_1l c m)) rounds)
noncomputable def S238_3 (c : CF) (t0 t1 t7 t8 : AV) (h : Heap) : Res := S238_1l c rounds t0 t1 t7 t8 h
theorem TS238_3 (c : CF) : (rk d238 P0 c 19 c238.snd.fst.snd).1 (L0 (S238_0 c)) [] k238 gK = L4 (S238_3 c) 0 1 7 8 := Eq.trans (block_t (id := 0) (by kernel_rfl) (TS238_1l c)) (by funext s h; kernel_rfl)
noncomputable def S238_4 (c : CF) (t0 t1 : AV) (h : Heap) : Res := opt (lenS t0) fun t7 => S238_3 c t0 t1 t7 (iL 0) h
theorem TS238_4 (c : CF) : (rk d238 P0 c 19 c238.snd).1 k238 [] k238 gK = L2 (S238_4 c) 0 1 := Eq.trans (seq_t (by kernel_rfl) (TS238_0 c) (seq_t (by kernel_rfl) (TS238_3 c) rfl)) (by funext s h; kernel_rfl)
noncomputable def F238 (c : CF) (a0 a1 : AV) (h : Heap) : Res := S238_4 c a0 a1 h
theorem TF238 (c : CF) (a0 a1 : AV) (h : Heap) : (rk d238 P0 c 19 c238).1 k238 [] k238 gK (argsTr gl 0 [a0,a1]) h = F238 c a0 a1 h := Eq.trans (congrFun (congrFun (seq_t (by kernel_rfl) (TS238_4 c) rfl) _) _) (by kernel_rfl)
noncomputable def N238 : FnF := n2 F238
theorem N238_ok [Nu] : FnOk P0 gl 238 N238 := n2_ok namesOk mixedOrders lowOk Tryz.func238 (by kernel_rfl) (by kernel_rfl) (by kernel_rfl) TF238
noncomputable def c242 : Code := codeOf Tryz.f242
noncomputable def k242 : Kt := finK P0 Tryz.f242.results.toList
def d242 : List Nat := []
noncomputable def F242 (c : CF) (a0 : AV) (h : Heap) : Res := opt (binX P0 .slice .eql 131 a0 nL) fun t4 => test t4 (some (nL,h)) (opt2 (bsliceX 2 (.agg [eL,nL]) 0 [] h) fun t5 h1 => opt2 (appendX 2 40 t5 a0 h1) fun t7 h2 => some (t7,h2))
theorem TF242 (c : CF) (a0 : AV) (h : Heap) : (rk d242 P0 c 8 c242).1 k242 [] k242 gK (argsTr gl 0 [a0]) h = F242 c a0 h := by kernel_rfl
noncomputable def N242 : FnF := n1 F242
theorem N242_ok [Nu] : FnOk P0 gl 242 N242 := n1_ok namesOk mixedOrders lowOk Tryz.func242 (by kernel_rfl) (by kernel_rfl) (by kernel_rfl) TF242
noncomputable def c245 : Code := codeOf Tryz.f245
noncomputable def k245 : Kt := finK P0 Tryz.f245.results.toList
def d245 : List Nat := []
noncomputable def S245_0 (c : CF) (h : Heap) : Res := some ((iL (-1)),h)
theorem TS245_0 (c : CF) : (rk d245 P0 c 19 c245.s2).1 k245 [] k245 gK = L0 (S245_0 c) := by funext s h; kernel_rfl
noncomputable def S245_2b (c : CF) (r1 : A4) (t0 t1 t7 t8 : AV) (h : Heap) : Res := opt (fastBin .lss t8 t7) fun t9 => test t9 (opt (indexAddrS 6 t0 t8 h) fun t14 => opt (loadX (some 6) t14 h) fun t15 => opt2 (callV P0 c t1 [t15] h) fun t16 h1 => test t16 (some (t8,h1)) (opt (fastBin .add t8 (iL 1)) fun t18 => r1 t0 t1 t7 t18 h1)) (S245_0 c h)
theorem TS245_2b (c : CF) (r1 : A4) : (rk d245 P0 c 19 c245.snd.fst.snd.bd.bd).1 (L4 r1 0 1 7 8) [(0,(L0 (S245_0 c)))] k245 gK = L4 (S245_2b c r1) 0 1 7 8 := by funext s h; kernel_rfl
noncomputable def S245_1l (c : CF) : Nat → A4
  | 0 => fun _ _ _ _ _ => none
  | k + 1 => S245_2b c (S245_1l c k)
theorem TS245_1l (c : CF) : (rk d245 P0 c 19 c245.snd.fst.snd.bd).1 (L0 (S245_0 c)) [(0,(L0 (S245_0 c)))] k245 gK = L4 (S245_1l c rounds) 0 1 7 8 := loop_t (by kernel_rfl) (loop_ind (A := fun m => L4 (S245_1l c m) 0 1 7 8) rfl (fun m => TS245_2b c (S245_1l c m)) rounds)
noncomputable def S245_3 (c : CF) (t0 t1 t7 t8 : AV) (h : Heap) : Res := S245_1l c rounds t0 t1 t7 t8 h
theorem TS245_3 (c : CF) : (rk d245 P0 c 19 c245.snd.fst.snd).1 (L0 (S245_0 c)) [] k245 gK = L4 (S245_3 c) 0 1 7 8 := Eq.trans (block_t (id := 0) (by kernel_rfl) (TS245_1l c)) (by funext s h; kernel_rfl)
noncomputable def S245_4 (c : CF) (t0 t1 : AV) (h : Heap) : Res := opt (lenS t0) fun t7 => S245_3 c t0 t1 t7 (iL 0) h
theorem TS245_4 (c : CF) : (rk d245 P0 c 19 c245.snd).1 k245 [] k245 gK = L2 (S245_4 c) 0 1 := Eq.trans (seq_t (by kernel_rfl) (TS245_0 c) (seq_t (by kernel_rfl) (TS245_3 c) rfl)) (by funext s h; kernel_rfl)
noncomputable def F245 (c : CF) (a0 a1 : AV) (h : Heap) : Res := S245_4 c a0 a1 h
theorem TF245 (c : CF) (a0 a1 : AV) (h : Heap) : (rk d245 P0 c 19 c245).1 k245 [] k245 gK (argsTr gl 0 [a0,a1]) h = F245 c a0 a1 h := Eq.trans (congrFun (congrFun (seq_t (by kernel_rfl) (TS245_4 c) rfl) _) _) (by kernel_rfl)
noncomputable def N245 : FnF := n2 F245
theorem N245_ok [Nu] : FnOk P0 gl 245 N245 := n2_ok namesOk mixedOrders lowOk Tryz.func245 (by kernel_rfl) (by kernel_rfl) (by kernel_rfl) TF245
noncomputable def c253 : Code := codeOf Tryz.f253
noncomputable def k253 : Kt := finK P0 Tryz.f253.results.toList
def d253 : List Nat := []
noncomputable def S253_0 (c : CF) (h : Heap) : Res := some ((iL (-1)),h)
theorem TS253_0 (c : CF) : (rk d253 P0 c 19 c253.s2).1 k253 [] k253 gK = L0 (S253_0 c) := by funext s h; kernel_rfl
noncomputable def S253_2b (c : CF) (r1 : A4) (t0 t1 t7 t8 : AV) (h : Heap) : Res := opt (fastBin .lss t8 t7) fun t9 => test t9 (opt (indexAddrS 4 t0 t8 h) fun t14 => opt (loadX (some 4) t14 h) fun t15 => opt2 (callV P0 c t1 [t15] h) fun t16 h1 => test t16 (some (t8,h1)) (opt (fastBin .add t8 (iL 1)) fun t18 => r1 t0 t1 t7 t18 h1)) (S253_0 c h)
theorem TS253_2b (c : CF) (r1 : A4) : (rk d253 P0 c 19 c253.snd.fst.snd.bd.bd).1 (L4 r1 0 1 7 8) [(0,(L0 (S253_0 c)))] k253 gK = L4 (S253_2b c r1) 0 1 7 8 := by funext s h; kernel_rfl
noncomputable def S253_1l (c : CF) : Nat → A4
  | 0 => fun _ _ _ _ _ => none
  | k + 1 => S253_2b c (S253_1l c k)
theorem TS253_1l (c : CF) : (rk d253 P0 c 19 c253.snd.fst.snd.bd).1 (L0 (S253_0 c)) [(0,(L0 (S253_0 c)))] k253 gK = L4 (S253_1l c rounds) 0 1 7 8 := loop_t (by kernel_rfl) (loop_ind (A := fun m => L4 (S253_1l c m) 0 1 7 8) rfl (fun m => TS253_2b c (S253_1l c m)) rounds)
noncomputable def S253_3 (c : CF) (t0 t1 t7 t8 : AV) (h : Heap) : Res := S253_1l c rounds t0 t1 t7 t8 h
theorem TS253_3 (c : CF) : (rk d253 P0 c 19 c253.snd.fst.snd).1 (L0 (S253_0 c)) [] k253 gK = L4 (S253_3 c) 0 1 7 8 := Eq.trans (block_t (id := 0) (by kernel_rfl) (TS253_1l c)) (by funext s h; kernel_rfl)
noncomputable def S253_4 (c : CF) (t0 t1 : AV) (h : Heap) : Res := opt (lenS t0) fun t7 => S253_3 c t0 t1 t7 (iL 0) h
theorem TS253_4 (c : CF) : (rk d253 P0 c 19 c253.snd).1 k253 [] k253 gK = L2 (S253_4 c) 0 1 := Eq.trans (seq_t (by kernel_rfl) (TS253_0 c) (seq_t (by kernel_rfl) (TS253_3 c) rfl)) (by funext s h; kernel_rfl)
noncomputable def F253 (c : CF) (a0 a1 : AV) (h : Heap) : Res := S253_4 c a0 a1 h
theorem TF253 (c : CF) (a0 a1 : AV) (h : Heap) : (rk d253 P0 c 19 c253).1 k253 [] k253 gK (argsTr gl 0 [a0,a1]) h = F253 c a0 a1 h := Eq.trans (congrFun (congrFun (seq_t (by kernel_rfl) (TS253_4 c) rfl) _) _) (by kernel_rfl)
noncomputable def N253 : FnF := n2 F253
theorem N253_ok [Nu] : FnOk P0 gl 253 N253 := n2_ok namesOk mixedOrders lowOk Tryz.func253 (by kernel_rfl) (by kernel_rfl) (by kernel_rfl) TF253
noncomputable def c254 : Code := codeOf Tryz.f254
noncomputable def k254 : Kt := finK P0 Tryz.f254.results.toList
def d254 : List Nat := [8,11,19,23]
noncomputable def S254_1 (c : CF) (r0 : Nat → A3) (t0 t3 t4 : AV) (h : Heap) : Res := opt (fastBin .add t3 (iL 1)) fun t103 => opt (fastBin .sub t4 (iL 1)) fun t105 => r0 0 t0 t103 t105 h
theorem TS254_1 (c : CF) (r0 : Nat → A3) : (rk d254 P0 c 107 (c254.snd.bd.at_ 0).snd.fst.snd.thn.snd).1 ((rk d254 P0 c 107 (c254.snd.bd.at_ 0).s2).1 k254 [] k254 (fun l s h => r0 l (s.rd 0) (s.rd 3) (s.rd 4) h)) [] k254 (fun l s h => r0 l (s.rd 0) (s.rd 3) (s.rd 4) h) = L3 (S254_1 c r0) 0 3 4 := by funext s h; kernel_rfl
noncomputable def S254_2 (c : CF) (r0 : Nat → A3) (t0 t3 t4 : AV) (h : Heap) : Res := opt (lenStr t0) fun t94 => opt (fastBin .geq t3 t94) fun t95 => test t95 (none) (opt (fastIndex t0 t3) fun t99 => opt (fastBin .neq t99 (uL 93)) fun t100 => test t100 (none) (S254_1 c r0 t0 t3 t4 h))
theorem TS254_2 (c : CF) (r0 : Nat → A3) : (rk d254 P0 c 107 (c254.snd.bd.at_ 0).snd.fst.snd.thn).1 ((rk d254 P0 c 107 (c254.snd.bd.at_ 0).s2).1 k254 [] k254 (fun l s h => r0 l (s.rd 0) (s.rd 3) (s.rd 4) h)) [] k254 (fun l s h => r0 l (s.rd 0) (s.rd 3) (s.rd 4) h) = L3 (S254_2 c r0) 0 3 4 := Eq.trans (seq_t (by kernel_rfl) (TS254_1 c r0) rfl) (by funext s h; kernel_rfl)
noncomputable def S254_3 (c : CF) (r0 : Nat → A3) (t0 t3 t4 t91 : AV) (h : Heap) : Res := test t91 (S254_2 c r0 t0 t3 t4 h) (some (t3,h))
theorem TS254_3 (c : CF) (r0 : Nat → A3) : (rk d254 P0 c 107 (c254.snd.bd.at_ 0).snd.fst.snd).1 ((rk d254 P0 c 107 (c254.snd.bd.at_ 0).s2).1 k254 [] k254 (fun l s h => r0 l (s.rd 0) (s.rd 3) (s.rd 4) h)) [] k254 (fun l s h => r0 l (s.rd 0) (s.rd 3) (s.rd 4) h) = L4 (S254_3 c r0) 0 3 4 91 := Eq.trans (cond_t (by kernel_rfl) (TS254_2 c r0) rfl) (by funext s h; kernel_rfl)
noncomputable def S254_4 (c : CF) (r0 : Nat → A3) (t0 t3 t4 : AV) (h : Heap) : Res := opt (fastBin .gtr t4 (iL 0)) fun t91 => S254_3 c r0 t0 t3 t4 t91 h
theorem TS254_4 (c : CF) (r0 : Nat → A3) : (rk d254 P0 c 107 (c254.snd.bd.at_ 0).snd).1 k254 [] k254 (fun l s h => r0 l (s.rd 0) (s.rd 3) (s.rd 4) h) = L3 (S254_4 c r0) 0 3 4 := Eq.trans (seq_t (by kernel_rfl) rfl (seq_t (by kernel_rfl) (TS254_3 c r0) rfl)) (by funext s h; kernel_rfl)
noncomputable def S254_5L0_ (c : CF) (r0 : Nat → A3) (t0 t3 t4 : AV) (h : Heap) : Res := S254_4 c r0 t0 t3 t4 h
theorem TS254_5L0_ (c : CF) (r0 : Nat → A3) : (rk d254 P0 c 107 (c254.snd.bd.at_ 0)).1 k254 [] k254 (fun l s h => r0 l (s.rd 0) (s.rd 3) (s.rd 4) h) = L3 (S254_5L0_ c r0) 0 3 4 := Eq.trans (seq_t (by kernel_rfl) (TS254_4 c r0) rfl) (by funext s h; kernel_rfl)
noncomputable def S254_0g (c : CF) : Nat → Nat → A3
  | 0 => fun _ _ _ _ _ => none
  | k + 1 => fun l => match l with
    | 0 => S254_5L0_ c (S254_0g c k)
    | _ => fun _ _ _ _ => none
theorem TS254_0g (c : CF) : jumpK (fun l kg' => match (rk d254 P0 c 107 c254.snd.bd).2 l with | some f => some (f k254 [] k254 kg') | none => none) gK rounds = fun l s h => S254_0g c rounds l (s.rd 0) (s.rd 3) (s.rd 4) h := jump_ind (J := fun m => fun l s h => S254_0g c m l (s.rd 0) (s.rd 3) (s.rd 4) h) rfl (fun m l => match l with
    | 0 => by rw [show findLabel c254.snd.bd 0 = some (c254.snd.bd.at_ 0) by kernel_rfl]; exact TS254_5L0_ c (S254_0g c m)
    | l + 1 => by rw [show findLabel c254.snd.bd (l + 1) = none by kernel_rfl]; rfl) rounds
noncomputable def S254_6 (c : CF) (t0 t3 t4 : AV) (h : Heap) : Res := opt (fastBin .add t3 (iL 1)) fun t103 => opt (fastBin .sub t4 (iL 1)) fun t105 => S254_0g c rounds 0 t0 t103 t105 h
theorem TS254_6 (c : CF) : (rk d254 P0 c 107 c254.snd.bd.s6.fst.snd.thn.snd).1 ((rk d254 P0 c 107 c254.snd.bd.s7).1 k254 [] k254 (fun l s h => S254_0g c rounds l (s.rd 0) (s.rd 3) (s.rd 4) h)) [] k254 (fun l s h => S254_0g c rounds l (s.rd 0) (s.rd 3) (s.rd 4) h) = L3 (S254_6 c) 0 3 4 := by funext s h; kernel_rfl
noncomputable def S254_7 (c : CF) (t0 t3 t4 : AV) (h : Heap) : Res := opt (lenStr t0) fun t94 => opt (fastBin .geq t3 t94) fun t95 => test t95 (none) (opt (fastIndex t0 t3) fun t99 => opt (fastBin .neq t99 (uL 93)) fun t100 => test t100 (none) (S254_6 c t0 t3 t4 h))
theorem TS254_7 (c : CF) : (rk d254 P0 c 107 c254.snd.bd.s6.fst.snd.thn).1 ((rk d254 P0 c 107 c254.snd.bd.s7).1 k254 [] k254 (fun l s h => S254_0g c rounds l (s.rd 0) (s.rd 3) (s.rd 4) h)) [] k254 (fun l s h => S254_0g c rounds l (s.rd 0) (s.rd 3) (s.rd 4) h) = L3 (S254_7 c) 0 3 4 := Eq.trans (seq_t (by kernel_rfl) (TS254_6 c) rfl) (by funext s h; kernel_rfl)
noncomputable def S254_8 (c : CF) (t0 t3 t4 t91 : AV) (h : Heap) : Res := test t91 (S254_7 c t0 t3 t4 h) (some (t3,h))
theorem TS254_8 (c : CF) : (rk d254 P0 c 107 c254.snd.bd.s6.fst.snd).1 ((rk d254 P0 c 107 c254.snd.bd.s7).1 k254 [] k254 (fun l s h => S254_0g c rounds l (s.rd 0) (s.rd 3) (s.rd 4) h)) [] k254 (fun l s h => S254_0g c rounds l (s.rd 0) (s.rd 3) (s.rd 4) h) = L4 (S254_8 c) 0 3 4 91 := Eq.trans (cond_t (by kernel_rfl) (TS254_7 c) rfl) (by funext s h; kernel_rfl)
noncomputable def S254_9 (c : CF) (t0 t3 t4 : AV) (h : Heap) : Res := opt (fastBin .gtr t4 (iL 0)) fun t91 => S254_8 c t0 t3 t4 t91 h
theorem TS254_9 (c : CF) : (rk d254 P0 c 107 c254.snd.bd.s6).1 k254 [] k254 (fun l s h => S254_0g c rounds l (s.rd 0) (s.rd 3) (s.rd 4) h) = L3 (S254_9 c) 0 3 4 := Eq.trans (seq_t (by kernel_rfl) rfl (seq_t (by kernel_rfl) (TS254_8 c) rfl)) (by funext s h; kernel_rfl)
noncomputable def S254_10 (c : CF) (t0 t3 t4 : AV) (h : Heap) : Res := S254_9 c t0 t3 t4 h
theorem TS254_10 (c : CF) : (rk d254 P0 c 107 c254.snd.bd.s5).1 k254 [] k254 (fun l s h => S254_0g c rounds l (s.rd 0) (s.rd 3) (s.rd 4) h) = L3 (S254_10 c) 0 3 4 := Eq.trans (seq_t (by kernel_rfl) (TS254_9 c) rfl) (by funext s h; kernel_rfl)
noncomputable def S254_11 (c : CF) (t0 t3 t4 t8 : AV) (h : Heap) : Res := opt (fastBin .add t3 t8) fun t89 => S254_10 c t0 t89 t4 h
theorem TS254_11 (c : CF) : (rk d254 P0 c 107 c254.snd.bd.s4.fst.s4).1 (L3 (S254_10 c) 0 3 4) [] k254 (fun l s h => S254_0g c rounds l (s.rd 0) (s.rd 3) (s.rd 4) h) = L4 (S254_11 c) 0 3 4 8 := by funext s h; kernel_rfl
noncomputable def S254_12 (c : CF) (t0 t3 t4 t8 t9 : AV) (h : Heap) : Res := opt2 (c 353 [t9] h) fun t76 h1 => opt (extractX t76 0) fun t77 => opt (extractX t76 1) fun t78 => opt (extractX t76 2) fun t79 => opt (notX t79) fun t81 => test t81 (opt2 (c 354 [t9] h1) fun t84 h2 => opt (notX t84) fun t85 => test t85 (none) (S254_11 c t0 t3 t4 t8 h2)) (S254_11 c t0 t3 t4 t8 h1)
theorem TS254_12 (c : CF) : (rk d254 P0 c 107 c254.snd.bd.s4.fst.s3).1 (L3 (S254_10 c) 0 3 4) [] k254 (fun l s h => S254_0g c rounds l (s.rd 0) (s.rd 3) (s.rd 4) h) = L5 (S254_12 c) 0 3 4 8 9 := Eq.trans (seq_t (by kernel_rfl) (TS254_11 c) rfl) (by funext s h; kernel_rfl)
noncomputable def S254_13 (c : CF) (t0 t3 t4 t8 : AV) (h : Heap) : Res := opt (fastBin .add t3 t8) fun t72 => opt (fastCut t0 (some t3) (some t72) none) fun t73 => S254_12 c t0 t3 t4 t8 t73 h
theorem TS254_13 (c : CF) : (rk d254 P0 c 107 c254.snd.bd.s4.fst.s2).1 (L3 (S254_10 c) 0 3 4) [] k254 (fun l s h => S254_0g c rounds l (s.rd 0) (s.rd 3) (s.rd 4) h) = L4 (S254_13 c) 0 3 4 8 := Eq.trans (seq_t (by kernel_rfl) (TS254_12 c) rfl) (by funext s h; kernel_rfl)
noncomputable def S254_14 (c : CF) (t0 t3 t4 t8 : AV) (h : Heap) : Res := opt (fastBin .lss t8 (iL 0)) fun t63 => test t63 (opt (lenStr t0) fun t65 => opt (fastBin .sub t65 t3) fun t67 => S254_13 c t0 t3 t4 t67 h) (S254_13 c t0 t3 t4 t8 h)
theorem TS254_14 (c : CF) : (rk d254 P0 c 107 c254.snd.bd.s4.fst.snd).1 (L3 (S254_10 c) 0 3 4) [] k254 (fun l s h => S254_0g c rounds l (s.rd 0) (s.rd 3) (s.rd 4) h) = L4 (S254_14 c) 0 3 4 8 := Eq.trans (seq_t (by kernel_rfl) (TS254_13 c) rfl) (by funext s h; kernel_rfl)
noncomputable def S254_15 (c : CF) (t0 t3 t4 : AV) (h : Heap) : Res := opt (fastCut t0 (some t3) none none) fun t60 => opt2 (c 352 [t60,(sL [91,93,40,41,44])] h) fun t61 h1 => S254_14 c t0 t3 t4 t61 h1
theorem TS254_15 (c : CF) : (rk d254 P0 c 107 c254.snd.bd.s4).1 k254 [] k254 (fun l s h => S254_0g c rounds l (s.rd 0) (s.rd 3) (s.rd 4) h) = L3 (S254_15 c) 0 3 4 := Eq.trans (seq_t (by kernel_rfl) (TS254_10 c) (seq_t (by kernel_rfl) (TS254_14 c) rfl)) (by funext s h; kernel_rfl)
noncomputable def S254_16 (c : CF) (t0 t3 t4 t35 : AV) (h : Heap) : Res := test t35 (opt (fastCut t0 (some t3) none none) fun t39 => opt2 (c 148 [t39] h) fun t40 h1 => opt (extractX t40 0) fun t41 => opt (extractX t40 1) fun t42 => opt (fastBin .eql t42 (iL 0)) fun t44 => test t44 (none) (opt (fastBin .add t3 t42) fun t48 => opt (fastCut t0 (some t48) none none) fun t49 => opt2 (c 254 [t49] h1) fun t50 h2 => opt (fastBin .eql t50 (iL 0)) fun t52 => test t52 (none) (opt (fastBin .add t42 t50) fun t56 => opt (fastBin .add t3 t56) fun t57 => S254_0g c rounds 0 t0 t57 t4 h2))) (S254_15 c t0 t3 t4 h)
theorem TS254_16 (c : CF) : (rk d254 P0 c 107 c254.snd.bd.s3.fst.snd).1 (L3 (S254_15 c) 0 3 4) [] k254 (fun l s h => S254_0g c rounds l (s.rd 0) (s.rd 3) (s.rd 4) h) = L4 (S254_16 c) 0 3 4 35 := by funext s h; kernel_rfl
noncomputable def S254_17 (c : CF) (t0 t3 t4 : AV) (h : Heap) : Res := opt (lenStr t0) fun t28 => opt (fastBin .lss t3 t28) fun t29 => test t29 (opt (fastIndex t0 t3) fun t33 => opt (fastBin .eql t33 (uL 40)) fun t34 => S254_16 c t0 t3 t4 t34 h) (S254_16 c t0 t3 t4 fL h)
theorem TS254_17 (c : CF) : (rk d254 P0 c 107 c254.snd.bd.s3).1 k254 [] k254 (fun l s h => S254_0g c rounds l (s.rd 0) (s.rd 3) (s.rd 4) h) = L3 (S254_17 c) 0 3 4 := Eq.trans (seq_t (by kernel_rfl) (TS254_15 c) (seq_t (by kernel_rfl) (TS254_16 c) rfl)) (by funext s h; kernel_rfl)
noncomputable def S254_18 (c : CF) (t0 t3 : AV) (h : Heap) : Res := S254_17 c t0 t3 t3 h
theorem TS254_18 (c : CF) : (rk d254 P0 c 107 c254.snd.bd.s2).1 k254 [] k254 (fun l s h => S254_0g c rounds l (s.rd 0) (s.rd 3) (s.rd 4) h) = L2 (S254_18 c) 0 3 := Eq.trans (seq_t (by kernel_rfl) (TS254_17 c) rfl) (by funext s h; kernel_rfl)
noncomputable def S254_20 (c : CF) (r19 : A2) (t0 t3 : AV) (h : Heap) : Res := opt (fastBin .add t3 (iL 1)) fun t24 => r19 t0 t24 h
theorem TS254_20 (c : CF) (r19 : A2) : (rk d254 P0 c 107 c254.snd.bd.snd.fst.bd.bd.snd).1 (L2 r19 0 3) [(0,(L2 (S254_18 c) 0 3))] k254 (fun l s h => S254_0g c rounds l (s.rd 0) (s.rd 3) (s.rd 4) h) = L2 (S254_20 c r19) 0 3 := by funext s h; kernel_rfl
noncomputable def S254_21b (c : CF) (r19 : A2) (t0 t3 : AV) (h : Heap) : Res := opt (lenStr t0) fun t15 => opt (fastBin .lss t3 t15) fun t16 => test t16 (opt (fastIndex t0 t3) fun t20 => opt (fastBin .eql t20 (uL 91)) fun t21 => test t21 (S254_20 c r19 t0 t3 h) (S254_18 c t0 t3 h)) (S254_18 c t0 t3 h)
theorem TS254_21b (c : CF) (r19 : A2) : (rk d254 P0 c 107 c254.snd.bd.snd.fst.bd.bd).1 (L2 r19 0 3) [(0,(L2 (S254_18 c) 0 3))] k254 (fun l s h => S254_0g c rounds l (s.rd 0) (s.rd 3) (s.rd 4) h) = L2 (S254_21b c r19) 0 3 := Eq.trans (seq_t (by kernel_rfl) (TS254_20 c r19) rfl) (by funext s h; kernel_rfl)
noncomputable def S254_19l (c : CF) : Nat → A2
  | 0 => fun _ _ _ => none
  | k + 1 => S254_21b c (S254_19l c k)
theorem TS254_19l (c : CF) : (rk d254 P0 c 107 c254.snd.bd.snd.fst.bd).1 (L2 (S254_18 c) 0 3) [(0,(L2 (S254_18 c) 0 3))] k254 (fun l s h => S254_0g c rounds l (s.rd 0) (s.rd 3) (s.rd 4) h) = L2 (S254_19l c rounds) 0 3 := loop_t (by kernel_rfl) (loop_ind (A := fun m => L2 (S254_19l c m) 0 3) rfl (fun m => TS254_21b c (S254_19l c m)) rounds)
noncomputable def S254_22 (c : CF) (t0 t3 : AV) (h : Heap) : Res := S254_19l c rounds t0 t3 h
theorem TS254_22 (c : CF) : (rk d254 P0 c 107 c254.snd.bd.snd).1 k254 [] k254 (fun l s h => S254_0g c rounds l (s.rd 0) (s.rd 3) (s.rd 4) h) = L2 (S254_22 c) 0 3 := Eq.trans (seq_t (by kernel_rfl) (TS254_18 c) (block_t (id := 0) (by kernel_rfl) (TS254_19l c))) (by funext s h; kernel_rfl)
noncomputable def S254_23 (c : CF) (t0 : AV) (h : Heap) : Res := S254_22 c t0 (iL 0) h
theorem TS254_23 (c : CF) : (rk d254 P0 c 107 c254.snd).1 k254 [] k254 gK = L1 (S254_23 c) 0 := Eq.trans (scope_t (by kernel_rfl) (TS254_0g c) (seq_t (by kernel_rfl) (TS254_22 c) rfl)) (by funext s h; kernel_rfl)
noncomputable def F254 (c : CF) (a0 : AV) (h : Heap) : Res := S254_23 c a0 h
theorem TF254 (c : CF) (a0 : AV) (h : Heap) : (rk d254 P0 c 107 c254).1 k254 [] k254 gK (argsTr gl 0 [a0]) h = F254 c a0 h := Eq.trans (congrFun (congrFun (seq_t (by kernel_rfl) (TS254_23 c) rfl) _) _) (by kernel_rfl)
noncomputable def N254 : FnF := n1 F254
theorem N254_ok [Nu] : FnOk P0 gl 254 N254 := n1_ok namesOk mixedOrders lowOk Tryz.func254 (by kernel_rfl) (by kernel_rfl) (by kernel_rfl) TF254
noncomputable def c255 : Code := codeOf Tryz.f255
noncomputable def k255 : Kt := finK P0 Tryz.f255.results.toList
def d255 : List Nat := []
noncomputable def F255 (c : CF) (a0 a1 : AV) (h : Heap) : Res := opt2 (c 355 [a0,a1] h) fun t7 h1 => some (t7,h1)
theorem TF255 (c : CF) (a0 a1 : AV) (h : Heap) : (rk d255 P0 c 8 c255).1 k255 [] k255 gK (argsTr gl 0 [a0,a1]) h = F255 c a0 a1 h := by kernel_rfl
noncomputable def N255 : FnF := n2 F255
theorem N255_ok [Nu] : FnOk P0 gl 255 N255 := n2_ok namesOk mixedOrders lowOk Tryz.func255 (by kernel_rfl) (by kernel_rfl) (by kernel_rfl) TF255
noncomputable def c256 : Code := codeOf Tryz.f256
noncomputable def k256 : Kt := finK P0 Tryz.f256.results.toList
def d256 : List Nat := []
noncomputable def F256 (c : CF) (a0 a1 : AV) (h : Heap) : Res := opt2 (c 356 [a0,a1] h) fun t10 h1 => opt (fastBin .geq t10 (iL 0)) fun t12 => test t12 (opt (fastCut a0 none (some t10) none) fun t15 => eqH h1 h1 (opt (lenStr a1) fun t19 => opt (fastBin .add t10 t19) fun t20 => opt (fastCut a0 (some t20) none none) fun t21 => eqH h1 h1 (some ((.tup [t15,t21,tL]),h1)))) (some ((.tup [a0,eL,fL]),h1))
theorem TF256 (c : CF) (a0 a1 : AV) (h : Heap) : (rk d256 P0 c 23 c256).1 k256 [] k256 gK (argsTr gl 0 [a0,a1]) h = F256 c a0 a1 h := by kernel_rfl
noncomputable def N256 : FnF := n2 F256
theorem N256_ok [Nu] : FnOk P0 gl 256 N256 := n2_ok namesOk mixedOrders lowOk Tryz.func256 (by kernel_rfl) (by kernel_rfl) (by kernel_rfl) TF256
noncomputable def c258 : Code := codeOf Tryz.f258
noncomputable def k258 : Kt := finK P0 Tryz.f258.results.toList
def d258 : List Nat := []
noncomputable def S258_0 (c : CF) (t0 : AV) (h : Heap) : Res := opt (lenStr t0) fun t14 => opt (fastBin .sub t14 (iL 1)) fun t15 => opt (fastCut t0 (some (iL 1)) (some t15) none) fun t16 => some ((.tup [t16,tL]),h)
theorem TS258_0 (c : CF) : (rk d258 P0 c 17 c258.s2).1 k258 [] k258 gK = L1 (S258_0 c) 0 := by funext s h; kernel_rfl
noncomputable def S258_1 (c : CF) (t0 t11 : AV) (h : Heap) : Res := test t11 (some ((.tup [eL,fL]),h)) (S258_0 c t0 h)
theorem TS258_1 (c : CF) : (rk d258 P0 c 17 c258.snd.fst.snd).1 (L1 (S258_0 c) 0) [] k258 gK = L2 (S258_1 c) 0 11 := by funext s h; kernel_rfl
noncomputable def S258_2 (c : CF) (t0 : AV) (h : Heap) : Res := opt2 (c 147 [t0] h) fun t5 h1 => opt (notX t5) fun t6 => test t6 (S258_1 c t0 tL h1) (opt (fastIndex t0 (iL 0)) fun t9 => opt (fastBin .neq t9 (uL 91)) fun t10 => S258_1 c t0 t10 h1)
theorem TS258_2 (c : CF) : (rk d258 P0 c 17 c258.snd).1 k258 [] k258 gK = L1 (S258_2 c) 0 := Eq.trans (seq_t (by kernel_rfl) (TS258_0 c) (seq_t (by kernel_rfl) (TS258_1 c) rfl)) (by funext s h; kernel_rfl)
noncomputable def F258 (c : CF) (a0 : AV) (h : Heap) : Res := S258_2 c a0 h
theorem TF258 (c : CF) (a0 : AV) (h : Heap) : (rk d258 P0 c 17 c258).1 k258 [] k258 gK (argsTr gl 0 [a0]) h = F258 c a0 h := Eq.trans (congrFun (congrFun (seq_t (by kernel_rfl) (TS258_2 c) rfl) _) _) (by kernel_rfl)
noncomputable def N258 : FnF := n1 F258
theorem N258_ok [Nu] : FnOk P0 gl 258 N258 := n1_ok namesOk mixedOrders lowOk Tryz.func258 (by kernel_rfl) (by kernel_rfl) (by kernel_rfl) TF258
noncomputable def c262 : Code := codeOf Tryz.f262
noncomputable def k262 : Kt := finK P0 Tryz.f262.results.toList
def d262 : List Nat := []
noncomputable def F262 (c : CF) (a0 a1 : AV) (h : Heap) : Res := opt (litBi P0 .max [3,3] 3 [false,true] [a1,(iL 0)]) fun t7 => opt2 (c 265 [a0,t7] h) fun t8 h1 => opt2 (c 71 [t8] h1) fun t9 h2 => some (t9,h2)
theorem TF262 (c : CF) (a0 a1 : AV) (h : Heap) : (rk d262 P0 c 10 c262).1 k262 [] k262 gK (argsTr gl 0 [a0,a1]) h = F262 c a0 a1 h := by kernel_rfl
noncomputable def N262 : FnF := n2 F262
theorem N262_ok [Nu] : FnOk P0 gl 262 N262 := n2_ok namesOk mixedOrders lowOk Tryz.func262 (by kernel_rfl) (by kernel_rfl) (by kernel_rfl) TF262
noncomputable def c264 : Code := codeOf Tryz.f264
noncomputable def k264 : Kt := finK P0 Tryz.f264.results.toList
def d264 : List Nat := [2,7,9,11,12]
noncomputable def F264 (c : CF) (a0 a1 : AV) (h : Heap) : Res := opt (nilCheckX a0) fun t9 => opt (fieldAddrX 2 t9) fun t10 => opt (loadX none t10 h) fun t11 => opt (fastBin .neq t11 (iL 0)) fun t12 => test t12 (none) (opt (nilCheckX a0) fun t15 => opt (fieldAddrX 0 t15) fun t16 => opt (loadX none t16 h) fun t17 => eqH h h (opt (nilCheckX a0) fun t19 => opt (fieldAddrX 1 t19) fun t20 => opt (loadX none t20 h) fun t21 => eqH h h (opt (cutZ 1 t17 (some t21) none none h) fun t22 => eqH h h (opt2 (c 363 [t22] h) fun t23 h1 => eqH h1 h (opt (extractX t23 0) fun t24 => opt (extractX t23 1) fun t25 => opt (extractX t23 2) fun t26 => opt (fastBin .eql t26 (iL 10)) fun t38 => test t38 (none) (opt (fastBin .neq t26 (iL 0)) fun t49 => test t49 (none) (opt (fastBin .gtr t24 a1) fun t60 => test t60 (none) (opt (nilCheckX a0) fun t28 => opt (fieldAddrX 1 t28) fun t29 => opt (loadX none t29 h) fun t30 => opt (fastBin .add t30 t25) fun t32 => opt (nilCheckX a0) fun t33 => opt (fieldAddrX 1 t33) fun t34 => optH (storeX 1 t34 t32 h) fun h2 => some (t24,h2)))))))))
theorem TF264 (c : CF) (a0 a1 : AV) (h : Heap) : (rk d264 P0 c 67 c264).1 k264 [] k264 gK (argsTr gl 0 [a0,a1]) h = F264 c a0 a1 h := by kernel_rfl
noncomputable def N264 : FnF := n2 F264
theorem N264_ok [Nu] : FnOk P0 gl 264 N264 := n2_ok namesOk mixedOrders lowOk Tryz.func264 (by kernel_rfl) (by kernel_rfl) (by kernel_rfl) TF264
noncomputable def c265 : Code := codeOf Tryz.f265
noncomputable def k265 : Kt := finK P0 Tryz.f265.results.toList
def d265 : List Nat := [2,4,5]
noncomputable def F265 (c : CF) (a0 a1 : AV) (h : Heap) : Res := opt (nilCheckX a0) fun t7 => opt (fieldAddrX 2 t7) fun t8 => opt (loadX none t8 h) fun t9 => opt (fastBin .neq t9 (iL 0)) fun t10 => test t10 (none) (opt (nilCheckX a0) fun t13 => opt (fieldAddrX 0 t13) fun t14 => opt (loadX none t14 h) fun t15 => eqH h h (opt (lenS t15) fun t16 => opt (nilCheckX a0) fun t18 => opt (fieldAddrX 1 t18) fun t19 => opt (loadX none t19 h) fun t20 => eqH h h (opt (fastBin .sub t16 t20) fun t21 => opt (fastBin .gtr a1 t21) fun t22 => test t22 (none) (opt (nilCheckX a0) fun t31 => opt (fieldAddrX 0 t31) fun t32 => opt (loadX none t32 h) fun t33 => eqH h h (opt (nilCheckX a0) fun t35 => opt (fieldAddrX 1 t35) fun t36 => opt (loadX none t36 h) fun t37 => eqH h h (opt (nilCheckX a0) fun t39 => opt (fieldAddrX 1 t39) fun t40 => opt (loadX none t40 h) fun t41 => eqH h h (opt (fastBin .add t41 a1) fun t43 => opt (cutZ 1 t33 (some t37) (some t43) none h) fun t44 => eqH h h (opt (nilCheckX a0) fun t46 => opt (fieldAddrX 1 t46) fun t47 => opt (loadX none t47 h) fun t48 => opt (fastBin .add t48 a1) fun t50 => opt (nilCheckX a0) fun t51 => opt (fieldAddrX 1 t51) fun t52 => optH (storeX 1 t52 t50 h) fun h1 => some (t44,h1)))))))))
theorem TF265 (c : CF) (a0 a1 : AV) (h : Heap) : (rk d265 P0 c 54 c265).1 k265 [] k265 gK (argsTr gl 0 [a0,a1]) h = F265 c a0 a1 h := by kernel_rfl
noncomputable def N265 : FnF := n2 F265
theorem N265_ok [Nu] : FnOk P0 gl 265 N265 := n2_ok namesOk mixedOrders lowOk Tryz.func265 (by kernel_rfl) (by kernel_rfl) (by kernel_rfl) TF265
noncomputable def c266 : Code := codeOf Tryz.f266
noncomputable def k266 : Kt := finK P0 Tryz.f266.results.toList
def d266 : List Nat := []
noncomputable def S266_0 (c : CF) (h : Heap) : Res := some ((iL (-1)),h)
theorem TS266_0 (c : CF) : (rk d266 P0 c 19 c266.s2).1 k266 [] k266 gK = L0 (S266_0 c) := by funext s h; kernel_rfl
noncomputable def S266_2b (c : CF) (r1 : A4) (t0 t1 t7 t8 : AV) (h : Heap) : Res := opt (fastBin .lss t8 t7) fun t9 => test t9 (opt (indexAddrS 5 t0 t8 h) fun t14 => opt (loadX (some 5) t14 h) fun t15 => opt2 (callV P0 c t1 [t15] h) fun t16 h1 => test t16 (some (t8,h1)) (opt (fastBin .add t8 (iL 1)) fun t18 => r1 t0 t1 t7 t18 h1)) (S266_0 c h)
theorem TS266_2b (c : CF) (r1 : A4) : (rk d266 P0 c 19 c266.snd.fst.snd.bd.bd).1 (L4 r1 0 1 7 8) [(0,(L0 (S266_0 c)))] k266 gK = L4 (S266_2b c r1) 0 1 7 8 := by funext s h; kernel_rfl
noncomputable def S266_1l (c : CF) : Nat → A4
  | 0 => fun _ _ _ _ _ => none
  | k + 1 => S266_2b c (S266_1l c k)
theorem TS266_1l (c : CF) : (rk d266 P0 c 19 c266.snd.fst.snd.bd).1 (L0 (S266_0 c)) [(0,(L0 (S266_0 c)))] k266 gK = L4 (S266_1l c rounds) 0 1 7 8 := loop_t (by kernel_rfl) (loop_ind (A := fun m => L4 (S266_1l c m) 0 1 7 8) rfl (fun m => TS266_2b c (S266_1l c m)) rounds)
noncomputable def S266_3 (c : CF) (t0 t1 t7 t8 : AV) (h : Heap) : Res := S266_1l c rounds t0 t1 t7 t8 h
theorem TS266_3 (c : CF) : (rk d266 P0 c 19 c266.snd.fst.snd).1 (L0 (S266_0 c)) [] k266 gK = L4 (S266_3 c) 0 1 7 8 := Eq.trans (block_t (id := 0) (by kernel_rfl) (TS266_1l c)) (by funext s h; kernel_rfl)
noncomputable def S266_4 (c : CF) (t0 t1 : AV) (h : Heap) : Res := opt (lenS t0) fun t7 => S266_3 c t0 t1 t7 (iL 0) h
theorem TS266_4 (c : CF) : (rk d266 P0 c 19 c266.snd).1 k266 [] k266 gK = L2 (S266_4 c) 0 1 := Eq.trans (seq_t (by kernel_rfl) (TS266_0 c) (seq_t (by kernel_rfl) (TS266_3 c) rfl)) (by funext s h; kernel_rfl)
noncomputable def F266 (c : CF) (a0 a1 : AV) (h : Heap) : Res := S266_4 c a0 a1 h
theorem TF266 (c : CF) (a0 a1 : AV) (h : Heap) : (rk d266 P0 c 19 c266).1 k266 [] k266 gK (argsTr gl 0 [a0,a1]) h = F266 c a0 a1 h := Eq.trans (congrFun (congrFun (seq_t (by kernel_rfl) (TS266_4 c) rfl) _) _) (by kernel_rfl)
noncomputable def N266 : FnF := n2 F266
theorem N266_ok [Nu] : FnOk P0 gl 266 N266 := n2_ok namesOk mixedOrders lowOk Tryz.func266 (by kernel_rfl) (by kernel_rfl) (by kernel_rfl) TF266
noncomputable def c272 : Code := codeOf Tryz.f272
noncomputable def k272 : Kt := finK P0 Tryz.f272.results.toList
def d272 : List Nat := [2,22,23,25,31,35,36,37,38,39,41,47]
noncomputable def S272_1 (c : CF) (r0 : Nat → A5) (t0 t5 t6 t7 t8 : AV) (h : Heap) : Res := r0 3 t0 t5 t6 t7 t8 h
theorem TS272_1 (c : CF) (r0 : Nat → A5) : (rk d272 P0 c 173 (c272.snd.bd.at_ 0).s4).1 k272 [] k272 (fun l s h => r0 l (s.rd 0) (s.rd 5) (s.rd 6) (s.rd 7) (s.rd 8) h) = L5 (S272_1 c r0) 0 5 6 7 8 := by funext s h; kernel_rfl
noncomputable def S272_2 (c : CF) (r0 : Nat → A5) (t0 t5 t6 t7 t8 t9 t26 : AV) (h : Heap) : Res := test t26 (opt (fastBin .add t7 (iL 1)) fun t42 => r0 0 t0 t5 t6 t42 t8 h) (opt (fastBin .eql t9 (uL 59)) fun t45 => test t45 (r0 1 t0 t5 t6 t7 t8 h) (opt (fastBin .eql t9 (uL 40)) fun t48 => test t48 (opt (buildX [(iL 0),(iL 0),eL] [(0,1),(1,1),(2,1)] [(0,(iL 1)),(1,t7),(2,eL)]) fun t51 => opt2 (bsliceX 3 (.agg [(iL 0),(iL 0),eL]) 1 [(0,t51)] h) fun t52 h1 => opt2 (appendX 3 32 t5 t52 h1) fun t53 h2 => opt (fastBin .add t7 (iL 1)) fun t55 => r0 0 t0 t53 t6 t55 t8 h2) (opt (fastBin .eql t9 (uL 41)) fun t58 => test t58 (opt (buildX [(iL 0),(iL 0),eL] [(0,1),(1,1),(2,1)] [(0,(iL 2)),(1,t7),(2,eL)]) fun t61 => opt2 (bsliceX 3 (.agg [(iL 0),(iL 0),eL]) 1 [(0,t61)] h) fun t62 h3 => opt2 (appendX 3 32 t5 t62 h3) fun t63 h4 => opt (fastBin .add t7 (iL 1)) fun t65 => r0 0 t0 t63 t6 t65 t8 h4) (opt (fastBin .eql t9 (uL 34)) fun t68 => test t68 (opt (fastBin .add t7 (iL 1)) fun t70 => r0 2 t0 t5 nL t70 t8 h) (S272_1 c r0 t0 t5 t6 t7 t8 h)))))
theorem TS272_2 (c : CF) (r0 : Nat → A5) : (rk d272 P0 c 173 (c272.snd.bd.at_ 0).s3.fst.snd.bd.snd).1 (L5 (S272_1 c r0) 0 5 6 7 8) [(0,(L5 (S272_1 c r0) 0 5 6 7 8))] k272 (fun l s h => r0 l (s.rd 0) (s.rd 5) (s.rd 6) (s.rd 7) (s.rd 8) h) = L7 (S272_2 c r0) 0 5 6 7 8 9 26 := by funext s h; kernel_rfl
noncomputable def S272_3 (c : CF) (r0 : Nat → A5) (t0 t5 t6 t7 t8 t9 : AV) (h : Heap) : Res := opt (fastBin .eql t9 (uL 9)) fun t28 => test t28 (S272_2 c r0 t0 t5 t6 t7 t8 t9 tL h) (opt (fastBin .eql t9 (uL 10)) fun t31 => test t31 (S272_2 c r0 t0 t5 t6 t7 t8 t9 tL h) (opt (fastBin .eql t9 (uL 13)) fun t35 => test t35 (S272_2 c r0 t0 t5 t6 t7 t8 t9 tL h) (opt (fastBin .eql t9 (uL 32)) fun t39 => S272_2 c r0 t0 t5 t6 t7 t8 t9 t39 h)))
theorem TS272_3 (c : CF) (r0 : Nat → A5) : (rk d272 P0 c 173 (c272.snd.bd.at_ 0).s3.fst.snd).1 (L5 (S272_1 c r0) 0 5 6 7 8) [] k272 (fun l s h => r0 l (s.rd 0) (s.rd 5) (s.rd 6) (s.rd 7) (s.rd 8) h) = L6 (S272_3 c r0) 0 5 6 7 8 9 := Eq.trans (block_t (id := 0) (by kernel_rfl) (seq_t (by kernel_rfl) (TS272_2 c r0) rfl)) (by funext s h; kernel_rfl)
noncomputable def S272_4 (c : CF) (r0 : Nat → A5) (t0 t5 t6 t7 t8 : AV) (h : Heap) : Res := opt (fastIndex t0 t7) fun t25 => S272_3 c r0 t0 t5 t6 t7 t8 t25 h
theorem TS272_4 (c : CF) (r0 : Nat → A5) : (rk d272 P0 c 173 (c272.snd.bd.at_ 0).s3).1 k272 [] k272 (fun l s h => r0 l (s.rd 0) (s.rd 5) (s.rd 6) (s.rd 7) (s.rd 8) h) = L5 (S272_4 c r0) 0 5 6 7 8 := Eq.trans (seq_t (by kernel_rfl) (TS272_1 c r0) (seq_t (by kernel_rfl) (TS272_3 c r0) rfl)) (by funext s h; kernel_rfl)
noncomputable def S272_5 (c : CF) (r0 : Nat → A5) (t0 t5 t6 t7 : AV) (h : Heap) : Res := S272_4 c r0 t0 t5 t6 t7 t7 h
theorem TS272_5 (c : CF) (r0 : Nat → A5) : (rk d272 P0 c 173 (c272.snd.bd.at_ 0).s2).1 k272 [] k272 (fun l s h => r0 l (s.rd 0) (s.rd 5) (s.rd 6) (s.rd 7) (s.rd 8) h) = L4 (S272_5 c r0) 0 5 6 7 := Eq.trans (seq_t (by kernel_rfl) (TS272_4 c r0) rfl) (by funext s h; kernel_rfl)
noncomputable def S272_6 (c : CF) (r0 : Nat → A5) (t0 t5 t6 t7 : AV) (h : Heap) : Res := opt (lenStr t0) fun t19 => opt (fastBin .eql t7 t19) fun t20 => test t20 (some ((.tup [t5,(iL 0),(iL 0)]),h)) (S272_5 c r0 t0 t5 t6 t7 h)
theorem TS272_6 (c : CF) (r0 : Nat → A5) : (rk d272 P0 c 173 (c272.snd.bd.at_ 0).snd).1 k272 [] k272 (fun l s h => r0 l (s.rd 0) (s.rd 5) (s.rd 6) (s.rd 7) (s.rd 8) h) = L4 (S272_6 c r0) 0 5 6 7 := Eq.trans (seq_t (by kernel_rfl) (TS272_5 c r0) rfl) (by funext s h; kernel_rfl)
noncomputable def S272_7L0_ (c : CF) (r0 : Nat → A5) (t0 t5 t6 t7 t8 : AV) (h : Heap) : Res := S272_6 c r0 t0 t5 t6 t7 h
theorem TS272_7L0_ (c : CF) (r0 : Nat → A5) : (rk d272 P0 c 173 (c272.snd.bd.at_ 0)).1 k272 [] k272 (fun l s h => r0 l (s.rd 0) (s.rd 5) (s.rd 6) (s.rd 7) (s.rd 8) h) = L5 (S272_7L0_ c r0) 0 5 6 7 8 := Eq.trans (seq_t (by kernel_rfl) (TS272_6 c r0) rfl) (by funext s h; kernel_rfl)
noncomputable def S272_8L1_ (c : CF) (r0 : Nat → A5) (t0 t5 t6 t7 t8 : AV) (h : Heap) : Res := none
theorem TS272_8L1_ (c : CF) (r0 : Nat → A5) : (rk d272 P0 c 173 (c272.snd.bd.at_ 1)).1 k272 [] k272 (fun l s h => r0 l (s.rd 0) (s.rd 5) (s.rd 6) (s.rd 7) (s.rd 8) h) = L5 (S272_8L1_ c r0) 0 5 6 7 8 := by funext s h; kernel_rfl
noncomputable def S272_9 (c : CF) (r0 : Nat → A5) (t0 t5 t6 t7 t8 : AV) (h : Heap) : Res := r0 2 t0 t5 t6 t7 t8 h
theorem TS272_9 (c : CF) (r0 : Nat → A5) : (rk d272 P0 c 173 (c272.snd.bd.at_ 2).s3).1 k272 [] k272 (fun l s h => r0 l (s.rd 0) (s.rd 5) (s.rd 6) (s.rd 7) (s.rd 8) h) = L5 (S272_9 c r0) 0 5 6 7 8 := by funext s h; kernel_rfl
noncomputable def S272_10 (c : CF) (r0 : Nat → A5) (t0 t5 t6 t7 t8 t10 t135 : AV) (h : Heap) : Res := test t135 (none) (opt2 (bsliceX 1 (uL 0) 1 [(0,t10)] h) fun t93 h1 => opt2 (appendX 1 1 t6 t93 h1) fun t94 h2 => opt (fastBin .add t7 (iL 1)) fun t96 => S272_9 c r0 t0 t5 t94 t96 t8 h2)
theorem TS272_10 (c : CF) (r0 : Nat → A5) : (rk d272 P0 c 173 (c272.snd.bd.at_ 2).s2.fst.snd.bd.snd.els.snd.els.snd).1 (L5 (S272_9 c r0) 0 5 6 7 8) [(1,(L5 (S272_9 c r0) 0 5 6 7 8))] k272 (fun l s h => r0 l (s.rd 0) (s.rd 5) (s.rd 6) (s.rd 7) (s.rd 8) h) = L7 (S272_10 c r0) 0 5 6 7 8 10 135 := by funext s h; kernel_rfl
noncomputable def S272_11 (c : CF) (r0 : Nat → A5) (t0 t5 t6 t7 t8 t10 : AV) (h : Heap) : Res := opt (fastBin .lss t10 (uL 32)) fun t137 => test t137 (S272_10 c r0 t0 t5 t6 t7 t8 t10 tL h) (opt (fastBin .gtr t10 (uL 126)) fun t140 => S272_10 c r0 t0 t5 t6 t7 t8 t10 t140 h)
theorem TS272_11 (c : CF) (r0 : Nat → A5) : (rk d272 P0 c 173 (c272.snd.bd.at_ 2).s2.fst.snd.bd.snd.els.snd.els).1 (L5 (S272_9 c r0) 0 5 6 7 8) [(1,(L5 (S272_9 c r0) 0 5 6 7 8))] k272 (fun l s h => r0 l (s.rd 0) (s.rd 5) (s.rd 6) (s.rd 7) (s.rd 8) h) = L6 (S272_11 c r0) 0 5 6 7 8 10 := Eq.trans (seq_t (by kernel_rfl) (TS272_10 c r0) rfl) (by funext s h; kernel_rfl)
noncomputable def S272_12 (c : CF) (r0 : Nat → A5) (t0 t5 t6 t7 t8 t10 t113 : AV) (h : Heap) : Res := test t113 (none) (S272_11 c r0 t0 t5 t6 t7 t8 t10 h)
theorem TS272_12 (c : CF) (r0 : Nat → A5) : (rk d272 P0 c 173 (c272.snd.bd.at_ 2).s2.fst.snd.bd.snd.els.snd).1 (L5 (S272_9 c r0) 0 5 6 7 8) [(1,(L5 (S272_9 c r0) 0 5 6 7 8))] k272 (fun l s h => r0 l (s.rd 0) (s.rd 5) (s.rd 6) (s.rd 7) (s.rd 8) h) = L7 (S272_12 c r0) 0 5 6 7 8 10 113 := Eq.trans (cond_t (by kernel_rfl) rfl (TS272_11 c r0)) (by funext s h; kernel_rfl)
noncomputable def S272_13 (c : CF) (r0 : Nat → A5) (t0 t5 t6 t7 t8 t10 : AV) (h : Heap) : Res := opt (fastBin .eql t10 (uL 92)) fun t115 => S272_12 c r0 t0 t5 t6 t7 t8 t10 t115 h
theorem TS272_13 (c : CF) (r0 : Nat → A5) : (rk d272 P0 c 173 (c272.snd.bd.at_ 2).s2.fst.snd.bd.snd.els).1 (L5 (S272_9 c r0) 0 5 6 7 8) [(1,(L5 (S272_9 c r0) 0 5 6 7 8))] k272 (fun l s h => r0 l (s.rd 0) (s.rd 5) (s.rd 6) (s.rd 7) (s.rd 8) h) = L6 (S272_13 c r0) 0 5 6 7 8 10 := Eq.trans (seq_t (by kernel_rfl) (TS272_12 c r0) rfl) (by funext s h; kernel_rfl)
noncomputable def S272_14 (c : CF) (r0 : Nat → A5) (t0 t5 t6 t7 t8 t10 t97 : AV) (h : Heap) : Res := test t97 (opt (lenS t6) fun t101 => opt (fastBin .gtr t101 (iL 200)) fun t102 => test t102 (none) (opt (b2sX t6 h) fun t107 => opt (buildX [(iL 0),(iL 0),eL] [(0,1),(1,1),(2,1)] [(0,(iL 4)),(1,t8),(2,t107)]) fun t108 => opt2 (bsliceX 3 (.agg [(iL 0),(iL 0),eL]) 1 [(0,t108)] h) fun t109 h1 => opt2 (appendX 3 32 t5 t109 h1) fun t110 h2 => opt (fastBin .add t7 (iL 1)) fun t112 => r0 0 t0 t110 t6 t112 t8 h2)) (S272_13 c r0 t0 t5 t6 t7 t8 t10 h)
theorem TS272_14 (c : CF) (r0 : Nat → A5) : (rk d272 P0 c 173 (c272.snd.bd.at_ 2).s2.fst.snd.bd.snd).1 (L5 (S272_9 c r0) 0 5 6 7 8) [(1,(L5 (S272_9 c r0) 0 5 6 7 8))] k272 (fun l s h => r0 l (s.rd 0) (s.rd 5) (s.rd 6) (s.rd 7) (s.rd 8) h) = L7 (S272_14 c r0) 0 5 6 7 8 10 97 := Eq.trans (cond_t (by kernel_rfl) rfl (TS272_13 c r0)) (by funext s h; kernel_rfl)
noncomputable def S272_15 (c : CF) (r0 : Nat → A5) (t0 t5 t6 t7 t8 t10 : AV) (h : Heap) : Res := opt (fastBin .eql t10 (uL 34)) fun t99 => S272_14 c r0 t0 t5 t6 t7 t8 t10 t99 h
theorem TS272_15 (c : CF) (r0 : Nat → A5) : (rk d272 P0 c 173 (c272.snd.bd.at_ 2).s2.fst.snd).1 (L5 (S272_9 c r0) 0 5 6 7 8) [] k272 (fun l s h => r0 l (s.rd 0) (s.rd 5) (s.rd 6) (s.rd 7) (s.rd 8) h) = L6 (S272_15 c r0) 0 5 6 7 8 10 := Eq.trans (block_t (id := 1) (by kernel_rfl) (seq_t (by kernel_rfl) (TS272_14 c r0) rfl)) (by funext s h; kernel_rfl)
noncomputable def S272_16 (c : CF) (r0 : Nat → A5) (t0 t5 t6 t7 t8 : AV) (h : Heap) : Res := opt (fastIndex t0 t7) fun t90 => S272_15 c r0 t0 t5 t6 t7 t8 t90 h
theorem TS272_16 (c : CF) (r0 : Nat → A5) : (rk d272 P0 c 173 (c272.snd.bd.at_ 2).s2).1 k272 [] k272 (fun l s h => r0 l (s.rd 0) (s.rd 5) (s.rd 6) (s.rd 7) (s.rd 8) h) = L5 (S272_16 c r0) 0 5 6 7 8 := Eq.trans (seq_t (by kernel_rfl) (TS272_9 c r0) (seq_t (by kernel_rfl) (TS272_15 c r0) rfl)) (by funext s h; kernel_rfl)
noncomputable def S272_17 (c : CF) (r0 : Nat → A5) (t0 t5 t6 t7 t8 : AV) (h : Heap) : Res := opt (lenStr t0) fun t85 => opt (fastBin .eql t7 t85) fun t86 => test t86 (none) (S272_16 c r0 t0 t5 t6 t7 t8 h)
theorem TS272_17 (c : CF) (r0 : Nat → A5) : (rk d272 P0 c 173 (c272.snd.bd.at_ 2).snd).1 k272 [] k272 (fun l s h => r0 l (s.rd 0) (s.rd 5) (s.rd 6) (s.rd 7) (s.rd 8) h) = L5 (S272_17 c r0) 0 5 6 7 8 := Eq.trans (seq_t (by kernel_rfl) (TS272_16 c r0) rfl) (by funext s h; kernel_rfl)
noncomputable def S272_18L2_ (c : CF) (r0 : Nat → A5) (t0 t5 t6 t7 t8 : AV) (h : Heap) : Res := S272_17 c r0 t0 t5 t6 t7 t8 h
theorem TS272_18L2_ (c : CF) (r0 : Nat → A5) : (rk d272 P0 c 173 (c272.snd.bd.at_ 2)).1 k272 [] k272 (fun l s h => r0 l (s.rd 0) (s.rd 5) (s.rd 6) (s.rd 7) (s.rd 8) h) = L5 (S272_18L2_ c r0) 0 5 6 7 8 := Eq.trans (seq_t (by kernel_rfl) (TS272_17 c r0) rfl) (by funext s h; kernel_rfl)
noncomputable def S272_19 (c : CF) (r0 : Nat → A5) (t0 t5 t6 t7 t8 : AV) (h : Heap) : Res := opt (fastCut t0 (some t8) (some t7) none) fun t169 => opt (buildX [(iL 0),(iL 0),eL] [(0,1),(1,1),(2,1)] [(0,(iL 3)),(1,t8),(2,t169)]) fun t170 => opt2 (bsliceX 3 (.agg [(iL 0),(iL 0),eL]) 1 [(0,t170)] h) fun t171 h1 => opt2 (appendX 3 32 t5 t171 h1) fun t172 h2 => r0 0 t0 t172 t6 t7 t8 h2
theorem TS272_19 (c : CF) (r0 : Nat → A5) : (rk d272 P0 c 173 (c272.snd.bd.at_ 3).s2).1 k272 [] k272 (fun l s h => r0 l (s.rd 0) (s.rd 5) (s.rd 6) (s.rd 7) (s.rd 8) h) = L5 (S272_19 c r0) 0 5 6 7 8 := by funext s h; kernel_rfl
noncomputable def S272_20 (c : CF) (r0 : Nat → A5) (t0 t5 t6 t7 t8 t156 : AV) (h : Heap) : Res := test t156 (none) (opt (fastBin .add t7 (iL 1)) fun t151 => r0 3 t0 t5 t6 t151 t8 h)
theorem TS272_20 (c : CF) (r0 : Nat → A5) : (rk d272 P0 c 173 (c272.snd.bd.at_ 3).snd.fst.snd.thn.snd.bd.snd.els.snd).1 (L5 (S272_19 c r0) 0 5 6 7 8) [(2,(L5 (S272_19 c r0) 0 5 6 7 8))] k272 (fun l s h => r0 l (s.rd 0) (s.rd 5) (s.rd 6) (s.rd 7) (s.rd 8) h) = L6 (S272_20 c r0) 0 5 6 7 8 156 := by funext s h; kernel_rfl
noncomputable def S272_21 (c : CF) (r0 : Nat → A5) (t0 t5 t6 t7 t8 t13 : AV) (h : Heap) : Res := opt (fastBin .lss t13 (uL 33)) fun t158 => test t158 (S272_20 c r0 t0 t5 t6 t7 t8 tL h) (opt (fastBin .gtr t13 (uL 126)) fun t161 => S272_20 c r0 t0 t5 t6 t7 t8 t161 h)
theorem TS272_21 (c : CF) (r0 : Nat → A5) : (rk d272 P0 c 173 (c272.snd.bd.at_ 3).snd.fst.snd.thn.snd.bd.snd.els).1 (L5 (S272_19 c r0) 0 5 6 7 8) [(2,(L5 (S272_19 c r0) 0 5 6 7 8))] k272 (fun l s h => r0 l (s.rd 0) (s.rd 5) (s.rd 6) (s.rd 7) (s.rd 8) h) = L6 (S272_21 c r0) 0 5 6 7 8 13 := Eq.trans (seq_t (by kernel_rfl) (TS272_20 c r0) rfl) (by funext s h; kernel_rfl)
noncomputable def S272_22 (c : CF) (r0 : Nat → A5) (t0 t5 t6 t7 t8 t13 t152 : AV) (h : Heap) : Res := test t152 (S272_19 c r0 t0 t5 t6 t7 t8 h) (S272_21 c r0 t0 t5 t6 t7 t8 t13 h)
theorem TS272_22 (c : CF) (r0 : Nat → A5) : (rk d272 P0 c 173 (c272.snd.bd.at_ 3).snd.fst.snd.thn.snd.bd.snd).1 (L5 (S272_19 c r0) 0 5 6 7 8) [(2,(L5 (S272_19 c r0) 0 5 6 7 8))] k272 (fun l s h => r0 l (s.rd 0) (s.rd 5) (s.rd 6) (s.rd 7) (s.rd 8) h) = L7 (S272_22 c r0) 0 5 6 7 8 13 152 := Eq.trans (cond_t (by kernel_rfl) rfl (TS272_21 c r0)) (by funext s h; kernel_rfl)
noncomputable def S272_23 (c : CF) (r0 : Nat → A5) (t0 t5 t6 t7 t8 t13 : AV) (h : Heap) : Res := opt2 (c 368 [(sL [9,10,13,32,59,40,41,34]),t13] h) fun t154 h1 => opt (fastBin .geq t154 (iL 0)) fun t155 => S272_22 c r0 t0 t5 t6 t7 t8 t13 t155 h1
theorem TS272_23 (c : CF) (r0 : Nat → A5) : (rk d272 P0 c 173 (c272.snd.bd.at_ 3).snd.fst.snd.thn.snd).1 (L5 (S272_19 c r0) 0 5 6 7 8) [] k272 (fun l s h => r0 l (s.rd 0) (s.rd 5) (s.rd 6) (s.rd 7) (s.rd 8) h) = L6 (S272_23 c r0) 0 5 6 7 8 13 := Eq.trans (block_t (id := 2) (by kernel_rfl) (seq_t (by kernel_rfl) (TS272_22 c r0) rfl)) (by funext s h; kernel_rfl)
noncomputable def S272_24 (c : CF) (r0 : Nat → A5) (t0 t5 t6 t7 t8 : AV) (h : Heap) : Res := opt (fastIndex t0 t7) fun t149 => S272_23 c r0 t0 t5 t6 t7 t8 t149 h
theorem TS272_24 (c : CF) (r0 : Nat → A5) : (rk d272 P0 c 173 (c272.snd.bd.at_ 3).snd.fst.snd.thn).1 (L5 (S272_19 c r0) 0 5 6 7 8) [] k272 (fun l s h => r0 l (s.rd 0) (s.rd 5) (s.rd 6) (s.rd 7) (s.rd 8) h) = L5 (S272_24 c r0) 0 5 6 7 8 := Eq.trans (seq_t (by kernel_rfl) (TS272_23 c r0) rfl) (by funext s h; kernel_rfl)
noncomputable def S272_25 (c : CF) (r0 : Nat → A5) (t0 t5 t6 t7 t8 t146 : AV) (h : Heap) : Res := test t146 (S272_24 c r0 t0 t5 t6 t7 t8 h) (S272_19 c r0 t0 t5 t6 t7 t8 h)
theorem TS272_25 (c : CF) (r0 : Nat → A5) : (rk d272 P0 c 173 (c272.snd.bd.at_ 3).snd.fst.snd).1 (L5 (S272_19 c r0) 0 5 6 7 8) [] k272 (fun l s h => r0 l (s.rd 0) (s.rd 5) (s.rd 6) (s.rd 7) (s.rd 8) h) = L6 (S272_25 c r0) 0 5 6 7 8 146 := Eq.trans (cond_t (by kernel_rfl) (TS272_24 c r0) rfl) (by funext s h; kernel_rfl)
noncomputable def S272_26 (c : CF) (r0 : Nat → A5) (t0 t5 t6 t7 t8 : AV) (h : Heap) : Res := opt (lenStr t0) fun t145 => opt (fastBin .lss t7 t145) fun t146 => S272_25 c r0 t0 t5 t6 t7 t8 t146 h
theorem TS272_26 (c : CF) (r0 : Nat → A5) : (rk d272 P0 c 173 (c272.snd.bd.at_ 3).snd).1 k272 [] k272 (fun l s h => r0 l (s.rd 0) (s.rd 5) (s.rd 6) (s.rd 7) (s.rd 8) h) = L5 (S272_26 c r0) 0 5 6 7 8 := Eq.trans (seq_t (by kernel_rfl) (TS272_19 c r0) (seq_t (by kernel_rfl) (TS272_25 c r0) rfl)) (by funext s h; kernel_rfl)
noncomputable def S272_27L3_ (c : CF) (r0 : Nat → A5) (t0 t5 t6 t7 t8 : AV) (h : Heap) : Res := S272_26 c r0 t0 t5 t6 t7 t8 h
theorem TS272_27L3_ (c : CF) (r0 : Nat → A5) : (rk d272 P0 c 173 (c272.snd.bd.at_ 3)).1 k272 [] k272 (fun l s h => r0 l (s.rd 0) (s.rd 5) (s.rd 6) (s.rd 7) (s.rd 8) h) = L5 (S272_27L3_ c r0) 0 5 6 7 8 := Eq.trans (seq_t (by kernel_rfl) (TS272_26 c r0) rfl) (by funext s h; kernel_rfl)
noncomputable def S272_0g (c : CF) : Nat → Nat → A5
  | 0 => fun _ _ _ _ _ _ _ => none
  | k + 1 => fun l => match l with
    | 0 => S272_7L0_ c (S272_0g c k)
    | 1 => S272_8L1_ c (S272_0g c k)
    | 2 => S272_18L2_ c (S272_0g c k)
    | 3 => S272_27L3_ c (S272_0g c k)
    | _ => fun _ _ _ _ _ _ => none
theorem TS272_0g (c : CF) : jumpK (fun l kg' => match (rk d272 P0 c 173 c272.snd.bd).2 l with | some f => some (f k272 [] k272 kg') | none => none) gK rounds = fun l s h => S272_0g c rounds l (s.rd 0) (s.rd 5) (s.rd 6) (s.rd 7) (s.rd 8) h := jump_ind (J := fun m => fun l s h => S272_0g c m l (s.rd 0) (s.rd 5) (s.rd 6) (s.rd 7) (s.rd 8) h) rfl (fun m l => match l with
    | 0 => by rw [show findLabel c272.snd.bd 0 = some (c272.snd.bd.at_ 0) by kernel_rfl]; exact TS272_7L0_ c (S272_0g c m)
    | 1 => by rw [show findLabel c272.snd.bd 1 = some (c272.snd.bd.at_ 1) by kernel_rfl]; exact TS272_8L1_ c (S272_0g c m)
    | 2 => by rw [show findLabel c272.snd.bd 2 = some (c272.snd.bd.at_ 2) by kernel_rfl]; exact TS272_18L2_ c (S272_0g c m)
    | 3 => by rw [show findLabel c272.snd.bd 3 = some (c272.snd.bd.at_ 3) by kernel_rfl]; exact TS272_27L3_ c (S272_0g c m)
    | l + 4 => by rw [show findLabel c272.snd.bd (l + 4) = none by kernel_rfl]; rfl) rounds
noncomputable def S272_28 (c : CF) (t0 t5 t6 t7 t8 : AV) (h : Heap) : Res := S272_0g c rounds 3 t0 t5 t6 t7 t8 h
theorem TS272_28 (c : CF) : (rk d272 P0 c 173 c272.snd.bd.s8).1 k272 [] k272 (fun l s h => S272_0g c rounds l (s.rd 0) (s.rd 5) (s.rd 6) (s.rd 7) (s.rd 8) h) = L5 (S272_28 c) 0 5 6 7 8 := by funext s h; kernel_rfl
noncomputable def S272_29 (c : CF) (t0 t5 t6 t7 t8 t9 t26 : AV) (h : Heap) : Res := test t26 (opt (fastBin .add t7 (iL 1)) fun t42 => S272_0g c rounds 0 t0 t5 t6 t42 t8 h) (opt (fastBin .eql t9 (uL 59)) fun t45 => test t45 (S272_0g c rounds 1 t0 t5 t6 t7 t8 h) (opt (fastBin .eql t9 (uL 40)) fun t48 => test t48 (opt (buildX [(iL 0),(iL 0),eL] [(0,1),(1,1),(2,1)] [(0,(iL 1)),(1,t7),(2,eL)]) fun t51 => opt2 (bsliceX 3 (.agg [(iL 0),(iL 0),eL]) 1 [(0,t51)] h) fun t52 h1 => opt2 (appendX 3 32 t5 t52 h1) fun t53 h2 => opt (fastBin .add t7 (iL 1)) fun t55 => S272_0g c rounds 0 t0 t53 t6 t55 t8 h2) (opt (fastBin .eql t9 (uL 41)) fun t58 => test t58 (opt (buildX [(iL 0),(iL 0),eL] [(0,1),(1,1),(2,1)] [(0,(iL 2)),(1,t7),(2,eL)]) fun t61 => opt2 (bsliceX 3 (.agg [(iL 0),(iL 0),eL]) 1 [(0,t61)] h) fun t62 h3 => opt2 (appendX 3 32 t5 t62 h3) fun t63 h4 => opt (fastBin .add t7 (iL 1)) fun t65 => S272_0g c rounds 0 t0 t63 t6 t65 t8 h4) (opt (fastBin .eql t9 (uL 34)) fun t68 => test t68 (opt (fastBin .add t7 (iL 1)) fun t70 => S272_0g c rounds 2 t0 t5 nL t70 t8 h) (S272_28 c t0 t5 t6 t7 t8 h)))))
theorem TS272_29 (c : CF) : (rk d272 P0 c 173 c272.snd.bd.s7.fst.snd.bd.snd).1 (L5 (S272_28 c) 0 5 6 7 8) [(0,(L5 (S272_28 c) 0 5 6 7 8))] k272 (fun l s h => S272_0g c rounds l (s.rd 0) (s.rd 5) (s.rd 6) (s.rd 7) (s.rd 8) h) = L7 (S272_29 c) 0 5 6 7 8 9 26 := by funext s h; kernel_rfl
noncomputable def S272_30 (c : CF) (t0 t5 t6 t7 t8 t9 : AV) (h : Heap) : Res := opt (fastBin .eql t9 (uL 9)) fun t28 => test t28 (S272_29 c t0 t5 t6 t7 t8 t9 tL h) (opt (fastBin .eql t9 (uL 10)) fun t31 => test t31 (S272_29 c t0 t5 t6 t7 t8 t9 tL h) (opt (fastBin .eql t9 (uL 13)) fun t35 => test t35 (S272_29 c t0 t5 t6 t7 t8 t9 tL h) (opt (fastBin .eql t9 (uL 32)) fun t39 => S272_29 c t0 t5 t6 t7 t8 t9 t39 h)))
theorem TS272_30 (c : CF) : (rk d272 P0 c 173 c272.snd.bd.s7.fst.snd).1 (L5 (S272_28 c) 0 5 6 7 8) [] k272 (fun l s h => S272_0g c rounds l (s.rd 0) (s.rd 5) (s.rd 6) (s.rd 7) (s.rd 8) h) = L6 (S272_30 c) 0 5 6 7 8 9 := Eq.trans (block_t (id := 0) (by kernel_rfl) (seq_t (by kernel_rfl) (TS272_29 c) rfl)) (by funext s h; kernel_rfl)
noncomputable def S272_31 (c : CF) (t0 t5 t6 t7 t8 : AV) (h : Heap) : Res := opt (fastIndex t0 t7) fun t25 => S272_30 c t0 t5 t6 t7 t8 t25 h
theorem TS272_31 (c : CF) : (rk d272 P0 c 173 c272.snd.bd.s7).1 k272 [] k272 (fun l s h => S272_0g c rounds l (s.rd 0) (s.rd 5) (s.rd 6) (s.rd 7) (s.rd 8) h) = L5 (S272_31 c) 0 5 6 7 8 := Eq.trans (seq_t (by kernel_rfl) (TS272_28 c) (seq_t (by kernel_rfl) (TS272_30 c) rfl)) (by funext s h; kernel_rfl)
noncomputable def S272_32 (c : CF) (t0 t5 t6 t7 : AV) (h : Heap) : Res := S272_31 c t0 t5 t6 t7 t7 h
theorem TS272_32 (c : CF) : (rk d272 P0 c 173 c272.snd.bd.s6).1 k272 [] k272 (fun l s h => S272_0g c rounds l (s.rd 0) (s.rd 5) (s.rd 6) (s.rd 7) (s.rd 8) h) = L4 (S272_32 c) 0 5 6 7 := Eq.trans (seq_t (by kernel_rfl) (TS272_31 c) rfl) (by funext s h; kernel_rfl)
noncomputable def S272_33 (c : CF) (t0 t5 t6 t7 : AV) (h : Heap) : Res := opt (lenStr t0) fun t19 => opt (fastBin .eql t7 t19) fun t20 => test t20 (some ((.tup [t5,(iL 0),(iL 0)]),h)) (S272_32 c t0 t5 t6 t7 h)
theorem TS272_33 (c : CF) : (rk d272 P0 c 173 c272.snd.bd.s5).1 k272 [] k272 (fun l s h => S272_0g c rounds l (s.rd 0) (s.rd 5) (s.rd 6) (s.rd 7) (s.rd 8) h) = L4 (S272_33 c) 0 5 6 7 := Eq.trans (seq_t (by kernel_rfl) (TS272_32 c) rfl) (by funext s h; kernel_rfl)
noncomputable def S272_34 (c : CF) (t0 t5 t6 t7 : AV) (h : Heap) : Res := S272_33 c t0 t5 t6 t7 h
theorem TS272_34 (c : CF) : (rk d272 P0 c 173 c272.snd.bd.s4).1 k272 [] k272 (fun l s h => S272_0g c rounds l (s.rd 0) (s.rd 5) (s.rd 6) (s.rd 7) (s.rd 8) h) = L4 (S272_34 c) 0 5 6 7 := Eq.trans (seq_t (by kernel_rfl) (TS272_33 c) rfl) (by funext s h; kernel_rfl)
noncomputable def S272_35 (c : CF) (t0 t5 t6 : AV) (h : Heap) : Res := S272_34 c t0 t5 t6 (iL 0) h
theorem TS272_35 (c : CF) : (rk d272 P0 c 173 c272.snd.bd.s3).1 k272 [] k272 (fun l s h => S272_0g c rounds l (s.rd 0) (s.rd 5) (s.rd 6) (s.rd 7) (s.rd 8) h) = L3 (S272_35 c) 0 5 6 := Eq.trans (seq_t (by kernel_rfl) (TS272_34 c) rfl) (by funext s h; kernel_rfl)
noncomputable def S272_36 (c : CF) (t0 t5 : AV) (h : Heap) : Res := S272_35 c t0 t5 nL h
theorem TS272_36 (c : CF) : (rk d272 P0 c 173 c272.snd.bd.s2).1 k272 [] k272 (fun l s h => S272_0g c rounds l (s.rd 0) (s.rd 5) (s.rd 6) (s.rd 7) (s.rd 8) h) = L2 (S272_36 c) 0 5 := Eq.trans (seq_t (by kernel_rfl) (TS272_35 c) rfl) (by funext s h; kernel_rfl)
noncomputable def S272_37 (c : CF) (t0 : AV) (h : Heap) : Res := S272_36 c t0 nL h
theorem TS272_37 (c : CF) : (rk d272 P0 c 173 c272.snd.bd.snd).1 k272 [] k272 (fun l s h => S272_0g c rounds l (s.rd 0) (s.rd 5) (s.rd 6) (s.rd 7) (s.rd 8) h) = L1 (S272_37 c) 0 := Eq.trans (seq_t (by kernel_rfl) (TS272_36 c) rfl) (by funext s h; kernel_rfl)
noncomputable def S272_38 (c : CF) (t0 : AV) (h : Heap) : Res := opt (lenStr t0) fun t15 => opt (fastBin .gtr t15 (iL 8192)) fun t16 => test t16 (none) (S272_37 c t0 h)
theorem TS272_38 (c : CF) : (rk d272 P0 c 173 c272.snd).1 k272 [] k272 gK = L1 (S272_38 c) 0 := Eq.trans (scope_t (by kernel_rfl) (TS272_0g c) (seq_t (by kernel_rfl) (TS272_37 c) rfl)) (by funext s h; kernel_rfl)
noncomputable def F272 (c : CF) (a0 : AV) (h : Heap) : Res := S272_38 c a0 h
theorem TF272 (c : CF) (a0 : AV) (h : Heap) : (rk d272 P0 c 173 c272).1 k272 [] k272 gK (argsTr gl 0 [a0]) h = F272 c a0 h := Eq.trans (congrFun (congrFun (seq_t (by kernel_rfl) (TS272_38 c) rfl) _) _) (by kernel_rfl)
noncomputable def N272 : FnF := n1 F272
theorem N272_ok [Nu] : FnOk P0 gl 272 N272 := n1_ok namesOk mixedOrders lowOk Tryz.func272 (by kernel_rfl) (by kernel_rfl) (by kernel_rfl) TF272
noncomputable def c273 : Code := codeOf Tryz.f273
noncomputable def k273 : Kt := finK P0 Tryz.f273.results.toList
def d273 : List Nat := []
noncomputable def F273 (c : CF) (a0 a1 : AV) (h : Heap) : Res := opt2 (c 369 [a0,a1] h) fun t7 h1 => opt (fastBin .geq t7 (iL 0)) fun t8 => some (t8,h1)
theorem TF273 (c : CF) (a0 a1 : AV) (h : Heap) : (rk d273 P0 c 9 c273).1 k273 [] k273 gK (argsTr gl 0 [a0,a1]) h = F273 c a0 a1 h := by kernel_rfl
noncomputable def N273 : FnF := n2 F273
theorem N273_ok [Nu] : FnOk P0 gl 273 N273 := n2_ok namesOk mixedOrders lowOk Tryz.func273 (by kernel_rfl) (by kernel_rfl) (by kernel_rfl) TF273
noncomputable def c274 : Code := codeOf Tryz.f274
noncomputable def k274 : Kt := finK P0 Tryz.f274.results.toList
def d274 : List Nat := []
noncomputable def F274 (c : CF) (a0 : AV) (h : Heap) : Res := opt2 (box a0 h) fun t1 h1 => opt (fieldAddrX 0 t1) fun t3 => opt (loadX none t3 h1) fun t4 => opt (fastBin .neq t4 (iL 3)) fun t5 => some (t5,h1)
theorem TF274 (c : CF) (a0 : AV) (h : Heap) : (rk d274 P0 c 6 c274).1 k274 [] k274 gK (argsTr gl 0 [a0]) h = F274 c a0 h := by kernel_rfl
noncomputable def N274 : FnF := n1 F274
theorem N274_ok [Nu] : FnOk P0 gl 274 N274 := n1_ok namesOk mixedOrders lowOk Tryz.func274 (by kernel_rfl) (by kernel_rfl) (by kernel_rfl) TF274
noncomputable def c275 : Code := codeOf Tryz.f275
noncomputable def k275 : Kt := finK P0 Tryz.f275.results.toList
def d275 : List Nat := [6]
noncomputable def S275_0 (c : CF) (t0 : AV) (h : Heap) : Res := opt (fastBin .neq t0 eL) fun t34 => test t34 (opt (lenStr t0) fun t37 => opt (fastBin .leq t37 (iL 24)) fun t38 => some (t38,h)) (some (fL,h))
theorem TS275_0 (c : CF) : (rk d275 P0 c 40 c275.s2).1 k275 [] k275 gK = L1 (S275_0 c) 0 := by funext s h; kernel_rfl
noncomputable def S275_2b (c : CF) (r1 : A3) (t0 t6 t7 : AV) (h : Heap) : Res := opt (fastBin .lss t7 t6) fun t8 => test t8 (opt (fastIndex t0 t7) fun t12 => opt2 (c 370 [t12] h) fun t14 h1 => opt (notX t14) fun t15 => test t15 (opt (fastBin .neq t12 (uL 95)) fun t18 => test t18 (opt (fastBin .eql t7 (iL 0)) fun t22 => test t22 (none) (opt (fastBin .lss t12 (uL 48)) fun t25 => test t25 (none) (opt (fastBin .gtr t12 (uL 57)) fun t29 => test t29 (none) (opt (fastBin .add t7 (iL 1)) fun t32 => r1 t0 t6 t32 h1)))) (opt (fastBin .add t7 (iL 1)) fun t32_1 => r1 t0 t6 t32_1 h1)) (opt (fastBin .add t7 (iL 1)) fun t32_2 => r1 t0 t6 t32_2 h1)) (S275_0 c t0 h)
theorem TS275_2b (c : CF) (r1 : A3) : (rk d275 P0 c 40 c275.snd.fst.snd.bd.bd).1 (L3 r1 0 6 7) [(0,(L1 (S275_0 c) 0))] k275 gK = L3 (S275_2b c r1) 0 6 7 := by funext s h; kernel_rfl
noncomputable def S275_1l (c : CF) : Nat → A3
  | 0 => fun _ _ _ _ => none
  | k + 1 => S275_2b c (S275_1l c k)
theorem TS275_1l (c : CF) : (rk d275 P0 c 40 c275.snd.fst.snd.bd).1 (L1 (S275_0 c) 0) [(0,(L1 (S275_0 c) 0))] k275 gK = L3 (S275_1l c rounds) 0 6 7 := loop_t (by kernel_rfl) (loop_ind (A := fun m => L3 (S275_1l c m) 0 6 7) rfl (fun m => TS275_2b c (S275_1l c m)) rounds)
noncomputable def S275_3 (c : CF) (t0 t6 t7 : AV) (h : Heap) : Res := S275_1l c rounds t0 t6 t7 h
theorem TS275_3 (c : CF) : (rk d275 P0 c 40 c275.snd.fst.snd).1 (L1 (S275_0 c) 0) [] k275 gK = L3 (S275_3 c) 0 6 7 := Eq.trans (block_t (id := 0) (by kernel_rfl) (TS275_1l c)) (by funext s h; kernel_rfl)
noncomputable def S275_4 (c : CF) (t0 : AV) (h : Heap) : Res := opt (lenStr t0) fun t6 => S275_3 c t0 t6 (iL 0) h
theorem TS275_4 (c : CF) : (rk d275 P0 c 40 c275.snd).1 k275 [] k275 gK = L1 (S275_4 c) 0 := Eq.trans (seq_t (by kernel_rfl) (TS275_0 c) (seq_t (by kernel_rfl) (TS275_3 c) rfl)) (by funext s h; kernel_rfl)
noncomputable def F275 (c : CF) (a0 : AV) (h : Heap) : Res := S275_4 c a0 h
theorem TF275 (c : CF) (a0 : AV) (h : Heap) : (rk d275 P0 c 40 c275).1 k275 [] k275 gK (argsTr gl 0 [a0]) h = F275 c a0 h := Eq.trans (congrFun (congrFun (seq_t (by kernel_rfl) (TS275_4 c) rfl) _) _) (by kernel_rfl)
noncomputable def N275 : FnF := n1 F275
theorem N275_ok [Nu] : FnOk P0 gl 275 N275 := n1_ok namesOk mixedOrders lowOk Tryz.func275 (by kernel_rfl) (by kernel_rfl) (by kernel_rfl) TF275
noncomputable def c276 : Code := codeOf Tryz.f276
noncomputable def k276 : Kt := finK P0 Tryz.f276.results.toList
def d276 : List Nat := []
noncomputable def F276 (c : CF) (a0 : AV) (h : Heap) : Res := opt2 (c 275 [a0] h) fun t4 h1 => test t4 (opt (fastIndex a0 (iL 0)) fun t7 => opt (fastBin .geq t7 (uL 65)) fun t8 => test t8 (opt (fastIndex a0 (iL 0)) fun t12 => opt (fastBin .leq t12 (uL 90)) fun t13 => some (t13,h1)) (some (fL,h1))) (some (fL,h1))
theorem TF276 (c : CF) (a0 : AV) (h : Heap) : (rk d276 P0 c 15 c276).1 k276 [] k276 gK (argsTr gl 0 [a0]) h = F276 c a0 h := by kernel_rfl
noncomputable def N276 : FnF := n1 F276
theorem N276_ok [Nu] : FnOk P0 gl 276 N276 := n1_ok namesOk mixedOrders lowOk Tryz.func276 (by kernel_rfl) (by kernel_rfl) (by kernel_rfl) TF276
noncomputable def c280 : Code := codeOf Tryz.f280
noncomputable def k280 : Kt := finK P0 Tryz.f280.results.toList
def d280 : List Nat := []
noncomputable def S280_0 (c : CF) (t3 : AV) (h : Heap) : Res := opt (fieldAddrX 2 t3) fun t17 => opt (loadX none t17 h) fun t18 => some (t18,h)
theorem TS280_0 (c : CF) : (rk d280 P0 c 19 c280.s2).1 k280 [] k280 gK = L1 (S280_0 c) 3 := by funext s h; kernel_rfl
noncomputable def S280_1 (c : CF) (t0 t3 : AV) (h : Heap) : Res := opt (fieldAddrX 2 t3) fun t6 => opt (loadX none t6 h) fun t7 => eqH h h (opt2 (c 184 [t7] h) fun t8 h1 => eqH h1 h (test t8 (opt (fieldAddrX 2 t3) fun t10 => opt (loadX none t10 h) fun t11 => eqH h h (opt2 (c 371 [t11,(sL [97,100,100,32,115,117,98,32,109,117,108,32,110,101,103,32,99,111,110,106,32,114,101,32,105,109,32,101,113,32,108,116,32,99,97,116,32,108,101,110,32,97,116,32,99,117,116,32,108,101,116,32,105,102,32,97,114,114,97,121,32,109,97,116,99,104,32,102,110,32,99,97,108,108,32,110,117,109,32,98,121,116,101,115,32,109,111,100,117,108,101,32,105,109,112,111,114,116,32,101,120,112,111,114,116,32,116,121,112,101,32,99,111,110,115,116,32,102,117,110])] h) fun t12 h2 => eqH h2 h (opt (notX t12) fun t13 => opt (loadX (some 4) t3 h) fun t15 => eqH h h (opt2 (c 182 [t0,t13,(iL 13),t15] h) fun t16 h3 => S280_0 c t3 h3)))) (opt (loadX (some 4) t3 h) fun t15_1 => eqH h h (opt2 (c 182 [t0,fL,(iL 13),t15_1] h) fun t16_1 h4 => S280_0 c t3 h4))))
theorem TS280_1 (c : CF) : (rk d280 P0 c 19 c280.snd).1 k280 [] k280 gK = L2 (S280_1 c) 0 3 := Eq.trans (seq_t (by kernel_rfl) (TS280_0 c) rfl) (by funext s h; kernel_rfl)
noncomputable def F280 (c : CF) (a0 a1 : AV) (h : Heap) : Res := opt2 (box a1 h) fun t3 h1 => S280_1 c a0 t3 h1
theorem TF280 (c : CF) (a0 a1 : AV) (h : Heap) : (rk d280 P0 c 19 c280).1 k280 [] k280 gK (argsTr gl 0 [a0,a1]) h = F280 c a0 a1 h := Eq.trans (congrFun (congrFun (seq_t (by kernel_rfl) (TS280_1 c) rfl) _) _) (by kernel_rfl)
noncomputable def N280 : FnF := n2 F280
theorem N280_ok [Nu] : FnOk P0 gl 280 N280 := n2_ok namesOk mixedOrders lowOk Tryz.func280 (by kernel_rfl) (by kernel_rfl) (by kernel_rfl) TF280
noncomputable def c281 : Code := codeOf Tryz.f281
noncomputable def k281 : Kt := finK P0 Tryz.f281.results.toList
def d281 : List Nat := [2]
noncomputable def F281 (c : CF) (a0 a1 : AV) (h : Heap) : Res := opt2 (box a1 h) fun t3 h1 => opt (nilCheckX a0) fun t9 => opt (fieldAddrX 1 t9) fun t10 => opt (loadX none t10 h1) fun t11 => opt (fastBin .neq t11 (iL 0)) fun t12 => test t12 (none) (opt (loadX (some 4) t3 h1) fun t14 => eqH h1 h1 (opt (nilCheckX a0) fun t16 => opt (fieldAddrX 0 t16) fun t17 => opt (loadX none t17 h1) fun t18 => eqH h1 h1 (opt2 (c 372 [t14,t18] h1) fun t19 h2 => eqH h2 h1 (opt (extractX t19 0) fun t20 => opt (extractX t19 1) fun t21 => opt (extractX t19 2) fun t22 => opt (fastBin .eql t21 (iL 0)) fun t25 => opt (buildX [(iL 0),(iL 0),eL,nL] [(0,1),(1,1),(2,1),(3,1)] [(1,t22)]) fun t28 => opt2 (c 182 [a0,t25,t21,t28] h1) fun t29 h3 => some (t20,h3)))))
theorem TF281 (c : CF) (a0 a1 : AV) (h : Heap) : (rk d281 P0 c 31 c281).1 k281 [] k281 gK (argsTr gl 0 [a0,a1]) h = F281 c a0 a1 h := by kernel_rfl
noncomputable def N281 : FnF := n2 F281
theorem N281_ok [Nu] : FnOk P0 gl 281 N281 := n2_ok namesOk mixedOrders lowOk Tryz.func281 (by kernel_rfl) (by kernel_rfl) (by kernel_rfl) TF281
noncomputable def c287 : Code := codeOf Tryz.f287
noncomputable def k287 : Kt := finK P0 Tryz.f287.results.toList
def d287 : List Nat := [5]
noncomputable def S287_0 (c : CF) (h : Heap) : Res := some ((.tup [eL,fL]),h)
theorem TS287_0 (c : CF) : (rk d287 P0 c 20 c287.s2).1 k287 [] k287 gK = L0 (S287_0 c) := by funext s h; kernel_rfl
noncomputable def S287_2b (c : CF) (r1 : A4) (t0 t6 t7 t8 : AV) (h : Heap) : Res := opt (fastBin .lss t8 t7) fun t9 => test t9 (opt (indexAddrS 1 t6 t8 h) fun t11 => opt (loadX none t11 h) fun t12 => opt (cutZ 1 t0 none (some t8) none h) fun t15 => opt2 (c 72 [t15,t12] h) fun t17 h1 => test t17 (none) (opt (fastBin .add t8 (iL 1)) fun t19 => r1 t0 t6 t7 t19 h1)) (S287_0 c h)
theorem TS287_2b (c : CF) (r1 : A4) : (rk d287 P0 c 20 c287.snd.fst.snd.bd.bd).1 (L4 r1 0 6 7 8) [(0,(L0 (S287_0 c)))] k287 gK = L4 (S287_2b c r1) 0 6 7 8 := by funext s h; kernel_rfl
noncomputable def S287_1l (c : CF) : Nat → A4
  | 0 => fun _ _ _ _ _ => none
  | k + 1 => S287_2b c (S287_1l c k)
theorem TS287_1l (c : CF) : (rk d287 P0 c 20 c287.snd.fst.snd.bd).1 (L0 (S287_0 c)) [(0,(L0 (S287_0 c)))] k287 gK = L4 (S287_1l c rounds) 0 6 7 8 := loop_t (by kernel_rfl) (loop_ind (A := fun m => L4 (S287_1l c m) 0 6 7 8) rfl (fun m => TS287_2b c (S287_1l c m)) rounds)
noncomputable def S287_3 (c : CF) (t0 t6 t7 t8 : AV) (h : Heap) : Res := S287_1l c rounds t0 t6 t7 t8 h
theorem TS287_3 (c : CF) : (rk d287 P0 c 20 c287.snd.fst.snd).1 (L0 (S287_0 c)) [] k287 gK = L4 (S287_3 c) 0 6 7 8 := Eq.trans (block_t (id := 0) (by kernel_rfl) (TS287_1l c)) (by funext s h; kernel_rfl)
noncomputable def S287_4 (c : CF) (t0 : AV) (h : Heap) : Res := opt (lenS t0) fun t7 => S287_3 c t0 t0 t7 (iL 0) h
theorem TS287_4 (c : CF) : (rk d287 P0 c 20 c287.snd).1 k287 [] k287 gK = L1 (S287_4 c) 0 := Eq.trans (seq_t (by kernel_rfl) (TS287_0 c) (seq_t (by kernel_rfl) (TS287_3 c) rfl)) (by funext s h; kernel_rfl)
noncomputable def F287 (c : CF) (a0 : AV) (h : Heap) : Res := S287_4 c a0 h
theorem TF287 (c : CF) (a0 : AV) (h : Heap) : (rk d287 P0 c 20 c287).1 k287 [] k287 gK (argsTr gl 0 [a0]) h = F287 c a0 h := Eq.trans (congrFun (congrFun (seq_t (by kernel_rfl) (TS287_4 c) rfl) _) _) (by kernel_rfl)
noncomputable def N287 : FnF := n1 F287
theorem N287_ok [Nu] : FnOk P0 gl 287 N287 := n1_ok namesOk mixedOrders lowOk Tryz.func287 (by kernel_rfl) (by kernel_rfl) (by kernel_rfl) TF287
noncomputable def c288 : Code := codeOf Tryz.f288
noncomputable def k288 : Kt := finK P0 Tryz.f288.results.toList
def d288 : List Nat := []
noncomputable def F288 (c : CF) (a0 a1 : AV) (h : Heap) : Res := opt2 (c 377 [a0,a1] h) fun t7 h1 => opt (fastBin .geq t7 (iL 0)) fun t8 => some (t8,h1)
theorem TF288 (c : CF) (a0 a1 : AV) (h : Heap) : (rk d288 P0 c 9 c288).1 k288 [] k288 gK (argsTr gl 0 [a0,a1]) h = F288 c a0 a1 h := by kernel_rfl
noncomputable def N288 : FnF := n2 F288
theorem N288_ok [Nu] : FnOk P0 gl 288 N288 := n2_ok namesOk mixedOrders lowOk Tryz.func288 (by kernel_rfl) (by kernel_rfl) (by kernel_rfl) TF288
noncomputable def c293 : Code := codeOf Tryz.f293
noncomputable def k293 : Kt := finK P0 Tryz.f293.results.toList
def d293 : List Nat := []
noncomputable def S293_0 (c : CF) (t3 : AV) (h : Heap) : Res := some (t3,h)
theorem TS293_0 (c : CF) : (rk d293 P0 c 74 c293.s5).1 k293 [] k293 gK = L1 (S293_0 c) 3 := by funext s h; kernel_rfl
noncomputable def S293_2 (c : CF) (r1 : A4) (t3 t48 t49 t50 : AV) (h : Heap) : Res := opt (fastBin .add t50 (iL 1)) fun t72 => r1 t3 t48 t49 t72 h
theorem TS293_2 (c : CF) (r1 : A4) : (rk d293 P0 c 74 c293.s4.fst.snd.bd.bd.s3).1 (L4 r1 3 48 49 50) [(6,(L1 (S293_0 c) 3))] k293 gK = L4 (S293_2 c r1) 3 48 49 50 := by funext s h; kernel_rfl
noncomputable def S293_3 (c : CF) (r1 : A4) (t3 t11 t48 t49 t50 : AV) (h : Heap) : Res := opt (fieldAddrX 2 t11) fun t68 => opt (loadX none t68 h) fun t69 => opt2 (bsliceX 1 eL 1 [(0,t69)] h) fun t70 h1 => opt2 (appendX 1 16 t3 t70 h1) fun t71 h2 => S293_2 c r1 t71 t48 t49 t50 h2
theorem TS293_3 (c : CF) (r1 : A4) : (rk d293 P0 c 74 c293.s4.fst.snd.bd.bd.s2.fst.bd.s2).1 (L4 (S293_2 c r1) 3 48 49 50) [(7,(L4 (S293_2 c r1) 3 48 49 50)),(6,(L1 (S293_0 c) 3))] k293 gK = L5 (S293_3 c r1) 3 11 48 49 50 := by funext s h; kernel_rfl
noncomputable def S293_5b (c : CF) (r1 : A4) (r4 : A8) (t3 t11 t48 t49 t50 t55 t56 t57 : AV) (h : Heap) : Res := opt (fastBin .lss t57 t56) fun t58 => test t58 (opt (indexAddrS 2 t55 t57 h) fun t59 => opt (loadX (some 2) t59 h) fun t60 => opt2 (box (.agg [eL,eL]) h) fun t13 h1 => optH (storeX 2 t13 t60 h1) fun h2 => opt (fieldAddrX 1 t13) fun t62 => opt (loadX none t62 h2) fun t63 => opt2 (bsliceX 1 eL 1 [(0,t63)] h2) fun t64 h3 => opt2 (appendX 1 16 t3 t64 h3) fun t65 h4 => opt (fastBin .add t57 (iL 1)) fun t66 => r4 t65 t11 t48 t49 t50 t55 t56 t66 h4) (S293_3 c r1 t3 t11 t48 t49 t50 h)
theorem TS293_5b (c : CF) (r1 : A4) (r4 : A8) : (rk d293 P0 c 74 c293.s4.fst.snd.bd.bd.s2.fst.bd.snd.fst.snd.bd.bd).1 (L8 r4 3 11 48 49 50 55 56 57) [(8,(L5 (S293_3 c r1) 3 11 48 49 50)),(7,(L4 (S293_2 c r1) 3 48 49 50)),(6,(L1 (S293_0 c) 3))] k293 gK = L8 (S293_5b c r1 r4) 3 11 48 49 50 55 56 57 := by funext s h; kernel_rfl
noncomputable def S293_4l (c : CF) (r1 : A4) : Nat → A8
  | 0 => fun _ _ _ _ _ _ _ _ _ => none
  | k + 1 => S293_5b c r1 (S293_4l c r1 k)
theorem TS293_4l (c : CF) (r1 : A4) : (rk d293 P0 c 74 c293.s4.fst.snd.bd.bd.s2.fst.bd.snd.fst.snd.bd).1 (L5 (S293_3 c r1) 3 11 48 49 50) [(8,(L5 (S293_3 c r1) 3 11 48 49 50)),(7,(L4 (S293_2 c r1) 3 48 49 50)),(6,(L1 (S293_0 c) 3))] k293 gK = L8 (S293_4l c r1 rounds) 3 11 48 49 50 55 56 57 := loop_t (by kernel_rfl) (loop_ind (A := fun m => L8 (S293_4l c r1 m) 3 11 48 49 50 55 56 57) rfl (fun m => TS293_5b c r1 (S293_4l c r1 m)) rounds)
noncomputable def S293_6 (c : CF) (r1 : A4) (t3 t11 t48 t49 t50 t55 t56 t57 : AV) (h : Heap) : Res := S293_4l c r1 rounds t3 t11 t48 t49 t50 t55 t56 t57 h
theorem TS293_6 (c : CF) (r1 : A4) : (rk d293 P0 c 74 c293.s4.fst.snd.bd.bd.s2.fst.bd.snd.fst.snd).1 (L5 (S293_3 c r1) 3 11 48 49 50) [(7,(L4 (S293_2 c r1) 3 48 49 50)),(6,(L1 (S293_0 c) 3))] k293 gK = L8 (S293_6 c r1) 3 11 48 49 50 55 56 57 := Eq.trans (block_t (id := 8) (by kernel_rfl) (TS293_4l c r1)) (by funext s h; kernel_rfl)
noncomputable def S293_7 (c : CF) (r1 : A4) (t3 t11 t48 t49 t50 : AV) (h : Heap) : Res := opt (fieldAddrX 1 t11) fun t54 => opt (loadX none t54 h) fun t55 => opt (lenS t55) fun t56 => S293_6 c r1 t3 t11 t48 t49 t50 t55 t56 (iL 0) h
theorem TS293_7 (c : CF) (r1 : A4) : (rk d293 P0 c 74 c293.s4.fst.snd.bd.bd.s2.fst.bd.snd).1 (L4 (S293_2 c r1) 3 48 49 50) [(7,(L4 (S293_2 c r1) 3 48 49 50)),(6,(L1 (S293_0 c) 3))] k293 gK = L5 (S293_7 c r1) 3 11 48 49 50 := Eq.trans (seq_t (by kernel_rfl) (TS293_3 c r1) (seq_t (by kernel_rfl) (TS293_6 c r1) rfl)) (by funext s h; kernel_rfl)
noncomputable def S293_8 (c : CF) (r1 : A4) (t3 t48 t49 t50 : AV) (h : Heap) : Res := opt (indexAddrS 12 t48 t50 h) fun t52 => opt (loadX (some 12) t52 h) fun t53 => opt2 (box (.agg [eL,nL,eL,(iL 0),(iL 0),eL,cL,eL,eL,nL,nL,nL]) h) fun t11 h1 => optH (storeX 12 t11 t53 h1) fun h2 => S293_7 c r1 t3 t11 t48 t49 t50 h2
theorem TS293_8 (c : CF) (r1 : A4) : (rk d293 P0 c 74 c293.s4.fst.snd.bd.bd.s2).1 (L4 r1 3 48 49 50) [(6,(L1 (S293_0 c) 3))] k293 gK = L4 (S293_8 c r1) 3 48 49 50 := Eq.trans (seq_t (by kernel_rfl) (TS293_2 c r1) (block_t (id := 7) (by kernel_rfl) (seq_t (by kernel_rfl) (TS293_7 c r1) rfl))) (by funext s h; kernel_rfl)
noncomputable def S293_9 (c : CF) (r1 : A4) (t3 t48 t49 t50 t51 : AV) (h : Heap) : Res := test t51 (S293_8 c r1 t3 t48 t49 t50 h) (S293_0 c t3 h)
theorem TS293_9 (c : CF) (r1 : A4) : (rk d293 P0 c 74 c293.s4.fst.snd.bd.bd.snd).1 (L4 r1 3 48 49 50) [(6,(L1 (S293_0 c) 3))] k293 gK = L5 (S293_9 c r1) 3 48 49 50 51 := Eq.trans (seq_t (by kernel_rfl) (TS293_8 c r1) rfl) (by funext s h; kernel_rfl)
noncomputable def S293_10b (c : CF) (r1 : A4) (t3 t48 t49 t50 : AV) (h : Heap) : Res := opt (fastBin .lss t50 t49) fun t51 => S293_9 c r1 t3 t48 t49 t50 t51 h
theorem TS293_10b (c : CF) (r1 : A4) : (rk d293 P0 c 74 c293.s4.fst.snd.bd.bd).1 (L4 r1 3 48 49 50) [(6,(L1 (S293_0 c) 3))] k293 gK = L4 (S293_10b c r1) 3 48 49 50 := Eq.trans (seq_t (by kernel_rfl) (TS293_9 c r1) rfl) (by funext s h; kernel_rfl)
noncomputable def S293_1l (c : CF) : Nat → A4
  | 0 => fun _ _ _ _ _ => none
  | k + 1 => S293_10b c (S293_1l c k)
theorem TS293_1l (c : CF) : (rk d293 P0 c 74 c293.s4.fst.snd.bd).1 (L1 (S293_0 c) 3) [(6,(L1 (S293_0 c) 3))] k293 gK = L4 (S293_1l c rounds) 3 48 49 50 := loop_t (by kernel_rfl) (loop_ind (A := fun m => L4 (S293_1l c m) 3 48 49 50) rfl (fun m => TS293_10b c (S293_1l c m)) rounds)
noncomputable def S293_11 (c : CF) (t3 t48 t49 t50 : AV) (h : Heap) : Res := S293_1l c rounds t3 t48 t49 t50 h
theorem TS293_11 (c : CF) : (rk d293 P0 c 74 c293.s4.fst.snd).1 (L1 (S293_0 c) 3) [] k293 gK = L4 (S293_11 c) 3 48 49 50 := Eq.trans (block_t (id := 6) (by kernel_rfl) (TS293_1l c)) (by funext s h; kernel_rfl)
noncomputable def S293_12 (c : CF) (t1 t3 : AV) (h : Heap) : Res := opt (fieldAddrX 5 t1) fun t47 => opt (loadX none t47 h) fun t48 => opt (lenS t48) fun t49 => S293_11 c t3 t48 t49 (iL 0) h
theorem TS293_12 (c : CF) : (rk d293 P0 c 74 c293.s4).1 k293 [] k293 gK = L2 (S293_12 c) 1 3 := Eq.trans (seq_t (by kernel_rfl) (TS293_0 c) (seq_t (by kernel_rfl) (TS293_11 c) rfl)) (by funext s h; kernel_rfl)
noncomputable def S293_14b (c : CF) (r13 : A5) (t1 t3 t35 t36 t37 : AV) (h : Heap) : Res := opt (fastBin .lss t37 t36) fun t38 => test t38 (opt (indexAddrS 11 t35 t37 h) fun t39 => opt (loadX (some 11) t39 h) fun t40 => opt2 (box (.agg [eL,eL,(iL 0),(iL 0),eL,cL,eL,eL,nL,nL,nL]) h) fun t9 h1 => optH (storeX 11 t9 t40 h1) fun h2 => opt (fieldAddrX 1 t9) fun t42 => opt (loadX none t42 h2) fun t43 => opt2 (bsliceX 1 eL 1 [(0,t43)] h2) fun t44 h3 => opt2 (appendX 1 16 t3 t44 h3) fun t45 h4 => opt (fastBin .add t37 (iL 1)) fun t46 => r13 t1 t45 t35 t36 t46 h4) (S293_12 c t1 t3 h)
theorem TS293_14b (c : CF) (r13 : A5) : (rk d293 P0 c 74 c293.s3.fst.snd.bd.bd).1 (L5 r13 1 3 35 36 37) [(4,(L2 (S293_12 c) 1 3))] k293 gK = L5 (S293_14b c r13) 1 3 35 36 37 := by funext s h; kernel_rfl
noncomputable def S293_13l (c : CF) : Nat → A5
  | 0 => fun _ _ _ _ _ _ => none
  | k + 1 => S293_14b c (S293_13l c k)
theorem TS293_13l (c : CF) : (rk d293 P0 c 74 c293.s3.fst.snd.bd).1 (L2 (S293_12 c) 1 3) [(4,(L2 (S293_12 c) 1 3))] k293 gK = L5 (S293_13l c rounds) 1 3 35 36 37 := loop_t (by kernel_rfl) (loop_ind (A := fun m => L5 (S293_13l c m) 1 3 35 36 37) rfl (fun m => TS293_14b c (S293_13l c m)) rounds)
noncomputable def S293_15 (c : CF) (t1 t3 t35 t36 t37 : AV) (h : Heap) : Res := S293_13l c rounds t1 t3 t35 t36 t37 h
theorem TS293_15 (c : CF) : (rk d293 P0 c 74 c293.s3.fst.snd).1 (L2 (S293_12 c) 1 3) [] k293 gK = L5 (S293_15 c) 1 3 35 36 37 := Eq.trans (block_t (id := 4) (by kernel_rfl) (TS293_13l c)) (by funext s h; kernel_rfl)
noncomputable def S293_16 (c : CF) (t1 t3 : AV) (h : Heap) : Res := opt (fieldAddrX 4 t1) fun t34 => opt (loadX none t34 h) fun t35 => opt (lenS t35) fun t36 => S293_15 c t1 t3 t35 t36 (iL 0) h
theorem TS293_16 (c : CF) : (rk d293 P0 c 74 c293.s3).1 k293 [] k293 gK = L2 (S293_16 c) 1 3 := Eq.trans (seq_t (by kernel_rfl) (TS293_12 c) (seq_t (by kernel_rfl) (TS293_15 c) rfl)) (by funext s h; kernel_rfl)
noncomputable def S293_18 (c : CF) (r17 : A5) (t1 t3 t15 t16 t17 : AV) (h : Heap) : Res := opt (fastBin .add t17 (iL 1)) fun t33 => r17 t1 t3 t15 t16 t33 h
theorem TS293_18 (c : CF) (r17 : A5) : (rk d293 P0 c 74 c293.s2.fst.snd.bd.bd.s3).1 (L5 r17 1 3 15 16 17) [(0,(L2 (S293_16 c) 1 3))] k293 gK = L5 (S293_18 c r17) 1 3 15 16 17 := by funext s h; kernel_rfl
noncomputable def S293_20b (c : CF) (r17 : A5) (r19 : A8) (t1 t3 t15 t16 t17 t22 t23 t24 : AV) (h : Heap) : Res := opt (fastBin .lss t24 t23) fun t25 => test t25 (opt (indexAddrS 2 t22 t24 h) fun t26 => opt (loadX (some 2) t26 h) fun t27 => opt2 (box (.agg [eL,nL]) h) fun t7 h1 => optH (storeX 2 t7 t27 h1) fun h2 => opt (fieldAddrX 1 t7) fun t29 => opt (loadX none t29 h2) fun t30 => opt2 (appendX 1 16 t3 t30 h2) fun t31 h3 => opt (fastBin .add t24 (iL 1)) fun t32 => r19 t1 t31 t15 t16 t17 t22 t23 t32 h3) (S293_18 c r17 t1 t3 t15 t16 t17 h)
theorem TS293_20b (c : CF) (r17 : A5) (r19 : A8) : (rk d293 P0 c 74 c293.s2.fst.snd.bd.bd.s2.fst.bd.s2.bd.bd).1 (L8 r19 1 3 15 16 17 22 23 24) [(2,(L5 (S293_18 c r17) 1 3 15 16 17)),(1,(L5 (S293_18 c r17) 1 3 15 16 17)),(0,(L2 (S293_16 c) 1 3))] k293 gK = L8 (S293_20b c r17 r19) 1 3 15 16 17 22 23 24 := by funext s h; kernel_rfl
noncomputable def S293_19l (c : CF) (r17 : A5) : Nat → A8
  | 0 => fun _ _ _ _ _ _ _ _ _ => none
  | k + 1 => S293_20b c r17 (S293_19l c r17 k)
theorem TS293_19l (c : CF) (r17 : A5) : (rk d293 P0 c 74 c293.s2.fst.snd.bd.bd.s2.fst.bd.s2.bd).1 (L5 (S293_18 c r17) 1 3 15 16 17) [(2,(L5 (S293_18 c r17) 1 3 15 16 17)),(1,(L5 (S293_18 c r17) 1 3 15 16 17)),(0,(L2 (S293_16 c) 1 3))] k293 gK = L8 (S293_19l c r17 rounds) 1 3 15 16 17 22 23 24 := loop_t (by kernel_rfl) (loop_ind (A := fun m => L8 (S293_19l c r17 m) 1 3 15 16 17 22 23 24) rfl (fun m => TS293_20b c r17 (S293_19l c r17 m)) rounds)
noncomputable def S293_21 (c : CF) (r17 : A5) (t1 t3 t15 t16 t17 t22 t23 t24 : AV) (h : Heap) : Res := S293_19l c r17 rounds t1 t3 t15 t16 t17 t22 t23 t24 h
theorem TS293_21 (c : CF) (r17 : A5) : (rk d293 P0 c 74 c293.s2.fst.snd.bd.bd.s2.fst.bd.s2).1 (L5 (S293_18 c r17) 1 3 15 16 17) [(1,(L5 (S293_18 c r17) 1 3 15 16 17)),(0,(L2 (S293_16 c) 1 3))] k293 gK = L8 (S293_21 c r17) 1 3 15 16 17 22 23 24 := Eq.trans (block_t (id := 2) (by kernel_rfl) (TS293_19l c r17)) (by funext s h; kernel_rfl)
noncomputable def S293_22 (c : CF) (r17 : A5) (t1 t3 t5 t15 t16 t17 : AV) (h : Heap) : Res := opt (fieldAddrX 1 t5) fun t21 => opt (loadX none t21 h) fun t22 => opt (lenS t22) fun t23 => S293_21 c r17 t1 t3 t15 t16 t17 t22 t23 (iL 0) h
theorem TS293_22 (c : CF) (r17 : A5) : (rk d293 P0 c 74 c293.s2.fst.snd.bd.bd.s2.fst.bd.snd).1 (L5 (S293_18 c r17) 1 3 15 16 17) [(1,(L5 (S293_18 c r17) 1 3 15 16 17)),(0,(L2 (S293_16 c) 1 3))] k293 gK = L6 (S293_22 c r17) 1 3 5 15 16 17 := Eq.trans (seq_t (by kernel_rfl) (TS293_21 c r17) rfl) (by funext s h; kernel_rfl)
noncomputable def S293_23 (c : CF) (r17 : A5) (t1 t3 t15 t16 t17 : AV) (h : Heap) : Res := opt (indexAddrS 2 t15 t17 h) fun t19 => opt (loadX (some 2) t19 h) fun t20 => opt2 (box (.agg [eL,nL]) h) fun t5 h1 => optH (storeX 2 t5 t20 h1) fun h2 => S293_22 c r17 t1 t3 t5 t15 t16 t17 h2
theorem TS293_23 (c : CF) (r17 : A5) : (rk d293 P0 c 74 c293.s2.fst.snd.bd.bd.s2).1 (L5 r17 1 3 15 16 17) [(0,(L2 (S293_16 c) 1 3))] k293 gK = L5 (S293_23 c r17) 1 3 15 16 17 := Eq.trans (seq_t (by kernel_rfl) (TS293_18 c r17) (block_t (id := 1) (by kernel_rfl) (seq_t (by kernel_rfl) (TS293_22 c r17) rfl))) (by funext s h; kernel_rfl)
noncomputable def S293_24 (c : CF) (r17 : A5) (t1 t3 t15 t16 t17 t18 : AV) (h : Heap) : Res := test t18 (S293_23 c r17 t1 t3 t15 t16 t17 h) (S293_16 c t1 t3 h)
theorem TS293_24 (c : CF) (r17 : A5) : (rk d293 P0 c 74 c293.s2.fst.snd.bd.bd.snd).1 (L5 r17 1 3 15 16 17) [(0,(L2 (S293_16 c) 1 3))] k293 gK = L6 (S293_24 c r17) 1 3 15 16 17 18 := Eq.trans (seq_t (by kernel_rfl) (TS293_23 c r17) rfl) (by funext s h; kernel_rfl)
noncomputable def S293_25b (c : CF) (r17 : A5) (t1 t3 t15 t16 t17 : AV) (h : Heap) : Res := opt (fastBin .lss t17 t16) fun t18 => S293_24 c r17 t1 t3 t15 t16 t17 t18 h
theorem TS293_25b (c : CF) (r17 : A5) : (rk d293 P0 c 74 c293.s2.fst.snd.bd.bd).1 (L5 r17 1 3 15 16 17) [(0,(L2 (S293_16 c) 1 3))] k293 gK = L5 (S293_25b c r17) 1 3 15 16 17 := Eq.trans (seq_t (by kernel_rfl) (TS293_24 c r17) rfl) (by funext s h; kernel_rfl)
noncomputable def S293_17l (c : CF) : Nat → A5
  | 0 => fun _ _ _ _ _ _ => none
  | k + 1 => S293_25b c (S293_17l c k)
theorem TS293_17l (c : CF) : (rk d293 P0 c 74 c293.s2.fst.snd.bd).1 (L2 (S293_16 c) 1 3) [(0,(L2 (S293_16 c) 1 3))] k293 gK = L5 (S293_17l c rounds) 1 3 15 16 17 := loop_t (by kernel_rfl) (loop_ind (A := fun m => L5 (S293_17l c m) 1 3 15 16 17) rfl (fun m => TS293_25b c (S293_17l c m)) rounds)
noncomputable def S293_26 (c : CF) (t1 t3 t15 t16 t17 : AV) (h : Heap) : Res := S293_17l c rounds t1 t3 t15 t16 t17 h
theorem TS293_26 (c : CF) : (rk d293 P0 c 74 c293.s2.fst.snd).1 (L2 (S293_16 c) 1 3) [] k293 gK = L5 (S293_26 c) 1 3 15 16 17 := Eq.trans (block_t (id := 0) (by kernel_rfl) (TS293_17l c)) (by funext s h; kernel_rfl)
noncomputable def S293_27 (c : CF) (t1 t3 : AV) (h : Heap) : Res := opt (fieldAddrX 3 t1) fun t14 => opt (loadX none t14 h) fun t15 => opt (lenS t15) fun t16 => S293_26 c t1 t3 t15 t16 (iL 0) h
theorem TS293_27 (c : CF) : (rk d293 P0 c 74 c293.s2).1 k293 [] k293 gK = L2 (S293_27 c) 1 3 := Eq.trans (seq_t (by kernel_rfl) (TS293_16 c) (seq_t (by kernel_rfl) (TS293_26 c) rfl)) (by funext s h; kernel_rfl)
noncomputable def S293_28 (c : CF) (t1 : AV) (h : Heap) : Res := S293_27 c t1 nL h
theorem TS293_28 (c : CF) : (rk d293 P0 c 74 c293.snd).1 k293 [] k293 gK = L1 (S293_28 c) 1 := Eq.trans (seq_t (by kernel_rfl) (TS293_27 c) rfl) (by funext s h; kernel_rfl)
noncomputable def F293 (c : CF) (a0 : AV) (h : Heap) : Res := opt2 (box a0 h) fun t1 h1 => S293_28 c t1 h1
theorem TF293 (c : CF) (a0 : AV) (h : Heap) : (rk d293 P0 c 74 c293).1 k293 [] k293 gK (argsTr gl 0 [a0]) h = F293 c a0 h := Eq.trans (congrFun (congrFun (seq_t (by kernel_rfl) (TS293_28 c) rfl) _) _) (by kernel_rfl)
noncomputable def N293 : FnF := n1 F293
theorem N293_ok [Nu] : FnOk P0 gl 293 N293 := n1_ok namesOk mixedOrders lowOk Tryz.func293 (by kernel_rfl) (by kernel_rfl) (by kernel_rfl) TF293
noncomputable def c294 : Code := codeOf Tryz.f294
noncomputable def k294 : Kt := finK P0 Tryz.f294.results.toList
def d294 : List Nat := []
noncomputable def F294 (c : CF) (a0 a1 : AV) (h : Heap) : Res := opt2 (box a0 h) fun t2 h1 => opt2 (c 147 [a1] h1) fun t6 h2 => test t6 (opt2 (c 380 [a1] h2) fun t9 h3 => opt2 (c 379 [t9,(.fn (.func 381) [] [t2])] h3) fun t11 h4 => opt (notX t11) fun t12 => some (t12,h4)) (some (fL,h2))
theorem TF294 (c : CF) (a0 a1 : AV) (h : Heap) : (rk d294 P0 c 14 c294).1 k294 [] k294 gK (argsTr gl 0 [a0,a1]) h = F294 c a0 a1 h := by kernel_rfl
noncomputable def N294 : FnF := n2 F294
theorem N294_ok [Nu] : FnOk P0 gl 294 N294 := n2_ok namesOk mixedOrders lowOk Tryz.func294 (by kernel_rfl) (by kernel_rfl) (by kernel_rfl) TF294
noncomputable def c295 : Code := codeOf Tryz.f295
noncomputable def k295 : Kt := finK P0 Tryz.f295.results.toList
def d295 : List Nat := []
noncomputable def S295_0 (c : CF) (t1 t5 : AV) (h : Heap) : Res := opt2 (c 128 [t5,t1] h) fun t22 h1 => some (t22,h1)
theorem TS295_0 (c : CF) : (rk d295 P0 c 23 c295.s3).1 k295 [] k295 gK = L2 (S295_0 c) 1 5 := by funext s h; kernel_rfl
noncomputable def S295_2b (c : CF) (r1 : A5) (t1 t5 t8 t9 t10 : AV) (h : Heap) : Res := opt (fastBin .lss t10 t9) fun t11 => test t11 (opt (indexAddrS 2 t8 t10 h) fun t12 => opt (loadX (some 2) t12 h) fun t13 => opt2 (box (.agg [eL,eL]) h) fun t7 h1 => optH (storeX 2 t7 t13 h1) fun h2 => opt (fieldAddrX 1 t7) fun t15 => opt (loadX none t15 h2) fun t16 => opt2 (bsliceX 1 eL 1 [(0,t16)] h2) fun t17 h3 => opt2 (appendX 1 16 t5 t17 h3) fun t18 h4 => opt (fastBin .add t10 (iL 1)) fun t19 => r1 t1 t18 t8 t9 t19 h4) (S295_0 c t1 t5 h)
theorem TS295_2b (c : CF) (r1 : A5) : (rk d295 P0 c 23 c295.s2.fst.snd.bd.bd).1 (L5 r1 1 5 8 9 10) [(0,(L2 (S295_0 c) 1 5))] k295 gK = L5 (S295_2b c r1) 1 5 8 9 10 := by funext s h; kernel_rfl
noncomputable def S295_1l (c : CF) : Nat → A5
  | 0 => fun _ _ _ _ _ _ => none
  | k + 1 => S295_2b c (S295_1l c k)
theorem TS295_1l (c : CF) : (rk d295 P0 c 23 c295.s2.fst.snd.bd).1 (L2 (S295_0 c) 1 5) [(0,(L2 (S295_0 c) 1 5))] k295 gK = L5 (S295_1l c rounds) 1 5 8 9 10 := loop_t (by kernel_rfl) (loop_ind (A := fun m => L5 (S295_1l c m) 1 5 8 9 10) rfl (fun m => TS295_2b c (S295_1l c m)) rounds)
noncomputable def S295_3 (c : CF) (t1 t5 t8 t9 t10 : AV) (h : Heap) : Res := S295_1l c rounds t1 t5 t8 t9 t10 h
theorem TS295_3 (c : CF) : (rk d295 P0 c 23 c295.s2.fst.snd).1 (L2 (S295_0 c) 1 5) [] k295 gK = L5 (S295_3 c) 1 5 8 9 10 := Eq.trans (block_t (id := 0) (by kernel_rfl) (TS295_1l c)) (by funext s h; kernel_rfl)
noncomputable def S295_4 (c : CF) (t0 t1 t5 : AV) (h : Heap) : Res := opt (lenS t0) fun t9 => S295_3 c t1 t5 t0 t9 (iL 0) h
theorem TS295_4 (c : CF) : (rk d295 P0 c 23 c295.s2).1 k295 [] k295 gK = L3 (S295_4 c) 0 1 5 := Eq.trans (seq_t (by kernel_rfl) (TS295_0 c) (seq_t (by kernel_rfl) (TS295_3 c) rfl)) (by funext s h; kernel_rfl)
noncomputable def S295_5 (c : CF) (t0 t1 : AV) (h : Heap) : Res := S295_4 c t0 t1 nL h
theorem TS295_5 (c : CF) : (rk d295 P0 c 23 c295.snd).1 k295 [] k295 gK = L2 (S295_5 c) 0 1 := Eq.trans (seq_t (by kernel_rfl) (TS295_4 c) rfl) (by funext s h; kernel_rfl)
noncomputable def F295 (c : CF) (a0 a1 : AV) (h : Heap) : Res := S295_5 c a0 a1 h
theorem TF295 (c : CF) (a0 a1 : AV) (h : Heap) : (rk d295 P0 c 23 c295).1 k295 [] k295 gK (argsTr gl 0 [a0,a1]) h = F295 c a0 a1 h := Eq.trans (congrFun (congrFun (seq_t (by kernel_rfl) (TS295_5 c) rfl) _) _) (by kernel_rfl)
noncomputable def N295 : FnF := n2 F295
theorem N295_ok [Nu] : FnOk P0 gl 295 N295 := n2_ok namesOk mixedOrders lowOk Tryz.func295 (by kernel_rfl) (by kernel_rfl) (by kernel_rfl) TF295
noncomputable def c297 : Code := codeOf Tryz.f297
noncomputable def k297 : Kt := finK P0 Tryz.f297.results.toList
def d297 : List Nat := []
noncomputable def F297 (c : CF) (a0 : AV) (h : Heap) : Res := opt (binX P0 .slice .eql 334 a0 nL) fun t4 => test t4 (some (nL,h)) (opt2 (bsliceX 2 (.agg [eL,eL]) 0 [] h) fun t5 h1 => opt2 (appendX 2 32 t5 a0 h1) fun t7 h2 => some (t7,h2))
theorem TF297 (c : CF) (a0 : AV) (h : Heap) : (rk d297 P0 c 8 c297).1 k297 [] k297 gK (argsTr gl 0 [a0]) h = F297 c a0 h := by kernel_rfl
noncomputable def N297 : FnF := n1 F297
theorem N297_ok [Nu] : FnOk P0 gl 297 N297 := n1_ok namesOk mixedOrders lowOk Tryz.func297 (by kernel_rfl) (by kernel_rfl) (by kernel_rfl) TF297
noncomputable def c298 : Code := codeOf Tryz.f298
noncomputable def k298 : Kt := finK P0 Tryz.f298.results.toList
def d298 : List Nat := [2,20]
noncomputable def S298_0 (c : CF) (t0 t3 : AV) (h : Heap) : Res := opt (fieldAddrX 0 t3) fun t61 => opt (loadX none t61 h) fun t62 => opt (fastBin .eql t62 (iL 4)) fun t64 => test t64 (opt (fieldAddrX 6 t3) fun t66 => opt (loadX none t66 h) fun t67 => opt (indexAddrS 9 t67 (iL 0) h) fun t68 => opt (loadX (some 9) t68 h) fun t69 => opt2 (c 298 [t0,t69] h) fun t70 h1 => opt (fieldAddrX 2 t3) fun t72 => opt (loadX none t72 h1) fun t73 => eqH h1 h1 (opt (buildX [eL,eL] [(0,1),(1,1)] [(0,t73),(1,t70)]) fun t75 => opt2 (bsliceX 2 (.agg [eL,eL]) 1 [(0,t75)] h1) fun t76 h2 => eqH h2 h1 (opt (fieldAddrX 6 t3) fun t77 => opt (loadX none t77 h1) fun t78 => eqH h1 h1 (opt (indexAddrS 9 t78 (iL 1) h1) fun t79 => eqH h1 h1 (opt (loadX (some 9) t79 h1) fun t80 => eqH h1 h1 (opt2 (c 388 [t0,t76,t80] h1) fun t81 h3 => some (t81,h3))))))) (opt (fastBin .eql t62 (iL 5)) fun t83 => test t83 (opt (loadX (some 9) t3 h) fun t85 => opt2 (c 389 [t0,t85] h) fun t86 h4 => some (t86,h4)) (opt (fastBin .eql t62 (iL 9)) fun t88 => test t88 (opt (loadX (some 9) t3 h) fun t90 => opt2 (c 390 [t0,t90] h) fun t91 h5 => some (t91,h5)) (opt (fastBin .eql t62 (iL 10)) fun t93 => test t93 (opt (loadX (some 9) t3 h) fun t95 => opt2 (c 391 [t0,t95] h) fun t96 h6 => some (t96,h6)) (opt (loadX (some 9) t3 h) fun t98 => opt2 (c 392 [t0,t98] h) fun t99 h7 => some (t99,h7)))))
theorem TS298_0 (c : CF) : (rk d298 P0 c 100 c298.s5).1 k298 [] k298 gK = L2 (S298_0 c) 0 3 := by funext s h; kernel_rfl
noncomputable def S298_1 (c : CF) (t0 t3 t5 : AV) (h : Heap) : Res := opt (fastBin .gtr t5 (iL 0)) fun t50 => test t50 (opt (fieldAddrX 6 t3) fun t52 => opt (loadX none t52 h) fun t53 => opt (lenS t53) fun t54 => opt (fastBin .geq t54 t5) fun t56 => opt (loadX (some 9) t3 h) fun t58 => opt2 (c 387 [t0,t56,(iL 12),t58] h) fun t59 h1 => opt (notX t59) fun t60 => test t60 (none) (S298_0 c t0 t3 h1)) (opt (loadX (some 9) t3 h) fun t58_1 => opt2 (c 387 [t0,fL,(iL 12),t58_1] h) fun t59_1 h2 => opt (notX t59_1) fun t60_1 => test t60_1 (none) (S298_0 c t0 t3 h2))
theorem TS298_1 (c : CF) : (rk d298 P0 c 100 c298.s4).1 k298 [] k298 gK = L3 (S298_1 c) 0 3 5 := Eq.trans (seq_t (by kernel_rfl) (TS298_0 c) rfl) (by funext s h; kernel_rfl)
noncomputable def S298_2 (c : CF) (t0 t3 : AV) (h : Heap) : Res := opt2 (mkmapX h) fun t43 h1 => optH (mapSetX (.int .i64) t43 (iL 4) (iL 2) h1) fun h2 => optH (mapSetX (.int .i64) t43 (iL 5) (iL 3) h2) fun h3 => optH (mapSetX (.int .i64) t43 (iL 9) (iL 1) h3) fun h4 => optH (mapSetX (.int .i64) t43 (iL 10) (iL 1) h4) fun h5 => optH (mapSetX (.int .i64) t43 (iL 11) (iL 1) h5) fun h6 => opt (fieldAddrX 0 t3) fun t45 => opt (loadX none t45 h6) fun t46 => opt (lookupX (.int .i64) (iL 0) t43 t46 false h6) fun t47 => S298_1 c t0 t3 t47 h6
theorem TS298_2 (c : CF) : (rk d298 P0 c 100 c298.s3).1 k298 [] k298 gK = L2 (S298_2 c) 0 3 := Eq.trans (seq_t (by kernel_rfl) (TS298_1 c) rfl) (by funext s h; kernel_rfl)
noncomputable def S298_3 (c : CF) (t0 t3 : AV) (h : Heap) : Res := opt (fieldAddrX 0 t3) fun t12 => opt (loadX none t12 h) fun t13 => opt (fastBin .eql t13 (iL 1)) fun t15 => test t15 (some ((sL [110,117,109]),h)) (opt (fastBin .eql t13 (iL 2)) fun t17 => test t17 (some ((sL [98,121,116,101,115]),h)) (opt (fastBin .eql t13 (iL 3)) fun t19 => test t19 (opt (loadX (some 9) t3 h) fun t21 => opt2 (c 382 [t0,t21] h) fun t22 h1 => some (t22,h1)) (opt (fastBin .eql t13 (iL 6)) fun t24 => test t24 (opt (loadX (some 9) t3 h) fun t26 => opt2 (c 383 [t0,t26] h) fun t27 h2 => some (t27,h2)) (opt (fastBin .eql t13 (iL 8)) fun t29 => test t29 (opt (loadX (some 9) t3 h) fun t31 => opt2 (c 384 [t0,t31] h) fun t32 h3 => some (t32,h3)) (opt (fastBin .eql t13 (iL 12)) fun t34 => test t34 (opt (loadX (some 9) t3 h) fun t36 => opt2 (c 385 [t0,t36] h) fun t37 h4 => some (t37,h4)) (opt (fastBin .eql t13 (iL 7)) fun t39 => test t39 (opt (loadX (some 9) t3 h) fun t41 => opt2 (c 386 [t0,t41] h) fun t42 h5 => some (t42,h5)) (S298_2 c t0 t3 h)))))))
theorem TS298_3 (c : CF) : (rk d298 P0 c 100 c298.s2).1 k298 [] k298 gK = L2 (S298_3 c) 0 3 := Eq.trans (seq_t (by kernel_rfl) (TS298_2 c) rfl) (by funext s h; kernel_rfl)
noncomputable def S298_4 (c : CF) (t0 t3 : AV) (h : Heap) : Res := opt (nilCheckX t0) fun t8 => opt (fieldAddrX 3 t8) fun t9 => opt (loadX none t9 h) fun t10 => opt (fastBin .neq t10 (iL 0)) fun t11 => test t11 (none) (S298_3 c t0 t3 h)
theorem TS298_4 (c : CF) : (rk d298 P0 c 100 c298.snd).1 k298 [] k298 gK = L2 (S298_4 c) 0 3 := Eq.trans (seq_t (by kernel_rfl) (TS298_3 c) rfl) (by funext s h; kernel_rfl)
noncomputable def F298 (c : CF) (a0 a1 : AV) (h : Heap) : Res := opt2 (box a1 h) fun t3 h1 => S298_4 c a0 t3 h1
theorem TF298 (c : CF) (a0 a1 : AV) (h : Heap) : (rk d298 P0 c 100 c298).1 k298 [] k298 gK (argsTr gl 0 [a0,a1]) h = F298 c a0 a1 h := Eq.trans (congrFun (congrFun (seq_t (by kernel_rfl) (TS298_4 c) rfl) _) _) (by kernel_rfl)
noncomputable def N298 : FnF := n2 F298
theorem N298_ok [Nu] : FnOk P0 gl 298 N298 := n2_ok namesOk mixedOrders lowOk Tryz.func298 (by kernel_rfl) (by kernel_rfl) (by kernel_rfl) TF298
noncomputable def c302 : Code := codeOf Tryz.f302
noncomputable def k302 : Kt := finK P0 Tryz.f302.results.toList
def d302 : List Nat := []
noncomputable def S302_0 (c : CF) (h : Heap) : Res := some ((iL (-1)),h)
theorem TS302_0 (c : CF) : (rk d302 P0 c 19 c302.s2).1 k302 [] k302 gK = L0 (S302_0 c) := by funext s h; kernel_rfl
noncomputable def S302_2b (c : CF) (r1 : A4) (t0 t1 t7 t8 : AV) (h : Heap) : Res := opt (fastBin .lss t8 t7) fun t9 => test t9 (opt (indexAddrS 2 t0 t8 h) fun t14 => opt (loadX (some 2) t14 h) fun t15 => opt2 (callV P0 c t1 [t15] h) fun t16 h1 => test t16 (some (t8,h1)) (opt (fastBin .add t8 (iL 1)) fun t18 => r1 t0 t1 t7 t18 h1)) (S302_0 c h)
theorem TS302_2b (c : CF) (r1 : A4) : (rk d302 P0 c 19 c302.snd.fst.snd.bd.bd).1 (L4 r1 0 1 7 8) [(0,(L0 (S302_0 c)))] k302 gK = L4 (S302_2b c r1) 0 1 7 8 := by funext s h; kernel_rfl
noncomputable def S302_1l (c : CF) : Nat → A4
  | 0 => fun _ _ _ _ _ => none
  | k + 1 => S302_2b c (S302_1l c k)
theorem TS302_1l (c : CF) : (rk d302 P0 c 19 c302.snd.fst.snd.bd).1 (L0 (S302_0 c)) [(0,(L0 (S302_0 c)))] k302 gK = L4 (S302_1l c rounds) 0 1 7 8 := loop_t (by kernel_rfl) (loop_ind (A := fun m => L4 (S302_1l c m) 0 1 7 8) rfl (fun m => TS302_2b c (S302_1l c m)) rounds)
noncomputable def S302_3 (c : CF) (t0 t1 t7 t8 : AV) (h : Heap) : Res := S302_1l c rounds t0 t1 t7 t8 h
theorem TS302_3 (c : CF) : (rk d302 P0 c 19 c302.snd.fst.snd).1 (L0 (S302_0 c)) [] k302 gK = L4 (S302_3 c) 0 1 7 8 := Eq.trans (block_t (id := 0) (by kernel_rfl) (TS302_1l c)) (by funext s h; kernel_rfl)
noncomputable def S302_4 (c : CF) (t0 t1 : AV) (h : Heap) : Res := opt (lenS t0) fun t7 => S302_3 c t0 t1 t7 (iL 0) h
theorem TS302_4 (c : CF) : (rk d302 P0 c 19 c302.snd).1 k302 [] k302 gK = L2 (S302_4 c) 0 1 := Eq.trans (seq_t (by kernel_rfl) (TS302_0 c) (seq_t (by kernel_rfl) (TS302_3 c) rfl)) (by funext s h; kernel_rfl)
noncomputable def F302 (c : CF) (a0 a1 : AV) (h : Heap) : Res := S302_4 c a0 a1 h
theorem TF302 (c : CF) (a0 a1 : AV) (h : Heap) : (rk d302 P0 c 19 c302).1 k302 [] k302 gK (argsTr gl 0 [a0,a1]) h = F302 c a0 a1 h := Eq.trans (congrFun (congrFun (seq_t (by kernel_rfl) (TS302_4 c) rfl) _) _) (by kernel_rfl)
noncomputable def N302 : FnF := n2 F302
theorem N302_ok [Nu] : FnOk P0 gl 302 N302 := n2_ok namesOk mixedOrders lowOk Tryz.func302 (by kernel_rfl) (by kernel_rfl) (by kernel_rfl) TF302
noncomputable def c308 : Code := codeOf Tryz.f308
noncomputable def k308 : Kt := finK P0 Tryz.f308.results.toList
def d308 : List Nat := []
noncomputable def F308 (c : CF) (a0 a1 : AV) (h : Heap) : Res := opt2 (box a1 h) fun t3 h1 => opt (nilCheckX a0) fun t5 => opt (fieldAddrX 0 t5) fun t6 => opt (loadX none t6 h1) fun t7 => opt (nilCheckX t7) fun t8 => opt (fieldAddrX 16 t8) fun t9 => opt (loadX none t9 h1) fun t10 => opt (fastBin .eql t10 (iL 0)) fun t11 => test t11 (opt (fieldAddrX 0 t3) fun t13 => opt (loadX none t13 h1) fun t14 => eqH h1 h1 (opt2 (c 397 [a0,t14] h1) fun t15 h2 => opt (loadX (some 9) t3 h1) fun t16 => eqH h1 h1 (opt (loadX (some 9) t3 h2) fun t16_1 => eqK t16_1 t16 (eqH h2 h2 (opt2 (callV P0 c t15 [t16] h2) fun t17 h3 => some ((.lit (.tuple #[])),h3)))))) (some ((.lit (.tuple #[])),h1))
theorem TF308 (c : CF) (a0 a1 : AV) (h : Heap) : (rk d308 P0 c 18 c308).1 k308 [] k308 gK (argsTr gl 0 [a0,a1]) h = F308 c a0 a1 h := by kernel_rfl
noncomputable def N308 : FnF := n2 F308
theorem N308_ok [Nu] : FnOk P0 gl 308 N308 := n2_ok namesOk mixedOrders lowOk Tryz.func308 (by kernel_rfl) (by kernel_rfl) (by kernel_rfl) TF308
noncomputable def c309 : Code := codeOf Tryz.f309
noncomputable def k309 : Kt := finK P0 Tryz.f309.results.toList
def d309 : List Nat := []
noncomputable def F309 (c : CF) (a0 a1 a2 : AV) (h : Heap) : Res := opt2 (box a1 h) fun t4 h1 => opt (nilCheckX a0) fun t8 => opt (fieldAddrX 2 t8) fun t9 => opt (loadX none t9 h1) fun t10 => eqH h1 h1 (opt (loadX (some 10) t4 h1) fun t11 => eqH h1 h1 (opt2 (bsliceX 10 (.agg [(iL 0),(iL 0),(iL 0),(iL 0),cL,eL,nL,nL,(iL 0),(iL 0)]) 1 [(0,t11)] h1) fun t12 h2 => opt (loadX none t9 h2) fun t10_1 => eqK t10_1 t10 (eqH h2 h2 (opt2 (appendX 10 128 t10 t12 h2) fun t13 h3 => opt (nilCheckX a0) fun t14 => opt (fieldAddrX 2 t14) fun t15 => optH (storeX 1 t15 t13 h3) fun h4 => opt (nilCheckX a0) fun t17 => opt (fieldAddrX 5 t17) fun t18 => opt (loadX none t18 h4) fun t19 => opt (fastBin .add t19 a2) fun t21 => opt (nilCheckX a0) fun t22 => opt (fieldAddrX 5 t22) fun t23 => optH (storeX 1 t23 t21 h4) fun h5 => opt (nilCheckX a0) fun t25 => opt (fieldAddrX 0 t25) fun t26 => opt (loadX none t26 h5) fun t27 => eqH h5 h5 (opt (nilCheckX a0) fun t29 => opt (fieldAddrX 5 t29) fun t30 => opt (loadX none t30 h5) fun t31 => eqH h5 h5 (opt (fastBin .leq t31 (iL 48)) fun t32 => opt2 (c 311 [t27,t32,(iL 20)] h5) fun t33 h6 => some ((.lit (.tuple #[])),h6)))))))
theorem TF309 (c : CF) (a0 a1 a2 : AV) (h : Heap) : (rk d309 P0 c 34 c309).1 k309 [] k309 gK (argsTr gl 0 [a0,a1,a2]) h = F309 c a0 a1 a2 h := by kernel_rfl
noncomputable def N309 : FnF := n3 F309
theorem N309_ok [Nu] : FnOk P0 gl 309 N309 := n3_ok namesOk mixedOrders lowOk Tryz.func309 (by kernel_rfl) (by kernel_rfl) (by kernel_rfl) TF309
noncomputable def c310 : Code := codeOf Tryz.f310
noncomputable def k310 : Kt := finK P0 Tryz.f310.results.toList
def d310 : List Nat := []
noncomputable def S310_0 (c : CF) (t0 t7 : AV) (h : Heap) : Res := opt2 (c 399 [t7] h) fun t146 h1 => opt (extractX t146 0) fun t147 => opt (extractX t146 1) fun t148 => opt (nilCheckX t0) fun t150 => opt (fieldAddrX 0 t150) fun t151 => opt (loadX none t151 h1) fun t152 => opt (fastBin .eql t148 (iL 0)) fun t154 => opt2 (c 311 [t152,t154,(iL 3)] h1) fun t155 h2 => some (t147,h2)
theorem TS310_0 (c : CF) : (rk d310 P0 c 157 c310.s6).1 k310 [] k310 gK = L2 (S310_0 c) 0 7 := by funext s h; kernel_rfl
noncomputable def S310_2 (c : CF) (r1 : A6) (t0 t4 t7 t74 t75 t76 : AV) (h : Heap) : Res := opt (fastBin .add t76 (iL 1)) fun t143 => r1 t0 t4 t7 t74 t75 t143 h
theorem TS310_2 (c : CF) (r1 : A6) : (rk d310 P0 c 157 c310.s5.fst.snd.bd.bd.s3).1 (L6 r1 0 4 7 74 75 76) [(2,(L2 (S310_0 c) 0 7))] k310 gK = L6 (S310_2 c r1) 0 4 7 74 75 76 := by funext s h; kernel_rfl
noncomputable def S310_3 (c : CF) (r1 : A6) (t0 t4 t7 t9 t74 t75 t76 : AV) (h : Heap) : Res := opt (fieldAddrX 0 t9) fun t139 => opt (loadX (some 7) t139 h) fun t140 => opt2 (bsliceX 7 (.agg [(iL 0),(iL 0),(iL 0),(iL 0),cL,eL,nL]) 1 [(0,t140)] h) fun t141 h1 => opt2 (appendX 7 88 t7 t141 h1) fun t142 h2 => S310_2 c r1 t0 t4 t142 t74 t75 t76 h2
theorem TS310_3 (c : CF) (r1 : A6) : (rk d310 P0 c 157 c310.s5.fst.snd.bd.bd.s2.fst.bd.s4).1 (L6 (S310_2 c r1) 0 4 7 74 75 76) [(3,(L6 (S310_2 c r1) 0 4 7 74 75 76)),(2,(L2 (S310_0 c) 0 7))] k310 gK = L7 (S310_3 c r1) 0 4 7 9 74 75 76 := by funext s h; kernel_rfl
noncomputable def S310_4 (c : CF) (r1 : A6) (t0 t4 t7 t9 t74 t75 t76 : AV) (h : Heap) : Res := opt (fieldAddrX 0 t9) fun t102 => opt (fieldAddrX 1 t102) fun t103 => opt (loadX none t103 h) fun t104 => opt2 (c 160 [t104] h) fun t105 h1 => opt (extractX t105 0) fun t106 => opt (extractX t105 1) fun t107 => test t107 (opt (nilCheckX t0) fun t110 => opt (fieldAddrX 0 t110) fun t111 => opt (loadX none t111 h1) fun t112 => eqH h1 h1 (opt (nilCheckX t0) fun t114 => opt (fieldAddrX 0 t114) fun t115 => opt (loadX none t115 h1) fun t116 => eqH h1 h1 (opt (nilCheckX t116) fun t117 => opt (fieldAddrX 8 t117) fun t118 => opt (fieldAddrX 7 t118) fun t119 => opt (loadX none t119 h1) fun t120 => eqH h1 h1 (opt (nilCheckX t0) fun t122 => opt (fieldAddrX 1 t122) fun t123 => opt (loadX none t123 h1) fun t124 => eqH h1 h1 (opt (fieldAddrX 0 t9) fun t125 => opt (fieldAddrX 0 t125) fun t126 => opt (loadX none t126 h1) fun t127 => eqH h1 h1 (opt (fastBin .add t127 t106) fun t129 => opt (fieldAddrX 8 t9) fun t130 => opt (loadX none t130 h1) fun t131 => eqH h1 h1 (opt (buildX [(iL 0),(iL 0),(iL 0)] [(0,1),(1,1),(2,1)] [(0,t124),(1,t129),(2,t131)]) fun t132 => opt2 (bsliceX 3 (.agg [(iL 0),(iL 0),(iL 0)]) 1 [(0,t132)] h1) fun t133 h2 => eqH h2 h1 (opt2 (appendX 3 24 t120 t133 h1) fun t134 h3 => opt (loadX none t111 h3) fun t112_1 => eqK t112_1 t112 (eqH h3 h3 (opt (nilCheckX t112) fun t135 => opt (fieldAddrX 8 t135) fun t136 => opt (fieldAddrX 7 t136) fun t137 => optH (storeX 1 t137 t134 h3) fun h4 => S310_3 c r1 t0 t4 t7 t9 t74 t75 t76 h4)))))))))) (S310_3 c r1 t0 t4 t7 t9 t74 t75 t76 h1)
theorem TS310_4 (c : CF) (r1 : A6) : (rk d310 P0 c 157 c310.s5.fst.snd.bd.bd.s2.fst.bd.s3).1 (L6 (S310_2 c r1) 0 4 7 74 75 76) [(3,(L6 (S310_2 c r1) 0 4 7 74 75 76)),(2,(L2 (S310_0 c) 0 7))] k310 gK = L7 (S310_4 c r1) 0 4 7 9 74 75 76 := Eq.trans (seq_t (by kernel_rfl) (TS310_3 c r1) rfl) (by funext s h; kernel_rfl)
noncomputable def S310_6b (c : CF) (r1 : A6) (r5 : A10) (t0 t4 t7 t9 t74 t75 t76 t84 t85 t86 : AV) (h : Heap) : Res := opt (fastBin .lss t86 t85) fun t87 => test t87 (opt (indexAddrS 1 t84 t86 h) fun t89 => opt (loadX none t89 h) fun t90 => opt (fieldAddrX 0 t9) fun t91 => opt (fieldAddrX 6 t91) fun t92 => opt (loadX none t92 h) fun t93 => eqH h h (opt (indexAddrS 1 t4 t90 h) fun t97 => eqH h h (opt (loadX none t97 h) fun t98 => eqH h h (opt (indexAddrS 1 t93 t86 h) fun t99 => eqH h h (optH (storeX 1 t99 t98 h) fun h1 => opt (fastBin .add t86 (iL 1)) fun t100 => r5 t0 t4 t7 t9 t74 t75 t76 t84 t85 t100 h1))))) (S310_4 c r1 t0 t4 t7 t9 t74 t75 t76 h)
theorem TS310_6b (c : CF) (r1 : A6) (r5 : A10) : (rk d310 P0 c 157 c310.s5.fst.snd.bd.bd.s2.fst.bd.s2.fst.snd.bd.bd).1 (L10 r5 0 4 7 9 74 75 76 84 85 86) [(4,(L7 (S310_4 c r1) 0 4 7 9 74 75 76)),(3,(L6 (S310_2 c r1) 0 4 7 74 75 76)),(2,(L2 (S310_0 c) 0 7))] k310 gK = L10 (S310_6b c r1 r5) 0 4 7 9 74 75 76 84 85 86 := by funext s h; kernel_rfl
noncomputable def S310_5l (c : CF) (r1 : A6) : Nat → A10
  | 0 => fun _ _ _ _ _ _ _ _ _ _ _ => none
  | k + 1 => S310_6b c r1 (S310_5l c r1 k)
theorem TS310_5l (c : CF) (r1 : A6) : (rk d310 P0 c 157 c310.s5.fst.snd.bd.bd.s2.fst.bd.s2.fst.snd.bd).1 (L7 (S310_4 c r1) 0 4 7 9 74 75 76) [(4,(L7 (S310_4 c r1) 0 4 7 9 74 75 76)),(3,(L6 (S310_2 c r1) 0 4 7 74 75 76)),(2,(L2 (S310_0 c) 0 7))] k310 gK = L10 (S310_5l c r1 rounds) 0 4 7 9 74 75 76 84 85 86 := loop_t (by kernel_rfl) (loop_ind (A := fun m => L10 (S310_5l c r1 m) 0 4 7 9 74 75 76 84 85 86) rfl (fun m => TS310_6b c r1 (S310_5l c r1 m)) rounds)
noncomputable def S310_7 (c : CF) (r1 : A6) (t0 t4 t7 t9 t74 t75 t76 t84 t85 t86 : AV) (h : Heap) : Res := S310_5l c r1 rounds t0 t4 t7 t9 t74 t75 t76 t84 t85 t86 h
theorem TS310_7 (c : CF) (r1 : A6) : (rk d310 P0 c 157 c310.s5.fst.snd.bd.bd.s2.fst.bd.s2.fst.snd).1 (L7 (S310_4 c r1) 0 4 7 9 74 75 76) [(3,(L6 (S310_2 c r1) 0 4 7 74 75 76)),(2,(L2 (S310_0 c) 0 7))] k310 gK = L10 (S310_7 c r1) 0 4 7 9 74 75 76 84 85 86 := Eq.trans (block_t (id := 4) (by kernel_rfl) (TS310_5l c r1)) (by funext s h; kernel_rfl)
noncomputable def S310_8 (c : CF) (r1 : A6) (t0 t4 t7 t9 t74 t75 t76 : AV) (h : Heap) : Res := opt (fieldAddrX 7 t9) fun t83 => opt (loadX none t83 h) fun t84 => opt (lenS t84) fun t85 => S310_7 c r1 t0 t4 t7 t9 t74 t75 t76 t84 t85 (iL 0) h
theorem TS310_8 (c : CF) (r1 : A6) : (rk d310 P0 c 157 c310.s5.fst.snd.bd.bd.s2.fst.bd.s2).1 (L6 (S310_2 c r1) 0 4 7 74 75 76) [(3,(L6 (S310_2 c r1) 0 4 7 74 75 76)),(2,(L2 (S310_0 c) 0 7))] k310 gK = L7 (S310_8 c r1) 0 4 7 9 74 75 76 := Eq.trans (seq_t (by kernel_rfl) (TS310_4 c r1) (seq_t (by kernel_rfl) (TS310_7 c r1) rfl)) (by funext s h; kernel_rfl)
noncomputable def S310_9 (c : CF) (r1 : A6) (t0 t4 t7 t9 t74 t75 t76 : AV) (h : Heap) : Res := opt (fieldAddrX 9 t9) fun t80 => opt (loadX none t80 h) fun t81 => opt (fastBin .gtr t81 (iL 0)) fun t82 => test t82 (S310_2 c r1 t0 t4 t7 t74 t75 t76 h) (S310_8 c r1 t0 t4 t7 t9 t74 t75 t76 h)
theorem TS310_9 (c : CF) (r1 : A6) : (rk d310 P0 c 157 c310.s5.fst.snd.bd.bd.s2.fst.bd.snd).1 (L6 (S310_2 c r1) 0 4 7 74 75 76) [(3,(L6 (S310_2 c r1) 0 4 7 74 75 76)),(2,(L2 (S310_0 c) 0 7))] k310 gK = L7 (S310_9 c r1) 0 4 7 9 74 75 76 := Eq.trans (seq_t (by kernel_rfl) (TS310_8 c r1) rfl) (by funext s h; kernel_rfl)
noncomputable def S310_10 (c : CF) (r1 : A6) (t0 t4 t7 t74 t75 t76 : AV) (h : Heap) : Res := opt (indexAddrS 10 t74 t76 h) fun t78 => opt (loadX (some 10) t78 h) fun t79 => opt2 (box (.agg [(iL 0),(iL 0),(iL 0),(iL 0),cL,eL,nL,nL,(iL 0),(iL 0)]) h) fun t9 h1 => optH (storeX 10 t9 t79 h1) fun h2 => S310_9 c r1 t0 t4 t7 t9 t74 t75 t76 h2
theorem TS310_10 (c : CF) (r1 : A6) : (rk d310 P0 c 157 c310.s5.fst.snd.bd.bd.s2).1 (L6 r1 0 4 7 74 75 76) [(2,(L2 (S310_0 c) 0 7))] k310 gK = L6 (S310_10 c r1) 0 4 7 74 75 76 := Eq.trans (seq_t (by kernel_rfl) (TS310_2 c r1) (block_t (id := 3) (by kernel_rfl) (seq_t (by kernel_rfl) (TS310_9 c r1) rfl))) (by funext s h; kernel_rfl)
noncomputable def S310_11 (c : CF) (r1 : A6) (t0 t4 t7 t74 t75 t76 t77 : AV) (h : Heap) : Res := test t77 (S310_10 c r1 t0 t4 t7 t74 t75 t76 h) (S310_0 c t0 t7 h)
theorem TS310_11 (c : CF) (r1 : A6) : (rk d310 P0 c 157 c310.s5.fst.snd.bd.bd.snd).1 (L6 r1 0 4 7 74 75 76) [(2,(L2 (S310_0 c) 0 7))] k310 gK = L7 (S310_11 c r1) 0 4 7 74 75 76 77 := Eq.trans (seq_t (by kernel_rfl) (TS310_10 c r1) rfl) (by funext s h; kernel_rfl)
noncomputable def S310_12b (c : CF) (r1 : A6) (t0 t4 t7 t74 t75 t76 : AV) (h : Heap) : Res := opt (fastBin .lss t76 t75) fun t77 => S310_11 c r1 t0 t4 t7 t74 t75 t76 t77 h
theorem TS310_12b (c : CF) (r1 : A6) : (rk d310 P0 c 157 c310.s5.fst.snd.bd.bd).1 (L6 r1 0 4 7 74 75 76) [(2,(L2 (S310_0 c) 0 7))] k310 gK = L6 (S310_12b c r1) 0 4 7 74 75 76 := Eq.trans (seq_t (by kernel_rfl) (TS310_11 c r1) rfl) (by funext s h; kernel_rfl)
noncomputable def S310_1l (c : CF) : Nat → A6
  | 0 => fun _ _ _ _ _ _ _ => none
  | k + 1 => S310_12b c (S310_1l c k)
theorem TS310_1l (c : CF) : (rk d310 P0 c 157 c310.s5.fst.snd.bd).1 (L2 (S310_0 c) 0 7) [(2,(L2 (S310_0 c) 0 7))] k310 gK = L6 (S310_1l c rounds) 0 4 7 74 75 76 := loop_t (by kernel_rfl) (loop_ind (A := fun m => L6 (S310_1l c m) 0 4 7 74 75 76) rfl (fun m => TS310_12b c (S310_1l c m)) rounds)
noncomputable def S310_13 (c : CF) (t0 t4 t7 t74 t75 t76 : AV) (h : Heap) : Res := S310_1l c rounds t0 t4 t7 t74 t75 t76 h
theorem TS310_13 (c : CF) : (rk d310 P0 c 157 c310.s5.fst.snd).1 (L2 (S310_0 c) 0 7) [] k310 gK = L6 (S310_13 c) 0 4 7 74 75 76 := Eq.trans (block_t (id := 2) (by kernel_rfl) (TS310_1l c)) (by funext s h; kernel_rfl)
noncomputable def S310_14 (c : CF) (t0 t4 t7 : AV) (h : Heap) : Res := opt (nilCheckX t0) fun t72 => opt (fieldAddrX 2 t72) fun t73 => opt (loadX none t73 h) fun t74 => opt (lenS t74) fun t75 => S310_13 c t0 t4 t7 t74 t75 (iL 0) h
theorem TS310_14 (c : CF) : (rk d310 P0 c 157 c310.s5).1 k310 [] k310 gK = L3 (S310_14 c) 0 4 7 := Eq.trans (seq_t (by kernel_rfl) (TS310_0 c) (seq_t (by kernel_rfl) (TS310_13 c) rfl)) (by funext s h; kernel_rfl)
noncomputable def S310_15 (c : CF) (t0 t4 : AV) (h : Heap) : Res := S310_14 c t0 t4 nL h
theorem TS310_15 (c : CF) : (rk d310 P0 c 157 c310.s4).1 k310 [] k310 gK = L2 (S310_15 c) 0 4 := Eq.trans (seq_t (by kernel_rfl) (TS310_14 c) rfl) (by funext s h; kernel_rfl)
noncomputable def S310_17b (c : CF) (r16 : A5) (t0 t3 t4 t26 t27 : AV) (h : Heap) : Res := opt (fastBin .lss t27 t26) fun t28 => test t28 (opt (nilCheckX t0) fun t31 => opt (fieldAddrX 2 t31) fun t32 => opt (loadX none t32 h) fun t33 => opt (indexAddrS 10 t33 t27 h) fun t35 => opt (nilCheckX t35) fun t37 => opt (fieldAddrX 9 t37) fun t38 => opt (loadX none t38 h) fun t39 => opt (fastBin .gtr t39 (iL 0)) fun t40 => test t40 (opt (nilCheckX t35) fun t43 => opt (fieldAddrX 9 t43) fun t44 => opt (loadX none t44 h) fun t45 => opt (indexAddrS 1 t4 t45 h) fun t47 => optH (storeX 1 t47 t3 h) fun h1 => opt (fastBin .add t27 (iL 1)) fun t70 => r16 t0 t3 t4 t26 t70 h1) (opt (nilCheckX t35) fun t50 => opt (fieldAddrX 0 t50) fun t51 => opt (fieldAddrX 0 t51) fun t52 => optH (storeX 1 t52 t3 h) fun h2 => opt (nilCheckX t35) fun t55 => opt (fieldAddrX 7 t55) fun t56 => opt (loadX none t56 h2) fun t57 => opt (lenS t57) fun t58 => opt2 (mksliceX 1 (iL 0) 8 t58 t58 h2) fun t59 h3 => opt (nilCheckX t35) fun t60 => opt (fieldAddrX 0 t60) fun t61 => opt (fieldAddrX 6 t61) fun t62 => optH (storeX 1 t62 t59 h3) fun h4 => opt (nilCheckX t35) fun t65 => opt (fieldAddrX 0 t65) fun t66 => opt (loadX (some 7) t66 h4) fun t67 => opt2 (c 398 [t67] h4) fun t68 h5 => opt (fastBin .add t3 t68) fun t69 => opt (fastBin .add t27 (iL 1)) fun t70_1 => r16 t0 t69 t4 t26 t70_1 h5)) (S310_15 c t0 t4 h)
theorem TS310_17b (c : CF) (r16 : A5) : (rk d310 P0 c 157 c310.s3.fst.snd.bd.bd).1 (L5 r16 0 3 4 26 27) [(0,(L2 (S310_15 c) 0 4))] k310 gK = L5 (S310_17b c r16) 0 3 4 26 27 := by funext s h; kernel_rfl
noncomputable def S310_16l (c : CF) : Nat → A5
  | 0 => fun _ _ _ _ _ _ => none
  | k + 1 => S310_17b c (S310_16l c k)
theorem TS310_16l (c : CF) : (rk d310 P0 c 157 c310.s3.fst.snd.bd).1 (L2 (S310_15 c) 0 4) [(0,(L2 (S310_15 c) 0 4))] k310 gK = L5 (S310_16l c rounds) 0 3 4 26 27 := loop_t (by kernel_rfl) (loop_ind (A := fun m => L5 (S310_16l c m) 0 3 4 26 27) rfl (fun m => TS310_17b c (S310_16l c m)) rounds)
noncomputable def S310_18 (c : CF) (t0 t3 t4 t26 t27 : AV) (h : Heap) : Res := S310_16l c rounds t0 t3 t4 t26 t27 h
theorem TS310_18 (c : CF) : (rk d310 P0 c 157 c310.s3.fst.snd).1 (L2 (S310_15 c) 0 4) [] k310 gK = L5 (S310_18 c) 0 3 4 26 27 := Eq.trans (block_t (id := 0) (by kernel_rfl) (TS310_16l c)) (by funext s h; kernel_rfl)
noncomputable def S310_19 (c : CF) (t0 t3 t4 : AV) (h : Heap) : Res := opt (nilCheckX t0) fun t23 => opt (fieldAddrX 2 t23) fun t24 => opt (loadX none t24 h) fun t25 => opt (lenS t25) fun t26 => S310_18 c t0 t3 t4 t26 (iL 0) h
theorem TS310_19 (c : CF) : (rk d310 P0 c 157 c310.s3).1 k310 [] k310 gK = L3 (S310_19 c) 0 3 4 := Eq.trans (seq_t (by kernel_rfl) (TS310_15 c) (seq_t (by kernel_rfl) (TS310_18 c) rfl)) (by funext s h; kernel_rfl)
noncomputable def S310_20 (c : CF) (t0 t3 : AV) (h : Heap) : Res := opt (nilCheckX t0) fun t17 => opt (fieldAddrX 6 t17) fun t18 => opt (loadX none t18 h) fun t19 => opt (fastBin .add t19 (iL 1)) fun t20 => opt2 (mksliceX 1 (iL 0) 8 t20 t20 h) fun t21 h1 => S310_19 c t0 t3 t21 h1
theorem TS310_20 (c : CF) : (rk d310 P0 c 157 c310.s2).1 k310 [] k310 gK = L2 (S310_20 c) 0 3 := Eq.trans (seq_t (by kernel_rfl) (TS310_19 c) rfl) (by funext s h; kernel_rfl)
noncomputable def S310_21 (c : CF) (t0 : AV) (h : Heap) : Res := S310_20 c t0 (iL 0) h
theorem TS310_21 (c : CF) : (rk d310 P0 c 157 c310.snd).1 k310 [] k310 gK = L1 (S310_21 c) 0 := Eq.trans (seq_t (by kernel_rfl) (TS310_20 c) rfl) (by funext s h; kernel_rfl)
noncomputable def F310 (c : CF) (a0 : AV) (h : Heap) : Res := S310_21 c a0 h
theorem TF310 (c : CF) (a0 : AV) (h : Heap) : (rk d310 P0 c 157 c310).1 k310 [] k310 gK (argsTr gl 0 [a0]) h = F310 c a0 h := Eq.trans (congrFun (congrFun (seq_t (by kernel_rfl) (TS310_21 c) rfl) _) _) (by kernel_rfl)
noncomputable def N310 : FnF := n1 F310
theorem N310_ok [Nu] : FnOk P0 gl 310 N310 := n1_ok namesOk mixedOrders lowOk Tryz.func310 (by kernel_rfl) (by kernel_rfl) (by kernel_rfl) TF310
noncomputable def c311 : Code := codeOf Tryz.f311
noncomputable def k311 : Kt := finK P0 Tryz.f311.results.toList
def d311 : List Nat := [1]
noncomputable def F311 (c : CF) (a0 a1 a2 : AV) (h : Heap) : Res := opt (notX a1) fun t7 => test t7 (opt (nilCheckX a0) fun t10 => opt (fieldAddrX 16 t10) fun t11 => opt (loadX none t11 h) fun t12 => opt (fastBin .eql t12 (iL 0)) fun t13 => test t13 (none) (some ((.lit (.tuple #[])),h))) (some ((.lit (.tuple #[])),h))
theorem TF311 (c : CF) (a0 a1 a2 : AV) (h : Heap) : (rk d311 P0 c 19 c311).1 k311 [] k311 gK (argsTr gl 0 [a0,a1,a2]) h = F311 c a0 a1 a2 h := by kernel_rfl
noncomputable def N311 : FnF := n3 F311
theorem N311_ok [Nu] : FnOk P0 gl 311 N311 := n3_ok namesOk mixedOrders lowOk Tryz.func311 (by kernel_rfl) (by kernel_rfl) (by kernel_rfl) TF311
noncomputable def c312 : Code := codeOf Tryz.f312
noncomputable def k312 : Kt := finK P0 Tryz.f312.results.toList
def d312 : List Nat := [5,6,7,8,9,10,11,12,13,14,15,16,17,18,19,20,21,22,23,24,25,26,27,28,29,30]
noncomputable def S312_1b (c : CF) (r0 : A4) (t0 t1 t2 t4 : AV) (h : Heap) : Res := opt (fastBin .sub t2 t1) fun t23 => opt (fastBin .leq t23 (iL 12)) fun t25 => test t25 (opt2 (c 400 [t0,t1,t2,t4] h) fun t30 h1 => some ((.lit (.tuple #[])),h1)) (none)
theorem TS312_1b (c : CF) (r0 : A4) : (rk d312 P0 c 148 c312.s2.bd.bd).1 (L4 r0 0 1 2 4) [(0,k312)] k312 gK = L4 (S312_1b c r0) 0 1 2 4 := by funext s h; kernel_rfl
noncomputable def S312_0l (c : CF) : Nat → A4
  | 0 => fun _ _ _ _ _ => none
  | k + 1 => S312_1b c (S312_0l c k)
theorem TS312_0l (c : CF) : (rk d312 P0 c 148 c312.s2.bd).1 k312 [(0,k312)] k312 gK = L4 (S312_0l c rounds) 0 1 2 4 := loop_t (by kernel_rfl) (loop_ind (A := fun m => L4 (S312_0l c m) 0 1 2 4) rfl (fun m => TS312_1b c (S312_0l c m)) rounds)
noncomputable def S312_2 (c : CF) (t0 t1 t2 t4 : AV) (h : Heap) : Res := S312_0l c rounds t0 t1 t2 t4 h
theorem TS312_2 (c : CF) : (rk d312 P0 c 148 c312.s2).1 k312 [] k312 gK = L4 (S312_2 c) 0 1 2 4 := Eq.trans (block_t (id := 0) (by kernel_rfl) (TS312_0l c)) (by funext s h; kernel_rfl)
noncomputable def S312_3 (c : CF) (t0 t1 t2 t4 : AV) (h : Heap) : Res := S312_2 c t0 t1 t2 t4 h
theorem TS312_3 (c : CF) : (rk d312 P0 c 148 c312.snd).1 k312 [] k312 gK = L4 (S312_3 c) 0 1 2 4 := Eq.trans (seq_t (by kernel_rfl) (TS312_2 c) rfl) (by funext s h; kernel_rfl)
noncomputable def F312 (c : CF) (a0 a1 a2 a3 a4 : AV) (h : Heap) : Res := S312_3 c a0 a1 a2 a4 h
theorem TF312 (c : CF) (a0 a1 a2 a3 a4 : AV) (h : Heap) : (rk d312 P0 c 148 c312).1 k312 [] k312 gK (argsTr gl 0 [a0,a1,a2,a3,a4]) h = F312 c a0 a1 a2 a3 a4 h := Eq.trans (congrFun (congrFun (seq_t (by kernel_rfl) (TS312_3 c) rfl) _) _) (by kernel_rfl)
noncomputable def N312 : FnF := n5 F312
theorem N312_ok [Nu] : FnOk P0 gl 312 N312 := n5_ok namesOk mixedOrders lowOk Tryz.func312 (by kernel_rfl) (by kernel_rfl) (by kernel_rfl) TF312
noncomputable def c314 : Code := codeOf Tryz.f314
noncomputable def k314 : Kt := finK P0 Tryz.f314.results.toList
def d314 : List Nat := []
noncomputable def F314 (c : CF) (a0 a1 : AV) (h : Heap) : Res := opt (fieldAddrX 1 a0) fun t4 => opt (loadX none t4 h) fun t5 => opt (loadX none a1 h) fun t6 => opt2 (c 315 [t5,(.fn (.func 316) [t6] [])] h) fun t8 h1 => opt (extractX t8 0) fun t9 => opt (extractX t8 1) fun t10 => some ((.tup [t9,t10]),h1)
theorem TF314 (c : CF) (a0 a1 : AV) (h : Heap) : (rk d314 P0 c 11 c314).1 k314 [] k314 gK (argsTr gl 0 [a0,a1]) h = F314 c a0 a1 h := by kernel_rfl
noncomputable def N314 : FnF := n2 F314
theorem N314_ok [Nu] : FnOk P0 gl 314 N314 := n2_ok namesOk mixedOrders lowOk Tryz.func314 (by kernel_rfl) (by kernel_rfl) (by kernel_rfl) TF314
noncomputable def c315 : Code := codeOf Tryz.f315
noncomputable def k315 : Kt := finK P0 Tryz.f315.results.toList
def d315 : List Nat := [6]
noncomputable def S315_0 (c : CF) (h : Heap) : Res := some ((.tup [(iL 0),(iL 0)]),h)
theorem TS315_0 (c : CF) : (rk d315 P0 c 25 c315.s2).1 k315 [] k315 gK = L0 (S315_0 c) := by funext s h; kernel_rfl
noncomputable def S315_2b (c : CF) (r1 : A4) (t1 t9 t10 t11 : AV) (h : Heap) : Res := opt (fastBin .lss t11 t10) fun t12 => test t12 (opt (indexAddrS 4 t9 t11 h) fun t14 => opt (loadX (some 4) t14 h) fun t15 => opt2 (box (.agg [(iL 0),eL,eL,nL]) h) fun t7 h1 => optH (storeX 4 t7 t15 h1) fun h2 => opt (loadX (some 4) t7 h2) fun t18 => opt2 (callV P0 c t1 [t11,t18] h2) fun t19 h3 => opt (fastBin .neq t19 (iL 0)) fun t21 => test t21 (none) (opt (fastBin .add t11 (iL 1)) fun t24 => r1 t1 t9 t10 t24 h3)) (S315_0 c h)
theorem TS315_2b (c : CF) (r1 : A4) : (rk d315 P0 c 25 c315.snd.fst.snd.bd.bd).1 (L4 r1 1 9 10 11) [(0,(L0 (S315_0 c)))] k315 gK = L4 (S315_2b c r1) 1 9 10 11 := by funext s h; kernel_rfl
noncomputable def S315_1l (c : CF) : Nat → A4
  | 0 => fun _ _ _ _ _ => none
  | k + 1 => S315_2b c (S315_1l c k)
theorem TS315_1l (c : CF) : (rk d315 P0 c 25 c315.snd.fst.snd.bd).1 (L0 (S315_0 c)) [(0,(L0 (S315_0 c)))] k315 gK = L4 (S315_1l c rounds) 1 9 10 11 := loop_t (by kernel_rfl) (loop_ind (A := fun m => L4 (S315_1l c m) 1 9 10 11) rfl (fun m => TS315_2b c (S315_1l c m)) rounds)
noncomputable def S315_3 (c : CF) (t1 t9 t10 t11 : AV) (h : Heap) : Res := S315_1l c rounds t1 t9 t10 t11 h
theorem TS315_3 (c : CF) : (rk d315 P0 c 25 c315.snd.fst.snd).1 (L0 (S315_0 c)) [] k315 gK = L4 (S315_3 c) 1 9 10 11 := Eq.trans (block_t (id := 0) (by kernel_rfl) (TS315_1l c)) (by funext s h; kernel_rfl)
noncomputable def S315_4 (c : CF) (t0 t1 : AV) (h : Heap) : Res := opt (lenS t0) fun t10 => S315_3 c t1 t0 t10 (iL 0) h
theorem TS315_4 (c : CF) : (rk d315 P0 c 25 c315.snd).1 k315 [] k315 gK = L2 (S315_4 c) 0 1 := Eq.trans (seq_t (by kernel_rfl) (TS315_0 c) (seq_t (by kernel_rfl) (TS315_3 c) rfl)) (by funext s h; kernel_rfl)
noncomputable def F315 (c : CF) (a0 a1 : AV) (h : Heap) : Res := S315_4 c a0 a1 h
theorem TF315 (c : CF) (a0 a1 : AV) (h : Heap) : (rk d315 P0 c 25 c315).1 k315 [] k315 gK (argsTr gl 0 [a0,a1]) h = F315 c a0 a1 h := Eq.trans (congrFun (congrFun (seq_t (by kernel_rfl) (TS315_4 c) rfl) _) _) (by kernel_rfl)
noncomputable def N315 : FnF := n2 F315
theorem N315_ok [Nu] : FnOk P0 gl 315 N315 := n2_ok namesOk mixedOrders lowOk Tryz.func315 (by kernel_rfl) (by kernel_rfl) (by kernel_rfl) TF315
noncomputable def c317 : Code := codeOf Tryz.f317
noncomputable def k317 : Kt := finK P0 Tryz.f317.results.toList
def d317 : List Nat := []
noncomputable def F317 (c : CF) (a0 a1 : AV) (h : Heap) : Res := opt (fieldAddrX 2 a0) fun t4 => opt (loadX none t4 h) fun t5 => opt (loadX none a1 h) fun t6 => opt2 (c 318 [t5,(.fn (.func 319) [t6] [])] h) fun t8 h1 => opt (extractX t8 0) fun t9 => opt (extractX t8 1) fun t10 => some ((.tup [t9,t10]),h1)
theorem TF317 (c : CF) (a0 a1 : AV) (h : Heap) : (rk d317 P0 c 11 c317).1 k317 [] k317 gK (argsTr gl 0 [a0,a1]) h = F317 c a0 a1 h := by kernel_rfl
noncomputable def N317 : FnF := n2 F317
theorem N317_ok [Nu] : FnOk P0 gl 317 N317 := n2_ok namesOk mixedOrders lowOk Tryz.func317 (by kernel_rfl) (by kernel_rfl) (by kernel_rfl) TF317
noncomputable def c318 : Code := codeOf Tryz.f318
noncomputable def k318 : Kt := finK P0 Tryz.f318.results.toList
def d318 : List Nat := [6]
noncomputable def S318_0 (c : CF) (h : Heap) : Res := some ((.tup [(iL 0),(iL 0)]),h)
theorem TS318_0 (c : CF) : (rk d318 P0 c 25 c318.s2).1 k318 [] k318 gK = L0 (S318_0 c) := by funext s h; kernel_rfl
noncomputable def S318_2b (c : CF) (r1 : A4) (t1 t9 t10 t11 : AV) (h : Heap) : Res := opt (fastBin .lss t11 t10) fun t12 => test t12 (opt (indexAddrS 1 t9 t11 h) fun t14 => opt (loadX none t14 h) fun t15 => opt2 (callV P0 c t1 [t11,t15] h) fun t19 h1 => opt (fastBin .neq t19 (iL 0)) fun t21 => test t21 (none) (opt (fastBin .add t11 (iL 1)) fun t24 => r1 t1 t9 t10 t24 h1)) (S318_0 c h)
theorem TS318_2b (c : CF) (r1 : A4) : (rk d318 P0 c 25 c318.snd.fst.snd.bd.bd).1 (L4 r1 1 9 10 11) [(0,(L0 (S318_0 c)))] k318 gK = L4 (S318_2b c r1) 1 9 10 11 := by funext s h; kernel_rfl
noncomputable def S318_1l (c : CF) : Nat → A4
  | 0 => fun _ _ _ _ _ => none
  | k + 1 => S318_2b c (S318_1l c k)
theorem TS318_1l (c : CF) : (rk d318 P0 c 25 c318.snd.fst.snd.bd).1 (L0 (S318_0 c)) [(0,(L0 (S318_0 c)))] k318 gK = L4 (S318_1l c rounds) 1 9 10 11 := loop_t (by kernel_rfl) (loop_ind (A := fun m => L4 (S318_1l c m) 1 9 10 11) rfl (fun m => TS318_2b c (S318_1l c m)) rounds)
noncomputable def S318_3 (c : CF) (t1 t9 t10 t11 : AV) (h : Heap) : Res := S318_1l c rounds t1 t9 t10 t11 h
theorem TS318_3 (c : CF) : (rk d318 P0 c 25 c318.snd.fst.snd).1 (L0 (S318_0 c)) [] k318 gK = L4 (S318_3 c) 1 9 10 11 := Eq.trans (block_t (id := 0) (by kernel_rfl) (TS318_1l c)) (by funext s h; kernel_rfl)
noncomputable def S318_4 (c : CF) (t0 t1 : AV) (h : Heap) : Res := opt (lenS t0) fun t10 => S318_3 c t1 t0 t10 (iL 0) h
theorem TS318_4 (c : CF) : (rk d318 P0 c 25 c318.snd).1 k318 [] k318 gK = L2 (S318_4 c) 0 1 := Eq.trans (seq_t (by kernel_rfl) (TS318_0 c) (seq_t (by kernel_rfl) (TS318_3 c) rfl)) (by funext s h; kernel_rfl)
noncomputable def F318 (c : CF) (a0 a1 : AV) (h : Heap) : Res := S318_4 c a0 a1 h
theorem TF318 (c : CF) (a0 a1 : AV) (h : Heap) : (rk d318 P0 c 25 c318).1 k318 [] k318 gK (argsTr gl 0 [a0,a1]) h = F318 c a0 a1 h := Eq.trans (congrFun (congrFun (seq_t (by kernel_rfl) (TS318_4 c) rfl) _) _) (by kernel_rfl)
noncomputable def N318 : FnF := n2 F318
theorem N318_ok [Nu] : FnOk P0 gl 318 N318 := n2_ok namesOk mixedOrders lowOk Tryz.func318 (by kernel_rfl) (by kernel_rfl) (by kernel_rfl) TF318
noncomputable def c320 : Code := codeOf Tryz.f320
noncomputable def k320 : Kt := finK P0 Tryz.f320.results.toList
def d320 : List Nat := []
noncomputable def F320 (c : CF) (a0 a1 : AV) (h : Heap) : Res := opt (fieldAddrX 3 a0) fun t4 => opt (loadX none t4 h) fun t5 => opt (loadX none a1 h) fun t6 => opt2 (c 321 [t5,(.fn (.func 322) [t6] [])] h) fun t8 h1 => opt (extractX t8 0) fun t9 => opt (extractX t8 1) fun t10 => some ((.tup [t9,t10]),h1)
theorem TF320 (c : CF) (a0 a1 : AV) (h : Heap) : (rk d320 P0 c 11 c320).1 k320 [] k320 gK (argsTr gl 0 [a0,a1]) h = F320 c a0 a1 h := by kernel_rfl
noncomputable def N320 : FnF := n2 F320
theorem N320_ok [Nu] : FnOk P0 gl 320 N320 := n2_ok namesOk mixedOrders lowOk Tryz.func320 (by kernel_rfl) (by kernel_rfl) (by kernel_rfl) TF320
noncomputable def c321 : Code := codeOf Tryz.f321
noncomputable def k321 : Kt := finK P0 Tryz.f321.results.toList
def d321 : List Nat := [6]
noncomputable def S321_0 (c : CF) (h : Heap) : Res := some ((.tup [(iL 0),(iL 0)]),h)
theorem TS321_0 (c : CF) : (rk d321 P0 c 25 c321.s2).1 k321 [] k321 gK = L0 (S321_0 c) := by funext s h; kernel_rfl
noncomputable def S321_2b (c : CF) (r1 : A4) (t1 t9 t10 t11 : AV) (h : Heap) : Res := opt (fastBin .lss t11 t10) fun t12 => test t12 (opt (indexAddrS 3 t9 t11 h) fun t14 => opt (loadX (some 3) t14 h) fun t15 => opt2 (box (.agg [eL,eL,(iL 0)]) h) fun t7 h1 => optH (storeX 3 t7 t15 h1) fun h2 => opt (loadX (some 3) t7 h2) fun t18 => opt2 (callV P0 c t1 [t11,t18] h2) fun t19 h3 => opt (fastBin .neq t19 (iL 0)) fun t21 => test t21 (none) (opt (fastBin .add t11 (iL 1)) fun t24 => r1 t1 t9 t10 t24 h3)) (S321_0 c h)
theorem TS321_2b (c : CF) (r1 : A4) : (rk d321 P0 c 25 c321.snd.fst.snd.bd.bd).1 (L4 r1 1 9 10 11) [(0,(L0 (S321_0 c)))] k321 gK = L4 (S321_2b c r1) 1 9 10 11 := by funext s h; kernel_rfl
noncomputable def S321_1l (c : CF) : Nat → A4
  | 0 => fun _ _ _ _ _ => none
  | k + 1 => S321_2b c (S321_1l c k)
theorem TS321_1l (c : CF) : (rk d321 P0 c 25 c321.snd.fst.snd.bd).1 (L0 (S321_0 c)) [(0,(L0 (S321_0 c)))] k321 gK = L4 (S321_1l c rounds) 1 9 10 11 := loop_t (by kernel_rfl) (loop_ind (A := fun m => L4 (S321_1l c m) 1 9 10 11) rfl (fun m => TS321_2b c (S321_1l c m)) rounds)
noncomputable def S321_3 (c : CF) (t1 t9 t10 t11 : AV) (h : Heap) : Res := S321_1l c rounds t1 t9 t10 t11 h
theorem TS321_3 (c : CF) : (rk d321 P0 c 25 c321.snd.fst.snd).1 (L0 (S321_0 c)) [] k321 gK = L4 (S321_3 c) 1 9 10 11 := Eq.trans (block_t (id := 0) (by kernel_rfl) (TS321_1l c)) (by funext s h; kernel_rfl)
noncomputable def S321_4 (c : CF) (t0 t1 : AV) (h : Heap) : Res := opt (lenS t0) fun t10 => S321_3 c t1 t0 t10 (iL 0) h
theorem TS321_4 (c : CF) : (rk d321 P0 c 25 c321.snd).1 k321 [] k321 gK = L2 (S321_4 c) 0 1 := Eq.trans (seq_t (by kernel_rfl) (TS321_0 c) (seq_t (by kernel_rfl) (TS321_3 c) rfl)) (by funext s h; kernel_rfl)
noncomputable def F321 (c : CF) (a0 a1 : AV) (h : Heap) : Res := S321_4 c a0 a1 h
theorem TF321 (c : CF) (a0 a1 : AV) (h : Heap) : (rk d321 P0 c 25 c321).1 k321 [] k321 gK (argsTr gl 0 [a0,a1]) h = F321 c a0 a1 h := Eq.trans (congrFun (congrFun (seq_t (by kernel_rfl) (TS321_4 c) rfl) _) _) (by kernel_rfl)
noncomputable def N321 : FnF := n2 F321
theorem N321_ok [Nu] : FnOk P0 gl 321 N321 := n2_ok namesOk mixedOrders lowOk Tryz.func321 (by kernel_rfl) (by kernel_rfl) (by kernel_rfl) TF321
noncomputable def c323 : Code := codeOf Tryz.f323
noncomputable def k323 : Kt := finK P0 Tryz.f323.results.toList
def d323 : List Nat := []
noncomputable def F323 (c : CF) (a0 a1 : AV) (h : Heap) : Res := opt (fieldAddrX 4 a0) fun t4 => opt (loadX none t4 h) fun t5 => opt (loadX none a1 h) fun t6 => opt2 (c 324 [t5,(.fn (.func 325) [t6] [])] h) fun t8 h1 => opt (extractX t8 0) fun t9 => opt (extractX t8 1) fun t10 => some ((.tup [t9,t10]),h1)
theorem TF323 (c : CF) (a0 a1 : AV) (h : Heap) : (rk d323 P0 c 11 c323).1 k323 [] k323 gK (argsTr gl 0 [a0,a1]) h = F323 c a0 a1 h := by kernel_rfl
noncomputable def N323 : FnF := n2 F323
theorem N323_ok [Nu] : FnOk P0 gl 323 N323 := n2_ok namesOk mixedOrders lowOk Tryz.func323 (by kernel_rfl) (by kernel_rfl) (by kernel_rfl) TF323
noncomputable def c324 : Code := codeOf Tryz.f324
noncomputable def k324 : Kt := finK P0 Tryz.f324.results.toList
def d324 : List Nat := [6]
noncomputable def S324_0 (c : CF) (h : Heap) : Res := some ((.tup [(iL 0),(iL 0)]),h)
theorem TS324_0 (c : CF) : (rk d324 P0 c 25 c324.s2).1 k324 [] k324 gK = L0 (S324_0 c) := by funext s h; kernel_rfl
noncomputable def S324_2b (c : CF) (r1 : A4) (t1 t9 t10 t11 : AV) (h : Heap) : Res := opt (fastBin .lss t11 t10) fun t12 => test t12 (opt (indexAddrS 6 t9 t11 h) fun t14 => opt (loadX (some 6) t14 h) fun t15 => opt2 (box (.agg [eL,nL,(iL 0),eL,(iL 0),nL]) h) fun t7 h1 => optH (storeX 6 t7 t15 h1) fun h2 => opt (loadX (some 6) t7 h2) fun t18 => opt2 (callV P0 c t1 [t11,t18] h2) fun t19 h3 => opt (fastBin .neq t19 (iL 0)) fun t21 => test t21 (none) (opt (fastBin .add t11 (iL 1)) fun t24 => r1 t1 t9 t10 t24 h3)) (S324_0 c h)
theorem TS324_2b (c : CF) (r1 : A4) : (rk d324 P0 c 25 c324.snd.fst.snd.bd.bd).1 (L4 r1 1 9 10 11) [(0,(L0 (S324_0 c)))] k324 gK = L4 (S324_2b c r1) 1 9 10 11 := by funext s h; kernel_rfl
noncomputable def S324_1l (c : CF) : Nat → A4
  | 0 => fun _ _ _ _ _ => none
  | k + 1 => S324_2b c (S324_1l c k)
theorem TS324_1l (c : CF) : (rk d324 P0 c 25 c324.snd.fst.snd.bd).1 (L0 (S324_0 c)) [(0,(L0 (S324_0 c)))] k324 gK = L4 (S324_1l c rounds) 1 9 10 11 := loop_t (by kernel_rfl) (loop_ind (A := fun m => L4 (S324_1l c m) 1 9 10 11) rfl (fun m => TS324_2b c (S324_1l c m)) rounds)
noncomputable def S324_3 (c : CF) (t1 t9 t10 t11 : AV) (h : Heap) : Res := S324_1l c rounds t1 t9 t10 t11 h
theorem TS324_3 (c : CF) : (rk d324 P0 c 25 c324.snd.fst.snd).1 (L0 (S324_0 c)) [] k324 gK = L4 (S324_3 c) 1 9 10 11 := Eq.trans (block_t (id := 0) (by kernel_rfl) (TS324_1l c)) (by funext s h; kernel_rfl)
noncomputable def S324_4 (c : CF) (t0 t1 : AV) (h : Heap) : Res := opt (lenS t0) fun t10 => S324_3 c t1 t0 t10 (iL 0) h
theorem TS324_4 (c : CF) : (rk d324 P0 c 25 c324.snd).1 k324 [] k324 gK = L2 (S324_4 c) 0 1 := Eq.trans (seq_t (by kernel_rfl) (TS324_0 c) (seq_t (by kernel_rfl) (TS324_3 c) rfl)) (by funext s h; kernel_rfl)
noncomputable def F324 (c : CF) (a0 a1 : AV) (h : Heap) : Res := S324_4 c a0 a1 h
theorem TF324 (c : CF) (a0 a1 : AV) (h : Heap) : (rk d324 P0 c 25 c324).1 k324 [] k324 gK (argsTr gl 0 [a0,a1]) h = F324 c a0 a1 h := Eq.trans (congrFun (congrFun (seq_t (by kernel_rfl) (TS324_4 c) rfl) _) _) (by kernel_rfl)
noncomputable def N324 : FnF := n2 F324
theorem N324_ok [Nu] : FnOk P0 gl 324 N324 := n2_ok namesOk mixedOrders lowOk Tryz.func324 (by kernel_rfl) (by kernel_rfl) (by kernel_rfl) TF324
noncomputable def c325 : Code := codeOf Tryz.f325
noncomputable def k325 : Kt := finK P0 Tryz.f325.results.toList
def d325 : List Nat := [3,5,7,9,11]
noncomputable def S325_0 (c : CF) (t5 t73 : AV) (h : Heap) : Res := test t73 (none) (opt (fieldAddrX 5 t5) fun t90 => opt (loadX none t90 h) fun t91 => opt (lenS t91) fun t92 => opt (fastBin .gtr t92 (iL 2048)) fun t93 => test t93 (none) (some ((iL 0),h)))
theorem TS325_0 (c : CF) : (rk d325 P0 c 94 c325.s2.fst.bd.snd.els.snd.els.snd.els.snd).1 ((rk d325 P0 c 94 c325.s3).1 k325 [] k325 gK) [(0,((rk d325 P0 c 94 c325.s3).1 k325 [] k325 gK))] k325 gK = L2 (S325_0 c) 5 73 := by funext s h; kernel_rfl
noncomputable def S325_1 (c : CF) (t5 : AV) (h : Heap) : Res := opt (fieldAddrX 1 t5) fun t74 => opt (loadX none t74 h) fun t75 => opt2 (c 379 [t75,(.fn (.func 410) [] [])] h) fun t76 h1 => test t76 (S325_0 c t5 tL h1) (opt (fieldAddrX 3 t5) fun t78 => opt (loadX none t78 h1) fun t79 => opt2 (c 147 [t79] h1) fun t80 h2 => opt (notX t80) fun t81 => test t81 (S325_0 c t5 tL h2) (opt (loadX (some 6) t5 h2) fun t84 => opt2 (c 73 [t84] h2) fun t85 h3 => opt2 (c 147 [t85] h3) fun t86 h4 => opt (notX t86) fun t87 => S325_0 c t5 t87 h4))
theorem TS325_1 (c : CF) : (rk d325 P0 c 94 c325.s2.fst.bd.snd.els.snd.els.snd.els).1 ((rk d325 P0 c 94 c325.s3).1 k325 [] k325 gK) [(0,((rk d325 P0 c 94 c325.s3).1 k325 [] k325 gK))] k325 gK = L1 (S325_1 c) 5 := Eq.trans (seq_t (by kernel_rfl) (TS325_0 c) rfl) (by funext s h; kernel_rfl)
noncomputable def S325_2 (c : CF) (t5 t31 : AV) (h : Heap) : Res := test t31 (none) (S325_1 c t5 h)
theorem TS325_2 (c : CF) : (rk d325 P0 c 94 c325.s2.fst.bd.snd.els.snd.els.snd).1 ((rk d325 P0 c 94 c325.s3).1 k325 [] k325 gK) [(0,((rk d325 P0 c 94 c325.s3).1 k325 [] k325 gK))] k325 gK = L2 (S325_2 c) 5 31 := Eq.trans (cond_t (by kernel_rfl) rfl (TS325_1 c)) (by funext s h; kernel_rfl)
noncomputable def S325_3 (c : CF) (t5 t7 : AV) (h : Heap) : Res := opt (fastBin .gtr t7 (iL 30)) fun t33 => test t33 (S325_2 c t5 tL h) (opt (fieldAddrX 2 t5) fun t35 => opt (loadX none t35 h) fun t36 => opt (fastBin .lss t36 (iL 0)) fun t37 => test t37 (S325_2 c t5 tL h) (opt (fieldAddrX 2 t5) fun t40 => opt (loadX none t40 h) fun t41 => opt (fastBin .gtr t41 t7) fun t43 => test t43 (S325_2 c t5 tL h) (opt (fieldAddrX 2 t5) fun t47 => opt (loadX none t47 h) fun t48 => opt (fastBin .sub t7 t48) fun t49 => opt (fastBin .gtr t49 (iL 6)) fun t50 => test t50 (S325_2 c t5 tL h) (opt (fieldAddrX 4 t5) fun t53 => opt (loadX none t53 h) fun t54 => opt (fastBin .lss t54 t7) fun t56 => test t56 (S325_2 c t5 tL h) (opt (fieldAddrX 4 t5) fun t59 => opt (loadX none t59 h) fun t60 => opt (fastBin .gtr t60 (iL 24)) fun t61 => test t61 (S325_2 c t5 tL h) (opt (fieldAddrX 0 t5) fun t64 => opt (loadX none t64 h) fun t65 => opt (fastBin .neq t65 eL) fun t66 => test t66 (opt (fieldAddrX 2 t5) fun t68 => opt (loadX none t68 h) fun t69 => opt (fastBin .gtr t69 (iL 0)) fun t70 => S325_2 c t5 t70 h) (S325_2 c t5 fL h)))))))
theorem TS325_3 (c : CF) : (rk d325 P0 c 94 c325.s2.fst.bd.snd.els.snd.els).1 ((rk d325 P0 c 94 c325.s3).1 k325 [] k325 gK) [(0,((rk d325 P0 c 94 c325.s3).1 k325 [] k325 gK))] k325 gK = L2 (S325_3 c) 5 7 := Eq.trans (seq_t (by kernel_rfl) (TS325_2 c) rfl) (by funext s h; kernel_rfl)
noncomputable def S325_4 (c : CF) (t5 t7 t21 : AV) (h : Heap) : Res := test t21 (none) (S325_3 c t5 t7 h)
theorem TS325_4 (c : CF) : (rk d325 P0 c 94 c325.s2.fst.bd.snd.els.snd).1 ((rk d325 P0 c 94 c325.s3).1 k325 [] k325 gK) [(0,((rk d325 P0 c 94 c325.s3).1 k325 [] k325 gK))] k325 gK = L3 (S325_4 c) 5 7 21 := Eq.trans (cond_t (by kernel_rfl) rfl (TS325_3 c)) (by funext s h; kernel_rfl)
noncomputable def S325_5 (c : CF) (t0 t5 t7 : AV) (h : Heap) : Res := opt (fieldAddrX 0 t5) fun t22 => opt (loadX none t22 h) fun t23 => opt (fastBin .neq t23 eL) fun t24 => test t24 (opt (fieldAddrX 0 t5) fun t27 => opt (loadX none t27 h) fun t28 => opt2 (c 409 [t0,t28] h) fun t29 h1 => S325_4 c t5 t7 t29 h1) (S325_4 c t5 t7 fL h)
theorem TS325_5 (c : CF) : (rk d325 P0 c 94 c325.s2.fst.bd.snd.els).1 ((rk d325 P0 c 94 c325.s3).1 k325 [] k325 gK) [(0,((rk d325 P0 c 94 c325.s3).1 k325 [] k325 gK))] k325 gK = L3 (S325_5 c) 0 5 7 := Eq.trans (seq_t (by kernel_rfl) (TS325_4 c) rfl) (by funext s h; kernel_rfl)
noncomputable def S325_6 (c : CF) (t0 t5 t7 t11 : AV) (h : Heap) : Res := test t11 (none) (S325_5 c t0 t5 t7 h)
theorem TS325_6 (c : CF) : (rk d325 P0 c 94 c325.s2.fst.bd.snd).1 ((rk d325 P0 c 94 c325.s3).1 k325 [] k325 gK) [(0,((rk d325 P0 c 94 c325.s3).1 k325 [] k325 gK))] k325 gK = L4 (S325_6 c) 0 5 7 11 := Eq.trans (cond_t (by kernel_rfl) rfl (TS325_5 c)) (by funext s h; kernel_rfl)
noncomputable def S325_7 (c : CF) (t0 t5 t7 : AV) (h : Heap) : Res := opt (fieldAddrX 0 t5) fun t12 => opt (loadX none t12 h) fun t13 => opt (fastBin .neq t13 eL) fun t14 => test t14 (opt (fieldAddrX 0 t5) fun t16 => opt (loadX none t16 h) fun t17 => opt2 (c 184 [t17] h) fun t18 h1 => opt (notX t18) fun t19 => S325_6 c t0 t5 t7 t19 h1) (S325_6 c t0 t5 t7 fL h)
theorem TS325_7 (c : CF) : (rk d325 P0 c 94 c325.s2).1 k325 [] k325 gK = L3 (S325_7 c) 0 5 7 := Eq.trans (seq_t (by kernel_rfl) rfl (block_t (id := 0) (by kernel_rfl) (seq_t (by kernel_rfl) (TS325_6 c) rfl))) (by funext s h; kernel_rfl)
noncomputable def S325_8 (c : CF) (t0 t5 : AV) (h : Heap) : Res := opt (fieldAddrX 1 t5) fun t8 => opt (loadX none t8 h) fun t9 => opt (lenS t9) fun t10 => S325_7 c t0 t5 t10 h
theorem TS325_8 (c : CF) : (rk d325 P0 c 94 c325.snd).1 k325 [] k325 gK = L2 (S325_8 c) 0 5 := Eq.trans (seq_t (by kernel_rfl) (TS325_7 c) rfl) (by funext s h; kernel_rfl)
noncomputable def F325 (c : CF) (a0 a1 a2 : AV) (h : Heap) : Res := opt2 (box a2 h) fun t5 h1 => S325_8 c a0 t5 h1
theorem TF325 (c : CF) (a0 a1 a2 : AV) (h : Heap) : (rk d325 P0 c 94 c325).1 k325 [] k325 gK (argsTr gl 0 [a0,a1,a2]) h = F325 c a0 a1 a2 h := Eq.trans (congrFun (congrFun (seq_t (by kernel_rfl) (TS325_8 c) rfl) _) _) (by kernel_rfl)
noncomputable def N325 : FnF := n3 F325
theorem N325_ok [Nu] : FnOk P0 gl 325 N325 := n3_ok namesOk mixedOrders lowOk Tryz.func325 (by kernel_rfl) (by kernel_rfl) (by kernel_rfl) TF325
noncomputable def c326 : Code := codeOf Tryz.f326
noncomputable def k326 : Kt := finK P0 Tryz.f326.results.toList
def d326 : List Nat := []
noncomputable def F326 (c : CF) (a0 a1 : AV) (h : Heap) : Res := opt (fieldAddrX 5 a0) fun t4 => opt (loadX none t4 h) fun t5 => opt (loadX none a1 h) fun t6 => opt2 (c 318 [t5,(.fn (.func 327) [t6] [])] h) fun t8 h1 => opt (extractX t8 0) fun t9 => opt (extractX t8 1) fun t10 => some ((.tup [t9,t10]),h1)
theorem TF326 (c : CF) (a0 a1 : AV) (h : Heap) : (rk d326 P0 c 11 c326).1 k326 [] k326 gK (argsTr gl 0 [a0,a1]) h = F326 c a0 a1 h := by kernel_rfl
noncomputable def N326 : FnF := n2 F326
theorem N326_ok [Nu] : FnOk P0 gl 326 N326 := n2_ok namesOk mixedOrders lowOk Tryz.func326 (by kernel_rfl) (by kernel_rfl) (by kernel_rfl) TF326
noncomputable def c327 : Code := codeOf Tryz.f327
noncomputable def k327 : Kt := finK P0 Tryz.f327.results.toList
def d327 : List Nat := [2,4]
noncomputable def F327 (c : CF) (a0 a1 a2 : AV) (h : Heap) : Res := opt (nilCheckX a0) fun t9 => opt (fieldAddrX 8 t9) fun t10 => opt (loadX none t10 h) fun t11 => opt2 (c 72 [t11,a2] h) fun t13 h1 => opt (notX t13) fun t14 => test t14 (none) (opt (fastBin .gtr a1 (iL 0)) fun t17 => test t17 (opt (nilCheckX a0) fun t20 => opt (fieldAddrX 0 t20) fun t21 => opt (fieldAddrX 5 t21) fun t22 => opt (loadX none t22 h1) fun t23 => opt (fastBin .sub a1 (iL 1)) fun t25 => opt (indexAddrS 1 t23 t25 h1) fun t26 => opt (loadX none t26 h1) fun t27 => opt (binX P0 .none .geq 9 t27 a2) fun t29 => test t29 (none) (some ((iL 0),h1))) (some ((iL 0),h1)))
theorem TF327 (c : CF) (a0 a1 a2 : AV) (h : Heap) : (rk d327 P0 c 31 c327).1 k327 [] k327 gK (argsTr gl 0 [a0,a1,a2]) h = F327 c a0 a1 a2 h := by kernel_rfl
noncomputable def N327 : FnF := n3 F327
theorem N327_ok [Nu] : FnOk P0 gl 327 N327 := n3_ok namesOk mixedOrders lowOk Tryz.func327 (by kernel_rfl) (by kernel_rfl) (by kernel_rfl) TF327
noncomputable def c328 : Code := codeOf Tryz.f328
noncomputable def k328 : Kt := finK P0 Tryz.f328.results.toList
def d328 : List Nat := []
noncomputable def F328 (c : CF) (a0 a1 : AV) (h : Heap) : Res := opt (fieldAddrX 6 a0) fun t4 => opt (loadX none t4 h) fun t5 => opt (loadX none a1 h) fun t6 => opt2 (c 329 [t5,(.fn (.func 330) [t6] [])] h) fun t8 h1 => opt (extractX t8 0) fun t9 => opt (extractX t8 1) fun t10 => some ((.tup [t9,t10]),h1)
theorem TF328 (c : CF) (a0 a1 : AV) (h : Heap) : (rk d328 P0 c 11 c328).1 k328 [] k328 gK (argsTr gl 0 [a0,a1]) h = F328 c a0 a1 h := by kernel_rfl
noncomputable def N328 : FnF := n2 F328
theorem N328_ok [Nu] : FnOk P0 gl 328 N328 := n2_ok namesOk mixedOrders lowOk Tryz.func328 (by kernel_rfl) (by kernel_rfl) (by kernel_rfl) TF328
end Go.Proofs.YtkkjoomlfmofbaaGreatDoor
